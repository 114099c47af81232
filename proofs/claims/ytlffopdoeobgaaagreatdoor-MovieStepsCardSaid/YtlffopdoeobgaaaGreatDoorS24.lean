/-
 The texts Ni, Nj, Ub, Uf in one.
-/
import Derived.Test.YtlffopdoeobgaaaGreatDoorS23
import Derived.Test.YtlffopdoeobgaaaGreatDoorS20
import Derived.Test.YtlffopdoeobgaaaGreatDoorS17
import Derived.Deep.RegionWith
import Derived.Deep.DeepCutAuto
import Derived.Test.YtlffopdoeobgaaaGreatDoorS06
import Derived.Test.YtlffopdoeobgaaaGreatDoorS05
import Derived.Test.YtlffopdoeobgaaaGreatDoorS00
import Derived.Test.YtlffopdoeobgaaaGreatDoorS18
import Derived.Test.YtlffopdoeobgaaaGreatDoorS07
import Derived.Test.YtlffopdoeobgaaaGreatDoorS03
import Derived.Deep.RegionHeld3
import Derived.Deep.DrawnRows
set_option linter.unusedVariables false
set_option linter.unusedSimpArgs false
section
namespace Go.Proofs.YtlffopdoeobgaaaGreatDoor
open Go Go.RowKit
theorem shf1_lt {n c g : Nat} (hc : c < n) (hg : g < 4 * n) (hne : g / 4 ≠ c) : Pl.shf [c] g < 4 * (n - 1) := by
 rw [Pl.shf_one]
 split <;> omega
theorem shf2_lt {n x y g : Nat} (hxy : x < y) (hy : y < n) (hg : g < 4 * n) (h1 : g / 4 ≠ x) (h2 : g / 4 ≠ y) : Pl.shf [x, y] g < 4 * (n - 2) := by
 unfold Pl.shf
 by_cases a : x < g / 4 <;> by_cases b : y < g / 4 <;> simp [List.filter_cons, a, b] <;> omega
theorem four_of {g h : Nat} (e : g / 4 = h / 4) : g = h ∨ g = Pl.tn h 1 ∨ g = Pl.tn h 2 ∨ g = Pl.tn h 3 := by unfold Pl.tn; omega
theorem lens_out {d : Pl.Dg} (hd : Pl.Valid d) {h u : Nat} (L : Pl.Lens d h u) {x y : Nat} (hxy : x < y) (hy : y < d.n) (hp : (x = h / 4 ∧ y = u / 4) ∨ (x = u / 4 ∧ y = h / 4)) {g : Nat} (hg : g < 4 * d.n)
 (n1 : d.m g ≠ Pl.tn h 2) (n2 : d.m g ≠ Pl.tn h 3) (n3 : d.m g ≠ Pl.tn u 1) (n4 : d.m g ≠ Pl.tn u 2) (g0 : g ≠ h) (g1 : g ≠ Pl.tn h 1) (g2 : g ≠ u) (g3 : g ≠ Pl.tn u 3) : Pl.shf [x, y] (d.m g) < 4 * (d.n - 2) := by
 have hw := hd.wf
 have hu := L.hu hw
 have hgm := hw.lt g hg
 have i0 : d.m g ≠ h := fun e => g2 (by rw [← L.m0, ← e, hw.inv g hg])
 have i1 : d.m g ≠ u := fun e => g0 (by rw [← L.m2 hw, ← e, hw.inv g hg])
 have i2 : d.m g ≠ Pl.tn h 1 := fun e => g3 (by rw [← L.m1, ← e, hw.inv g hg])
 have i3 : d.m g ≠ Pl.tn u 3 := fun e => g1 (by rw [← L.m3 hw, ← e, hw.inv g hg])
 have q1 : d.m g / 4 ≠ h / 4 := fun e => by
  rcases four_of e with q | q | q | q
  ·exact i0 q
  ·exact i2 q
  ·exact n1 q
  ·exact n2 q
 have q2 : d.m g / 4 ≠ u / 4 := fun e => by
  rcases four_of e with q | q | q | q
  ·exact i1 q
  ·exact n3 q
  ·exact n4 q
  ·exact i3 q
 rcases hp with ⟨rfl, rfl⟩ | ⟨rfl, rfl⟩
 ·exact shf2_lt hxy hy hgm q1 q2
 ·exact shf2_lt hxy hy hgm q2 q1
theorem lpv_lt (d : Pl.Dg) (h : Nat) : -2 ≤ lpv d h ∧ lpv d h ≤ -1 := by unfold lpv; split <;> omega
theorem apI_in {d : Pl.Dg} (hd : Pl.Valid d) {z : Mv} (h : apC d z = 0) : TrIn (apD d z).n (apI d z) := by
 have hn := ap_n hd h
 have hw := hd.wf
 have hfew := hw.few
 obtain ⟨hk, hin, hc⟩ := apC_zero h
 obtain ⟨k, x, y, s, o⟩ := z
 simp only at hk hc
 by_cases k1 : k = 1
 ·subst k1
  have e : apI d ⟨1, x, y, s, o⟩ = ⟨2, d.n, 0, 0, false⟩ := by simp [apI]
  rw [e]
  unfold gro at hn
  simp only [if_pos] at hn
  refine ⟨fun _ => ⟨by show (0 : Int) ≤ (d.n : Int); omega, by show (d.n : Int) < _; omega⟩, fun q => by simp at q, fun q => by simp at q, fun q => absurd rfl q⟩
 by_cases k2 : k = 2
 ·subst k2
  have e : apI d ⟨2, x, y, s, o⟩ = unI d x.toNat := by simp [apI]
  rw [e]
  have hn' : ((apD d ⟨2, x, y, s, o⟩).n : Int) = d.n - 1 := by rw [hn]; simp [gro]; omega
  obtain ⟨hx0, hx1, _⟩ : 0 ≤ x ∧ x < d.n ∧ True := by
   unfold inR at hin
   simp at hin
   exact ⟨hin.1, hin.2.1, trivial⟩
  obtain ⟨c, hcx⟩ : ∃ c, c = x.toNat := ⟨_, rfl⟩
  have hcn : c < d.n := by omega
  rw [← hcx] at hc ⊢
  simp at hc
  refine ⟨fun q => by unfold unI at q; simp at q, fun q => by unfold unI at q; simp at q, fun q => by unfold unI at q; simp at q, fun _ _ _ => ?_⟩
  show -9223372036854775808 ≤ (if d.m (kA d c) = kB d c then (-1 : Int) else (Pl.shf [c] (d.m (kA d c)) : Nat)) ∧ (if d.m (kA d c) = kB d c then (-1 : Int) else (Pl.shf [c] (d.m (kA d c)) : Nat)) < 4 * ((apD d ⟨2, x, y, s, o⟩).n : Int)
  by_cases hl : d.m (kA d c) = kB d c
  ·rw [if_pos hl]
   constructor <;> omega
  ·rw [if_neg hl]
   have hkk := kk_lt hcn
   have hA := kA_lt hcn
   have hck : d.m (kk d c) / 4 = c := by
    unfold uncC at hc
    by_cases q : d.m (kk d c) / 4 = c
    ·exact q
    ·rw [if_neg q] at hc; simp at hc
   have hkc : kk d c / 4 = c := by unfold kk; split <;> (try split) <;> omega
   have no := Pl.no_opp hd hkk
   have nA : d.m (kA d c) ≠ kA d c := hw.ne _ hA
   have n1 : d.m (kA d c) ≠ kk d c := fun q => by
    have : d.m (kk d c) = kA d c := by rw [← q, hw.inv _ hA]
    exact no this
   have n2 : d.m (kA d c) ≠ d.m (kk d c) := fun q => by
    have := hw.bij.inj _ _ hA hkk q
    unfold kA Pl.tn at this
    omega
   have nk := hw.ne _ hkk
   have q : d.m (kA d c) / 4 ≠ c := fun q => by
    rcases four_of (show d.m (kk d c) / 4 = kk d c / 4 by omega) with m | m | m | m
    ·exact nk m
    ·have hB : kB d c = Pl.tn (kk d c) 3 := by unfold kB; rw [m, Pl.tn_tn]
     rcases four_of (show d.m (kA d c) / 4 = kk d c / 4 by omega) with v | v | v | v
     ·exact n1 v
     ·exact n2 (v.trans m.symm)
     ·exact nA v
     ·exact hl (v.trans hB.symm)
    ·exact no m
    ·have hB : kB d c = Pl.tn (kk d c) 1 := by unfold kB; rw [m, Pl.tn_tn]; unfold Pl.tn; omega
     rcases four_of (show d.m (kA d c) / 4 = kk d c / 4 by omega) with v | v | v | v
     ·exact n1 v
     ·exact hl (v.trans hB.symm)
     ·exact nA v
     ·exact n2 (v.trans m.symm)
   have := shf1_lt hcn (hw.lt _ hA) q
   constructor <;> omega
 by_cases k3 : k = 3
 ·subst k3
  have e : apI d ⟨3, x, y, s, o⟩ = ⟨4, d.n, d.n + 1, 0, false⟩ := by simp [apI]
  rw [e]
  have hn' : ((apD d ⟨3, x, y, s, o⟩).n : Int) = d.n + 2 := by rw [hn]; simp [gro]
  refine ⟨fun q => by simp at q, fun _ => ⟨by show (0 : Int) ≤ (d.n : Int); omega, by show (d.n : Int) < _; omega, by show (0 : Int) ≤ (d.n : Int) + 1; omega, by show (d.n : Int) + 1 < _; omega⟩, fun q => by simp at q, fun _ q => absurd rfl q⟩
 by_cases k4 : k = 4
 ·subst k4
  have e : apI d ⟨4, x, y, s, o⟩ = unpI d x.toNat y.toNat := by simp [apI]
  rw [e]
  have hn' : ((apD d ⟨4, x, y, s, o⟩).n : Int) = d.n - 2 := by rw [hn]; simp [gro]; omega
  obtain ⟨hx0, hxy, hyn⟩ : 0 ≤ x ∧ x < y ∧ y < d.n := by
   unfold inR at hin
   simp at hin
   exact ⟨hin.1, hin.2.1, hin.2.2.1⟩
  obtain ⟨a, ha⟩ : ∃ a, a = x.toNat := ⟨_, rfl⟩
  obtain ⟨b, hb⟩ : ∃ b, b = y.toNat := ⟨_, rfl⟩
  have hab : a < b := by omega
  have hbn : b < d.n := by omega
  rw [← ha, ← hb] at hc ⊢
  simp at hc
  unfold unpC at hc
  unfold unpI
  cases hl : lensI d a b with
  | none => rw [hl] at hc; simp at hc
  | some i =>
    obtain ⟨L, hp, e1, e2⟩ := lens_lens hw hab hbn hl
    obtain ⟨h', hh'⟩ : ∃ h', h' = lnH a b i := ⟨_, rfl⟩
    rw [← hh'] at L hp e1 e2
    obtain ⟨u, hu'⟩ : ∃ u, u = d.m h' := ⟨_, rfl⟩
    rw [← hu'] at L hp e1 e2
    have E := L.ne
    have hh := L.hh
    have hu := L.hu hw
    have p2 : (lensOf d h').p2 = Pl.tn h' 2 := rfl
    have p3 : (lensOf d h').p3 = Pl.tn h' 3 := by show Pl.tn (d.m (Pl.nx d h')) 2 = _; rw [e1, e2]; exact Pl.tn12 _
    have q0 : (lensOf d h').q0 = Pl.tn u 2 := by show Pl.tn (d.m h') 2 = _; rw [← hu']
    have q3 : (lensOf d h').q3 = Pl.tn u 1 := by show Pl.tn (Pl.nx d h') 2 = _; rw [e1]; exact Pl.tn32 _
    have nc := L.no_cross hd
    have l2 : Pl.tn h' 2 < 4 * d.n := Pl.tn_lt hh
    have l3 : Pl.tn h' 3 < 4 * d.n := Pl.tn_lt hh
    have r2 : Pl.tn u 2 < 4 * d.n := Pl.tn_lt hu
    have r1 : Pl.tn u 1 < 4 * d.n := Pl.tn_lt hu
    have sw : ∀ {g g' : Nat}, g < 4 * d.n → d.m g = g' → d.m g' = g := fun hg q => by rw [← q, hw.inv _ hg]
    have pz : ∀ {j k : Nat}, j % 4 ≠ k % 4 → Pl.tn h' j ≠ Pl.tn h' k := fun q => Pl.tn_ne q
    have uz : ∀ {j k : Nat}, j % 4 ≠ k % 4 → Pl.tn u j ≠ Pl.tn u k := fun q => Pl.tn_ne q
    have P3 : ∀ (c1 : d.m (Pl.tn h' 3) ≠ Pl.tn u 1) (c2 : d.m (Pl.tn h' 2) ≠ Pl.tn h' 3), ((Pl.shf [a, b] (d.m (Pl.tn h' 3)) : Nat) : Int) < 4 * ((apD d ⟨4, x, y, s, o⟩).n : Int) := fun c1 c2 => by
     have := lens_out hd L hab hbn hp l3 (fun q => c2 (sw l3 q)) (hw.ne _ l3) c1 nc (Ne.symm (Pl.pmz (by omega))) (pz (by omega)) (Pl.pm0 E) (Pl.pm E)
     omega
    have Q0 : ∀ (c1 : d.m (Pl.tn u 2) ≠ Pl.tn u 1) (c2 : d.m (Pl.tn u 2) ≠ Pl.tn h' 2), ((Pl.shf [a, b] (d.m (Pl.tn u 2)) : Nat) : Int) < 4 * ((apD d ⟨4, x, y, s, o⟩).n : Int) := fun c1 c2 => by
     have := lens_out hd L hab hbn hp r2 c2 (fun q => nc (sw r2 q)) c1 (hw.ne _ r2) (Pl.pm0 (Ne.symm E)) (Ne.symm (Pl.pm E)) (Ne.symm (Pl.pmz (by omega))) (uz (by omega))
     omega
    dsimp only
    rw [← hh']
    refine ⟨fun q => by simp [pusI] at q, fun q => by simp [pusI] at q, fun _ => ?_, fun _ _ q => absurd rfl q⟩
    show -9223372036854775808 ≤ pusX d (lensOf d h') a b ∧ pusX d (lensOf d h') a b < 4 * ((apD d ⟨4, x, y, s, o⟩).n : Int) ∧ -9223372036854775808 ≤ pusY d (lensOf d h') a b ∧ pusY d (lensOf d h') a b < 4 * ((apD d ⟨4, x, y, s, o⟩).n : Int)
    unfold pusX pusY
    rw [p2, p3, q0, q3]
    unfold oldv
    have v3 := lpv_lt d (Pl.tn h' 3)
    have v0 := lpv_lt d (Pl.tn u 2)
    by_cases c1 : d.m (Pl.tn u 1) = Pl.tn u 2
    ·rw [if_pos c1, if_pos c1]
     by_cases c2 : d.m (Pl.tn h' 2) = Pl.tn h' 3
     ·rw [if_pos c2]
      refine ⟨by omega, by omega, by omega, by omega⟩
     ·have h3 := P3 (fun q => by rw [sw l3 q] at c1; exact Pl.pm E c1) c2
      rw [if_neg c2]
      refine ⟨by omega, h3, by omega, h3⟩
    ·rw [if_neg c1, if_neg c1]
     have c1' : d.m (Pl.tn u 2) ≠ Pl.tn u 1 := fun q => c1 (sw r2 q)
     by_cases c2 : d.m (Pl.tn h' 2) = Pl.tn h' 3
     ·have h0 := Q0 c1' (fun q => by rw [sw r2 q] at c2; exact Pl.pm E c2.symm)
      rw [if_pos c2, if_pos c2]
      refine ⟨by omega, h0, by omega, h0⟩
     ·rw [if_neg c2, if_neg c2]
      constructor
      ·split <;> omega
      ·refine ⟨?_, ?_, ?_⟩
       ·by_cases c3 : d.m (Pl.tn h' 3) = Pl.tn u 1
        ·rw [if_pos c3]; omega
        ·rw [if_neg c3]; exact P3 c3 c2
       ·split <;> omega
       ·by_cases c4 : d.m (Pl.tn u 2) = Pl.tn h' 2
        ·rw [if_pos c4]; omega
        ·rw [if_neg c4]; exact Q0 c1' c4
 ·have k5 : k = 5 := by omega
  subst k5
  have e : apI d ⟨5, x, y, s, o⟩ = sldI d x.toNat := by simp [apI]
  rw [e]
  have hn' : ((apD d ⟨5, x, y, s, o⟩).n : Int) = d.n := by rw [hn]; simp [gro]
  obtain ⟨hx0, hx1⟩ : 0 ≤ x ∧ x < 4 * d.n := by
   unfold inR at hin
   simp at hin
   exact ⟨hin.1, hin.2.1⟩
  have hT : is3 d x.toNat := by
   simp at hc
   unfold sldC at hc
   by_cases q : isT d x.toNat
   ·exact q.1
   ·rw [if_neg q] at hc; simp at hc
  have := (sX_v hw (h := x.toNat) (by omega) hT).1
  refine ⟨fun q => by simp [sldI] at q, fun q => by simp [sldI] at q, fun q => by simp [sldI] at q, fun _ _ _ => ⟨by show (-9223372036854775808 : Int) ≤ (sX d x.toNat (4 * d.n) : Nat); omega, by show ((sX d x.toNat (4 * d.n) : Nat) : Int) < 4 * _; omega⟩⟩
end Go.Proofs.YtlffopdoeobgaaaGreatDoor
end
section
namespace Go.Proofs.YtlffopdoeobgaaaGreatDoor
open Go Go.RowKit
attribute [local go_sem ↓] Go.wp_at_zero Go.wp_at_succ
theorem row_ownsI {W : World} {base g n : Nat} {t : TypeId} {vs : List Value} (h : Row W g t vs) (hb : base ≤ g) (hn : vs.length = n) (hm : n ≤ maxLen) : W.ownsRow base t 1 (.slice (some ⟨g, 0, none⟩) n n) n vs :=
 ⟨by omega, .inr ⟨g, n, vs.toArray, rfl, hb, h, Nat.le_refl _, hm, by simp [hn], by simp only [Nat.mul_one]; rw [← hn, List.take_length]⟩⟩
theorem own_neI {W : World} {base base' n m sz sz' : Nat} {e t : TypeId} {v u : Value} {xs ys : List Value} (h : W.ownsRow base e sz v n xs) (h' : W.ownsRow base' t sz' u m ys) (ht : e ≠ t) : v.ownBlock = none ∨ v.ownBlock ≠ u.ownBlock := by
 cases hv : v.ownBlock with
 | none => exact .inl rfl
 | some g =>
   refine .inr (fun e' => ?_)
   obtain ⟨cs, fr, h3⟩ := ownsRow_block h g hv
   obtain ⟨cs', fr', h4⟩ := ownsRow_block h' g e'.symm
   rw [h3] at h4
   injection h4 with h4
   injection h4 with _ h5
   exact ht h5
theorem run_moves0 (n : Nat) (hn : n ≤ 1000000) (w : World) : (Instr.makeSlice 25 (.int .i64 0) (.int .i64 (n : Int))).run Tryz.prog w = .ok (.slice (some ⟨w.heap.size, 0, none⟩) 0 n) (w.alloc (.cells (madeCells (Value.cells (.agg #[.int .i64 0, .int .i64 0, .int .i64 0, .int .i64 0, .bool false])) (n * 5)) 36)) := by
 obtain ⟨i0, hi, hz0, hz1, hz2⟩ := info_parts moveInfo
 have := run_make (P := Tryz.prog) w 25 36 i0 (.agg #[.int .i64 0, .int .i64 0, .int .i64 0, .int .i64 0, .bool false]) Tryz.underlying25 hi hz0 .i64 .i64 0 n (Int.le_refl _) (by omega) (by rw [hz2]; omega) (by omega)
 rw [hz1, Int.toNat_natCast] at this
 exact this
structure Stp where
 m : Mv
 i : Mv
 f : Int
def Stp.cells (s : Stp) : List Value := s.m.cells ++ s.i.cells ++ [.int .i64 s.f]
def StV (w : World) (A : Option Addr) (n : Nat) (ss : List Stp) : Prop := n = ss.length ∧ (0 < n → ∃ g, A = some ⟨g, 0, none⟩ ∧ ∀ (j : Nat) (z : Stp), ss[j]? = some z → ∀ (i : Nat) (u : Value), z.cells[i]? = some u → w.cell? ⟨g, j * 11 + i, none⟩ = some u)
theorem StV.keep {w w' : World} {A : Option Addr} {n : Nat} {ss : List Stp} (h : StV w A n ss) (hb : Below w.heap.size w w') : StV w' A n ss :=
 ⟨h.1, fun hp => let ⟨g, e, hc⟩ := h.2 hp; ⟨g, e, fun j z hz i u hu => cell_below (hc j z hz i u hu) hb⟩⟩
theorem StV.at_ {w : World} {A : Option Addr} {n j : Nat} {ss : List Stp} (h : StV w A n ss) (hj : j < n) : ∃ g k x y s v k' x' y' s' v' f, A = some ⟨g, 0, none⟩ ∧ ss[j]? = some ⟨⟨k, x, y, s, v⟩, ⟨k', x', y', s', v'⟩, f⟩ ∧
 w.cell? ⟨g, j * 11, none⟩ = some (.int .i64 k) ∧ w.cell? ⟨g, j * 11 + 1, none⟩ = some (.int .i64 x) ∧ w.cell? ⟨g, j * 11 + 2, none⟩ = some (.int .i64 y) ∧ w.cell? ⟨g, j * 11 + 3, none⟩ = some (.int .i64 s) ∧ w.cell? ⟨g, j * 11 + 4, none⟩ = some (.bool v) ∧
 w.cell? ⟨g, j * 11 + 5, none⟩ = some (.int .i64 k') ∧ w.cell? ⟨g, j * 11 + 6, none⟩ = some (.int .i64 x') ∧ w.cell? ⟨g, j * 11 + 7, none⟩ = some (.int .i64 y') ∧ w.cell? ⟨g, j * 11 + 8, none⟩ = some (.int .i64 s') ∧ w.cell? ⟨g, j * 11 + 9, none⟩ = some (.bool v') ∧ w.cell? ⟨g, j * 11 + 10, none⟩ = some (.int .i64 f) := by
 obtain ⟨g, e, hc⟩ := h.2 (by omega)
 have hj' : j < ss.length := by rw [← h.1]; exact hj
 have hz : ss[j]? = some (ss[j]'hj') := List.getElem?_eq_getElem hj'
 obtain ⟨z, hz'⟩ : ∃ z, z = ss[j]'hj' := ⟨_, rfl⟩
 rw [← hz'] at hz
 clear hz'
 obtain ⟨⟨k, x, y, s, v⟩, ⟨k', x', y', s', v'⟩, f⟩ := z
 exact ⟨g, k, x, y, s, v, k', x', y', s', v', f, e, hz, hc j _ hz 0 _ rfl, hc j _ hz 1 _ rfl, hc j _ hz 2 _ rfl, hc j _ hz 3 _ rfl, hc j _ hz 4 _ rfl, hc j _ hz 5 _ rfl, hc j _ hz 6 _ rfl, hc j _ hz 7 _ rfl, hc j _ hz 8 _ rfl, hc j _ hz 9 _ rfl, hc j _ hz 10 _ rfl⟩
def StOk (N N' : Nat) (s : Stp) : Prop :=
 TrIn N' s.i ∧ (s.m.kind = 1 → N' = N + 1) ∧ (s.m.kind = 3 → N' = N + 2) ∧ (s.m.kind = 2 → N = N' + 1 ∧ 0 ≤ s.m.x ∧ s.m.x < N) ∧
 (s.m.kind = 4 → N = N' + 2 ∧ 0 ≤ s.m.x ∧ s.m.x < s.m.y ∧ s.m.y < N ∧ (s.f = s.m.x ∨ s.f = s.m.y)) ∧ (s.m.kind ≠ 1 → s.m.kind ≠ 2 → s.m.kind ≠ 3 → s.m.kind ≠ 4 → N' = N)
set_option maxRecDepth 100000 in
set_option maxHeartbeats 8000000 in
theorem back_any (ss : List Stp) (sz : Nat → Nat) (A : Option Addr) (n c : Nat) (N : Nat) (w : World) (hA : StV w A n ss) (hn : n ≤ 10000) (hN : N = sz n) (hsz : ∀ j, j ≤ n → sz j ≤ 100) (hok : ∀ j s, ss[j]? = some s → StOk (sz j) (sz (j + 1)) s) :
 Calls Tryz.prog 33 #[.slice A n c, .int .i64 (N : Int)] w fun e w' => (∃ (B : Option Addr) (cb : Nat) (ms : List Mv), e = .returned (.slice B n cb) ∧ w'.ownsRow w.heap.size 36 5 (.slice B n cb) n (mvs ms)) ∧ Below w.heap.size w w' := by
 have HA := hide hA
 have HSZ := hide hsz
 have HOK := hide hok
 have HN := hide hN
 have hN100 : N ≤ 100 := by rw [hN]; exact hsz n (Nat.le_refl _)
 have hmk := fun W : World => run_ints N (by omega) W
 have hmv := fun W : World => run_moves0 n (by omega) W
 have R0 := hide (IRow.made w N)
 have O0 := hide (show (w.alloc (.cells (Array.replicate N (Value.int .i64 0)) 3)).ownsRow w.heap.size 3 1 (.slice (some ⟨w.heap.size, 0, none⟩) N N) N ((List.replicate N 0).map (.int .i64)) from row_ownsI R0.out (Nat.le_refl _) (by simp) (by unfold maxLen; omega))
 have B0 := hide (show Below w.heap.size w (w.alloc (.cells (Array.replicate N (Value.int .i64 0)) 3)) from (Below.refl _ _).alloc (Nat.le_refl _) _)
 clear hA hN hsz hok
 go_enter Tryz.func33, Tryz.ntmps33
 go_wp2_with fail
 go_loopg [6, 15] N (fun g s6 i wx => ∃ k : Nat, k + g = N ∧ i = .int .i64 (k : Int) ∧ (∃ ys : List Int, wx.ownsRow w.heap.size 3 1 (.slice (some ⟨w.heap.size, 0, none⟩) N N) N (ys.map (.int .i64))) ∧ Below w.heap.size w wx)
 case atStart => exact ⟨0, by omega, rfl, ⟨_, O0.out⟩, B0.out⟩
 case round =>
  clear O0 B0 R0
  obtain ⟨k, hkg, rfl, ⟨ys, hy⟩, hb⟩ := hrel
  have HKG := hide hkg
  have HY := hide hy
  have HB := hide hb
  by_cases hk : k < N
  ·have hki : (k : Int) < (N : Int) := by omega
   have k0 : (0 : Int) ≤ (k : Int) := by omega
   have hyl : ys.length = N := by have := hy.1; simpa using this
   have c1 := World.ownsRow.cellAt hy k (by omega)
   rw [List.getElem?_map, List.getElem?_eq_getElem (by omega)] at c1
   simp only [Option.map_some] at c1
   obtain ⟨y, hyy⟩ : ∃ z, z = ys[k]'(by omega) := ⟨_, rfl⟩
   rw [← hyy] at c1
   have f1 := World.ownsRow.frozenAt hy k
   clear hkg hy hb hyl hyy
   go_wp2_with fail
   go_roundg (gk - 1)
   case measure => have := HKG.out; omega
   case rel => exact ⟨k + 1, by have := HKG.out; omega, by go_num, ⟨ys.set k _, by rw [List.map_set]; exact (World.ownsRow.stored HY.out k _).1⟩, HB.out.setCell (Nat.le_refl _) _⟩
  ·have hki : ¬ ((k : Int) < (N : Int)) := by omega
   have hs0 : w.heap.size ≤ wr.heap.size := HB.out.size
   clear hkg hy hb
   go_wp2_with fail
   have OM := hide (show (wr.alloc (.cells (madeCells (Value.cells (.agg #[.int .i64 0, .int .i64 0, .int .i64 0, .int .i64 0, .bool false])) (n * 5)) 36)).ownsRow w.heap.size 36 5 (.slice (some ⟨wr.heap.size, 0, none⟩) 0 n) 0 [] from World.ownsRow_made wr _ _ hs0 (by unfold maxLen; omega) (size_madeCells _ _))
   have ON := hide (show (wr.alloc (.cells (madeCells (Value.cells (.agg #[.int .i64 0, .int .i64 0, .int .i64 0, .int .i64 0, .bool false])) (n * 5)) 36)).ownsRow w.heap.size 3 1 (.slice (some ⟨w.heap.size, 0, none⟩) N N) N (ys.map (.int .i64)) from HY.out.alloc _)
   have BM := hide (HB.out.alloc hs0 (.cells (madeCells (Value.cells (.agg #[.int .i64 0, .int .i64 0, .int .i64 0, .int .i64 0, .bool false])) (n * 5)) 36))
   go_loopg [5, 7, 8, 9, 10] n (fun g s5 s7 s8 s9 s10 wx => ∃ (k : Nat) (ys : List Int) (ms : List Mv), k + g = n ∧ s8 = .int .i64 ((g : Int) - 1) ∧ wx.ownsRow w.heap.size 3 1 s5 (sz g) (ys.map (.int .i64)) ∧ wx.ownsRow w.heap.size 36 5 s7 k (mvs ms) ∧ ms.length = k ∧ Below w.heap.size w wx)
   case atStart => exact ⟨0, ys, [], by omega, rfl, by rw [← HN.out]; exact ON.out, OM.out, rfl, BM.out⟩
   case round =>
    clear OM ON BM HY HB hk hki hs0
    obtain ⟨k1, ys1, ms, hkg1, rfl, hnm, hls, hml, hb1⟩ := hrel
    have HKG1 := hide hkg1
    have HNM := hide hnm
    have HLS := hide hls
    have HML := hide hml
    have HB1 := hide hb1
    obtain ⟨A1, c1, rfl⟩ := owns_slice hnm
    obtain ⟨B1, c7, rfl⟩ := owns_slice hls
    clear hnm hls hml hb1
    by_cases hj : 0 < gk
    ·obtain ⟨j, rfl⟩ : ∃ j, gk = j + 1 := ⟨gk - 1, by omega⟩
     have hi : ((j + 1 : Nat) : Int) - 1 = (j : Int) := by omega
     rw [hi]
     have hjn : j < n := by omega
     have hjni : (j : Int) < (n : Int) := by omega
     have j0 : (0 : Int) ≤ (j : Int) := by omega
     obtain ⟨gS, k, x, y, s, o, k', x', y', s', o', f, rfl, hss, a0, a1, a2, a3, a4, b0, b1, b2, b3, b4, b5⟩ := (HA.out.keep HB1.out).at_ hjn
     have HST := hide (HOK.out j _ hss)
     obtain ⟨N1, hN1⟩ : ∃ N1, N1 = sz (j + 1) := ⟨_, rfl⟩
     obtain ⟨N0, hN0⟩ : ∃ N0, N0 = sz j := ⟨_, rfl⟩
     have hN1c : N1 ≤ 100 := by rw [hN1]; exact HSZ.out _ (by omega)
     have hN0c : N0 ≤ 100 := by rw [hN0]; exact HSZ.out _ (by omega)
     rw [← hN1, ← hN0] at HST
     rw [← hN1] at HNM ⊢
     have HN0 := hide hN0
     clear hss hN1 hN0 hkg1 hi
     have BX := hide (show Below wr.heap.size wr (wr.alloc (.cells #[.int .i64 k, .int .i64 x, .int .i64 y, .int .i64 s, .bool o, .int .i64 k', .int .i64 x', .int .i64 y', .int .i64 s', .bool o', .int .i64 f] 58)) from (Below.refl _ _).alloc (Nat.le_refl _) _)
     go_wp2_with fail
     refine (translate_any k' x' y' s' o' N1 c1 A1 ys1 _ (own_ints' (HNM.out.alloc _)) (by omega) HST.out.1).mono ?_
     rintro e w2 ⟨⟨xt, yt, rfl⟩, hb2⟩
     obtain ⟨gb, hgb⟩ : ∃ g, g = wr.heap.size := ⟨_, rfl⟩
     have X2 := hide (show Row w2 gb 58 [.int .i64 k, .int .i64 x, .int .i64 y, .int .i64 s, .bool o, .int .i64 k', .int .i64 x', .int .i64 y', .int .i64 s', .bool o', .int .i64 f] by rw [hgb]; exact (row_at rfl).below hb2)
     have N2 := hide (own_below HNM.out (BX.out.trans (hb2.mono BX.out.size)))
     have L2 := hide (own_below HLS.out (BX.out.trans (hb2.mono BX.out.size)))
     have B2 := hide (HB1.out.trans ((BX.out.trans (hb2.mono BX.out.size)).mono HB1.out.size))
     rw [← hgb]
     clear hgb hb2 BX a0 a1 a2 a3 a4 b0 b1 b2 b3 b4 b5
     have hs2 : w.heap.size ≤ w2.heap.size := B2.out.size
     have X3 := hide (X2.out.alloc (.cells (Mv.cells ⟨k', xt, yt, s', o'⟩).toArray 36))
     have N3 := hide (N2.out.alloc (.cells (Mv.cells ⟨k', xt, yt, s', o'⟩).toArray 36))
     have L3 := hide (L2.out.alloc (.cells (Mv.cells ⟨k', xt, yt, s', o'⟩).toArray 36))
     have B3 := hide (B2.out.alloc hs2 (.cells (Mv.cells ⟨k', xt, yt, s', o'⟩).toArray 36))
     have NW := hide (five_news w2 w2.heap.size rfl ⟨k', xt, yt, s', o'⟩)
     have A1' : ∀ u ∈ Mv.cells ⟨k', xt, yt, s', o'⟩, u.oneCell' = true := by simp [Mv.cells, Value.oneCell']
     have A2 : k1 + 1 ≤ maxLen := by unfold maxLen; have := HKG1.out; omega
     have A3 : (k1 + 1) * 40 ≤ 140737488355328 := by have := HKG1.out; omega
     have HN1 := hide (show w.heap.size ≤ (w2.alloc (.cells (Mv.cells ⟨k', xt, yt, s', o'⟩).toArray 36)).heap.size by simp; omega)
     obtain ⟨n0, hn0, hz0, hz1, hz2⟩ := info_parts moveInfo
     obtain ⟨x20, x21⟩ : w2.cell? ⟨gb, 5, none⟩ = some (.int .i64 k') ∧ True := ⟨X2.out.cell (i := 5) (by simp), trivial⟩
     go_upto_region 13 with (at_builtin; refine wpList_append_lies _ (by rfl) _ _ 25 (by rfl) w.heap.size 36 n0 (.agg #[.int .i64 0, .int .i64 0, .int .i64 0, .int .i64 0, .bool false]) 5 40 Tryz.underlying25 hn0 hz0 hz1 hz2 rfl (by omega) _ k1 (mvs ms) (by rfl) L3.out ⟨w2.heap.size, 0, none⟩ 1 1 (Mv.cells ⟨k', xt, yt, s', o'⟩) (by rfl) (by rfl) NW.out A1' (by omega) A2 A3 HN1.out (w2.heap.size + 1) (by simp) ?_; intro g4 c4 w4 own4 grow4 at4 lt4; have L4 := hide own4; have GR4 := hide grow4; clear own4 grow4 at4 lt4)
     have X4 := hide (X3.out.grown GR4.out (own_row_neM L3.out X3.out (by decide)))
     have N4 := hide (World.ownsRow.kept N3.out GR4.out (own_neI N3.out L3.out (by decide)))
     have B4 := hide (B3.out.grown GR4.out HN1.out (fun j hj => (L3.out.lt j hj).1))
     clear X2 X3 N2 N3 L2 L3 B2 B3 NW A1' A2 A3 HN1 GR4 x20 x21 HNM HLS HB1
     have hs4 : w.heap.size ≤ w4.heap.size := B4.out.size
     have y0 : w4.cell? ⟨gb, 0, none⟩ = some (.int .i64 k) := X4.out.cell (i := 0) (by simp)
     have y1 : w4.cell? ⟨gb, 1, none⟩ = some (.int .i64 x) := X4.out.cell (i := 1) (by simp)
     have y2 : w4.cell? ⟨gb, 2, none⟩ = some (.int .i64 y) := X4.out.cell (i := 2) (by simp)
     have y10 : w4.cell? ⟨gb, 10, none⟩ = some (.int .i64 f) := X4.out.cell (i := 10) (by simp)
     by_cases k1' : k = 1
     ·subst k1'
      have hN : N1 = N0 + 1 := HST.out.2.1 rfl
      subst hN
      obtain ⟨g5, cap5, hA5, _, _⟩ := World.ownsRow.form N4.out (Nat.succ_pos N0)
      injection hA5 with hA5 _ hcc
      subst hA5
      subst hcc
      go_wp2_with fail
      refine (drop_any _ N4.out (by omega)).mono ?_
      rintro e w5 ⟨rfl, ⟨ys5, h5⟩, g5r⟩
      have N5 := hide h5
      have L5 := hide (World.ownsRow.kept L4.out g5r (own_neI L4.out N4.out (by decide)))
      have B5 := hide (B4.out.grown g5r hs4 (fun j hj => (N4.out.lt j hj).1))
      clear h5 g5r y0 y1 y2 y10 X4
      go_wp2_with fail
      go_roundg j
      case measure => omega
      case rel =>
       refine ⟨k1 + 1, ys5, ms ++ [⟨k', xt, yt, s', o'⟩], by have := HKG1.out; omega, by go_num, ?_, ?_, by rw [List.length_append, List.length_singleton, HML.out], ?_⟩
       ·rw [← HN0.out]; exact N5.out
       ·rw [mvs_app]; exact L5.out
       ·exact B5.out
     by_cases k3' : k = 3
     ·subst k3'
      have hN : N1 = N0 + 2 := HST.out.2.2.1 rfl
      subst hN
      obtain ⟨g5, cap5, hA5, _, _⟩ := World.ownsRow.form N4.out (Nat.succ_pos (N0 + 1))
      injection hA5 with hA5 _ hcc
      subst hA5
      subst hcc
      go_wp2_with fail
      refine (drop_any (n := N0 + 1) _ N4.out (by omega)).mono ?_
      rintro e w5 ⟨rfl, ⟨ys5, h5⟩, g5r⟩
      have N5 := hide h5
      have L5 := hide (World.ownsRow.kept L4.out g5r (own_neI L4.out N4.out (by decide)))
      have B5 := hide (B4.out.grown g5r hs4 (fun j hj => (N4.out.lt j hj).1))
      have hs5 : w.heap.size ≤ w5.heap.size := B5.out.size
      clear h5 g5r y0 y1 y2 y10 X4
      go_wp2_with fail
      refine (drop_any (n := N0) _ N5.out (by omega)).mono ?_
      rintro e w6 ⟨rfl, ⟨ys6, h6⟩, g6r⟩
      have N6 := hide h6
      have L6 := hide (World.ownsRow.kept L5.out g6r (own_neI L5.out N5.out (by decide)))
      have B6 := hide (B5.out.grown g6r hs5 (fun j hj => (N5.out.lt j hj).1))
      clear h6 g6r
      go_wp2_with fail
      go_roundg j
      case measure => omega
      case rel =>
       refine ⟨k1 + 1, ys6, ms ++ [⟨k', xt, yt, s', o'⟩], by have := HKG1.out; omega, by go_num, ?_, ?_, by rw [List.length_append, List.length_singleton, HML.out], ?_⟩
       ·rw [← HN0.out]; exact N6.out
       ·rw [mvs_app]; exact L6.out
       ·exact B6.out
     by_cases k2' : k = 2
     ·subst k2'
      obtain ⟨hN, hx0, hx1⟩ := HST.out.2.2.2.1 rfl
      subst hN
      obtain ⟨a, rfl⟩ := Int.eq_ofNat_of_zero_le hx0
      have haN : a ≤ N1 := by have : (a : Int) < ((N1 + 1 : Nat) : Int) := hx1; omega
      have NA := hide (own_ints' (N4.out.alloc (.cells #[.int .i64 (a : Int)] 3)))
      have BA := hide (row_at (W := w4) (g := w4.heap.size) (t := 3) (vs := [.int .i64 (a : Int)]) rfl)
      have hcap : N1 ≤ c1 := own_cap N4.out
      go_wp2_with fail
      refine (add_any ys1 [a] A1 (some ⟨w4.heap.size, 0, none⟩) N1 1 c1 1 _ NA.out (IRow.ints (zs := [(a : Int)]) BA.out) (by omega) (by omega) hcap (by omega) ⟨by omega, by omega, trivial⟩).mono ?_
      rintro e w5 ⟨v5, ys5, rfl, h5, hb5⟩
      have N5 := hide (own_base (base' := w.heap.size) h5 (by simp; omega))
      have L5 := hide (own_below (L4.out.alloc _) hb5)
      have B5 := hide ((B4.out.alloc hs4 (.cells #[.int .i64 (a : Int)] 3)).trans (hb5.mono (by simp; omega)))
      clear h5 hb5 y0 y1 y2 y10 X4
      go_wp2_with fail
      go_roundg j
      case measure => omega
      case rel =>
       refine ⟨k1 + 1, ys5, ms ++ [⟨k', xt, yt, s', o'⟩], by have := HKG1.out; omega, by go_num, ?_, ?_, by rw [List.length_append, List.length_singleton, HML.out], ?_⟩
       ·rw [← HN0.out]; exact N5.out
       ·rw [mvs_app]; exact L5.out
       ·exact B5.out
     by_cases k4' : k = 4
     ·subst k4'
      obtain ⟨hN, hx0, hxy, hy1, hf⟩ := HST.out.2.2.2.2.1 rfl
      subst hN
      obtain ⟨a, rfl⟩ := Int.eq_ofNat_of_zero_le hx0
      obtain ⟨b, rfl⟩ := Int.eq_ofNat_of_zero_le (show (0 : Int) ≤ y by have h1 : (a : Int) < y := hxy; omega)
      have hab : a < b := by have : (a : Int) < (b : Int) := hxy; omega
      have hbN : b < N1 + 2 := by have : (b : Int) < ((N1 + 2 : Nat) : Int) := hy1; omega
      have NA := hide (own_ints' (N4.out.alloc (.cells #[.int .i64 (a : Int), .int .i64 (b : Int)] 3)))
      have BA := hide (row_at (W := w4) (g := w4.heap.size) (t := 3) (vs := [.int .i64 (a : Int), .int .i64 (b : Int)]) rfl)
      have hcap : N1 ≤ c1 := own_cap N4.out
      have hff : f = (a : Int) ∨ f = (b : Int) := hf
      have X5a := hide (X4.out.alloc (.cells #[.int .i64 (a : Int), .int .i64 (b : Int)] 3))
      clear hf
      go_wp2_with fail
      refine (add_any ys1 [a, b] A1 (some ⟨w4.heap.size, 0, none⟩) N1 2 c1 2 _ NA.out (IRow.ints (zs := [(a : Int), (b : Int)]) BA.out) (by omega) (by omega) hcap (by omega) ⟨by omega, by omega, by omega, by omega, trivial⟩).mono ?_
      rintro e w5 ⟨v5, ys5, rfl, h5, hb5⟩
      have N5 := hide (own_base (base' := w.heap.size) h5 (by simp; omega))
      have L5 := hide (own_below (L4.out.alloc _) hb5)
      have B5 := hide ((B4.out.alloc hs4 (.cells #[.int .i64 (a : Int), .int .i64 (b : Int)] 3)).trans (hb5.mono (by simp; omega)))
      have X5 := hide (X5a.out.below hb5)
      clear h5 hb5 y0 y1 y2 y10 X4 X5a
      obtain ⟨g6, cap6, rfl, _, _⟩ := World.ownsRow.form N5.out (Nat.succ_pos (N1 + 1))
      have y10 : w5.cell? ⟨gb, 10, none⟩ = some (.int .i64 f) := X5.out.cell (i := 10) (by simp)
      obtain ⟨p, q, hp, hq, hpq, hfp, hoq⟩ : ∃ p q : Nat, p < N1 + 2 ∧ q < N1 + 2 ∧ p ≠ q ∧ f = (p : Int) ∧ (a : Int) + (b : Int) - f = (q : Int) := by
       rcases hff with h | h
       ·exact ⟨a, b, by omega, hbN, by omega, h, by omega⟩
       ·exact ⟨b, a, hbN, by omega, by omega, h, by omega⟩
      have hg6 : w.heap.size ≤ g6 := (N5.out.lt g6 rfl).1
      have hyl : ys5.length = N1 + 2 := by have := N5.out.1; simpa using this
      have cell5 : ∀ j, j < N1 + 2 → ∃ z : Int, w5.cell? ⟨g6, j, none⟩ = some (.int .i64 z) := fun j hj => by
       have c := World.ownsRow.cellAt N5.out j (by omega)
       rw [List.getElem?_map, List.getElem?_eq_getElem (by omega)] at c
       exact ⟨_, c⟩
      obtain ⟨zp, cp⟩ := cell5 p hp
      obtain ⟨zq, cq⟩ := cell5 q hq
      have f6 : ∀ j, w5.frozen? ⟨g6, j, none⟩ = false := fun j => World.ownsRow.frozenAt N5.out j
      have hqp : q ≠ p := Ne.symm hpq
      have hpi : (p : Int) < (N1 : Int) + 2 := by omega
      have hqi : (q : Int) < (N1 : Int) + 2 := by omega
      have p0 : (0 : Int) ≤ (p : Int) := by omega
      have q0 : (0 : Int) ≤ (q : Int) := by omega
      subst hfp
      rw [hoq]
      clear cell5 hyl hoq hff
      go_wp2_with fail
      go_roundg j
      case measure => omega
      case rel =>
       refine ⟨k1 + 1, (ys5.set p (N1 : Int)).set q ((N1 : Int) + 2 - 1), ms ++ [⟨k', xt, yt, s', o'⟩], by have := HKG1.out; omega, by go_num, ?_, ?_, by rw [List.length_append, List.length_singleton, HML.out], ?_⟩
       ·rw [← HN0.out, List.map_set, List.map_set]; exact (World.ownsRow.stored (World.ownsRow.stored N5.out p _).1 q _).1
       ·rw [mvs_app]; exact World.ownsRow.kept L5.out (grownBy_trans (World.ownsRow.stored N5.out p _).2 (World.ownsRow.stored (World.ownsRow.stored N5.out p _).1 q _).2) (own_neI L5.out N5.out (by decide))
       ·exact (B5.out.setCell (show w.heap.size ≤ g6 from hg6) _).setCell (show w.heap.size ≤ g6 from hg6) _
     ·have hN : N1 = N0 := HST.out.2.2.2.2.2 k1' k2' k3' k4'
      subst hN
      have q1 : (k == 1) = false := by rw [beq_eq_false_iff_ne]; exact k1'
      have q2 : (k == 2) = false := by rw [beq_eq_false_iff_ne]; exact k2'
      have q3 : (k == 3) = false := by rw [beq_eq_false_iff_ne]; exact k3'
      have q4 : (k == 4) = false := by rw [beq_eq_false_iff_ne]; exact k4'
      go_wp2_with fail
      go_roundg j
      case measure => omega
      case rel =>
       refine ⟨k1 + 1, ys1, ms ++ [⟨k', xt, yt, s', o'⟩], by have := HKG1.out; omega, by go_num, ?_, ?_, by rw [List.length_append, List.length_singleton, HML.out], ?_⟩
       ·rw [← HN0.out]; exact N4.out
       ·rw [mvs_app]; exact L4.out
       ·exact B4.out
    ·obtain rfl : gk = 0 := by omega
     have hkn : k1 = n := by omega
     subst hkn
     go_wp2_with fail
     go_ret
     exact ⟨⟨B1, c7, ms, rfl, HLS.out⟩, HB1.out⟩
end Go.Proofs.YtlffopdoeobgaaaGreatDoor
end
section
namespace Go.Proofs.YtlffopdoeobgaaaGreatDoor
open Go Go.RowKit
attribute [local go_sem ↓] Go.wp_at_zero Go.wp_at_succ
theorem below_dr {V W : World} (h : Below V.drew.heap.size V.drew W) : Below V.heap.size V W := (Below.refl V.heap.size V).drew.trans (h.mono (Nat.le_refl V.heap.size))
end Go.Proofs.YtlffopdoeobgaaaGreatDoor
end
section
namespace Go.Proofs.YtlffopdoeobgaaaGreatDoor
open Go Go.RowKit
attribute [local go_sem ↓] Go.wp_at_zero Go.wp_at_succ
noncomputable def apN : Pl.Dg → List Mv → Nat → Pl.Dg
 | d, _, 0 => d
 | d, [], _ + 1 => d
 | d, z :: ms, k + 1 => apN (apD d z) ms k
theorem apN_succ : ∀ (ms : List Mv) (d : Pl.Dg) (k : Nat) (z : Mv), ms[k]? = some z → apN d ms (k + 1) = apD (apN d ms k) z
 | [], d, k, z, h => by simp at h
 | y :: ms, d, 0, z, h => by
   obtain rfl : y = z := by simpa using h
   cases ms <;> simp [apN]
 | y :: ms, d, k + 1, z, h => by
   have := apN_succ ms (apD d y) k z (by simpa using h)
   simpa [apN] using this
structure LI (u : World) (ga : Nat) (r : Pl.Dg) (A9 B9 : Option Addr) (n c8 m c9 lp : Nat) (W : World) : Prop where
 hn : n = r.n
 hm : m = 4 * r.n
 hl : lp = r.lp
 at_ : Row W ga 24 [.slice A9 n c8, .slice B9 m c9, .int .i64 (lp : Int)]
 t : DgT W A9 B9 r ∨ DgAt u A9 B9 r
 bel : Below u.heap.size u W
section
variable {u W W' : World} {ga : Nat} {r : Pl.Dg} {A9 B9 : Option Addr} {n c8 m c9 lp : Nat}
theorem LI.below (h : LI u ga r A9 B9 n c8 m c9 lp W) (hb : Below W.heap.size W W') : LI u ga r A9 B9 n c8 m c9 lp W' :=
 ⟨h.hn, h.hm, h.hl, h.at_.below hb, h.t.imp (fun t => t.keep hb) id, h.bel.trans (hb.mono h.bel.size)⟩
theorem LI.dg (h : LI u ga r A9 B9 n c8 m c9 lp W) : DgAt W A9 B9 r := h.t.elim (fun t => t.at) (fun t => t.keep h.bel)
end
end Go.Proofs.YtlffopdoeobgaaaGreatDoor
end
