/-
 The texts Ncr, Xq, Nd, Ne, Nf, Ng, Nh in one.
-/
import Derived.Test.YtlffopdoeobgaaaGreatDoorS17
import Derived.Test.YtlffopdoeobgaaaGreatDoorS15
import Derived.Test.YtlffopdoeobgaaaGreatDoorS16
import Derived.Test.YtlffopdoeobgaaaGreatDoorS05
import Derived.Deep.DrawnRows
import Derived.Laws.OwnMore
import Derived.Test.YtlffopdoeobgaaaGreatDoorS22
import Derived.Test.YtlffopdoeobgaaaGreatDoorS20
import Derived.Lib.IndexBytes
import Derived.Test.YtlffopdoeobgaaaGreatDoorS00
import Derived.Test.YtlffopdoeobgaaaGreatDoorS04
import Derived.Deep.DeepCutAuto
import Derived.Test.YtlffopdoeobgaaaGreatDoorS02
import Derived.Deep.RegionHeld3
import Derived.Laws.EntriesVeiled
set_option linter.unusedVariables false
set_option linter.unusedSimpArgs false
section
namespace Go.Proofs.YtlffopdoeobgaaaGreatDoor.Pl
variable {d : Dg} {h u : Nat}
theorem con_tn {a : Nat → Nat} {x y : Nat} (e : Con rot a x y) : ∀ k, Con rot a x (tn y (3 * k))
 | 0 => by rw [show 3 * 0 = 0 from rfl, tn_zero]; exact e
 | k + 1 => by
   have := (con_tn e k).left
   rwa [show rot (tn y (3 * k)) = tn y (3 * (k + 1)) from by unfold rot; rw [tn_tn]; congr 1] at this
theorem tn_m4 (y j k : Nat) (e : j % 4 = k % 4) : tn y j = tn y k := by unfold tn; omega
theorem con_at {a : Nat → Nat} {x y z : Nat} (e : Con rot a x y) (hz : z / 4 = y / 4) : Con rot a x z := by
 have := con_tn e ((y % 4 + 4 - z % 4) % 4)
 rwa [show tn y (3 * ((y % 4 + 4 - z % 4) % 4)) = z from by unfold tn; omega] at this
theorem Lens.no_cross (hd : Valid d) (L : Lens d h u) : d.m (tn h 3) ≠ tn u 2 := by
 intro e
 have hv := Valid.iff.1 hd
 have hw := hv.1
 have hu := L.hu hw
 have hh := L.hh
 have E := L.ne
 have m0 := L.m0
 have m1 := L.m1
 have m2 := L.m2 hw
 have m3 := L.m3 hw
 have h3 : tn h 3 < 4 * d.n := tn_lt hh
 have h2 : tn h 2 < 4 * d.n := tn_lt hh
 have h1 : tn h 1 < 4 * d.n := tn_lt hh
 have u2 : tn u 2 < 4 * d.n := tn_lt hu
 have u1 : tn u 1 < 4 * d.n := tn_lt hu
 have u3 : tn u 3 < 4 * d.n := tn_lt hu
 have e' : d.m (tn u 2) = tn h 3 := by rw [← e, hw.inv _ h3]
 have n32 : tn h 3 ≠ tn u 2 := pm E
 -- the first edge cut
 obtain ⟨c1, c2, c3⟩ := Hm.cut hw.hm h3 (by rw [e]; exact Ne.symm n32)
 rw [e] at c1 c2 c3
 obtain ⟨a1, ha1⟩ : ∃ a1, a1 = tr d.m (tn h 3) (tn u 2) := ⟨_, rfl⟩
 rw [← ha1] at c1 c2 c3
 have ea : d.m = tr a1 (tn h 3) (tn u 2) := by rw [ha1, tr_tr]
 have f0 := hv.2
 rw [ea] at f0
 obtain ⟨f1, k1⟩ := Flat.del c1 h3 u2 n32 c2 c3 f0
 have at1 : ∀ z, z ≠ tn h 3 → z ≠ tn u 2 → a1 z = d.m z := fun z z1 z2 => by rw [ha1, tr_ne z1 z2]
 have ah : a1 h = u := by rw [at1 h (pmz (by omega)) (pm1 E), m0]
 have con1 : Con rot a1 (tn h 3) (tn u 2) := by
  have s1 : Con rot a1 (tn h 3) h := con_at .refl (by rw [tn_div])
  have s2 := s1.right
  rw [ah] at s2
  exact con_at s2 (by rw [tn_div])
 have o1 := k1 con1
 -- the second edge cut
 obtain ⟨w, hwm⟩ : ∃ w, w = d.m (tn h 2) := ⟨_, rfl⟩
 have p2a : a1 (tn h 2) = w := by rw [at1 _ (tn_ne (by omega)) (pm E), hwm]
 have nw : w ≠ tn h 2 := by rw [hwm]; exact hw.ne _ h2
 have hwl : w < 4 * d.n := by rw [hwm]; exact hw.lt _ h2
 have hwb : d.m w = tn h 2 := by rw [hwm, hw.inv _ h2]
 obtain ⟨g1, g2, g3⟩ := Hm.cut c1 h2 (by rw [p2a]; exact nw)
 rw [p2a] at g1 g2 g3
 obtain ⟨a2, ha2⟩ : ∃ a2, a2 = tr a1 (tn h 2) w := ⟨_, rfl⟩
 rw [← ha2] at g1 g2 g3
 have ea1 : a1 = tr a2 (tn h 2) w := by rw [ha2, tr_tr]
 have f1' := f1
 rw [ea1] at f1'
 obtain ⟨f2, k2⟩ := Flat.del g1 h2 hwl (Ne.symm nw) g2 g3 f1'
 have w0 : w ≠ tn h 3 := fun q => by rw [q, e] at hwb; exact pm E hwb.symm
 have w1 : w ≠ tn u 2 := fun q => by rw [q, e'] at hwb; exact tn_ne (by omega) hwb
 have w2 : w ≠ h := fun q => by rw [q, m0] at hwb; exact pm0 E hwb.symm
 have w3 : w ≠ u := fun q => by rw [q, m2] at hwb; exact pmz (by omega) hwb
 have w4 : w ≠ tn h 1 := fun q => by rw [q, m1] at hwb; exact pm E hwb.symm
 have w5 : w ≠ tn u 3 := fun q => by rw [q, m3] at hwb; exact tn_ne (by omega) hwb
 have at2 : ∀ z, z ≠ tn h 3 → z ≠ tn u 2 → z ≠ tn h 2 → z ≠ w → a2 z = d.m z := fun z z1 z2 z3 z4 => by rw [ha2, tr_ne z3 z4, at1 z z1 z2]
 -- the faces
 have s1 : phi rot a1 (tn h 3) = tn h 2 := by unfold phi; rw [c2]; unfold rot; rw [tn_tn]; exact tn_m4 _ _ _ (by omega)
 have s2 : phi rot a1 w = tn h 1 := by
  unfold phi
  rw [at1 w w0 w1, hwb]; unfold rot; rw [tn_tn]; exact tn_m4 _ _ _ (by omega)
 have s3 : phi rot a1 (tn h 1) = tn u 2 := by
  unfold phi
  rw [at1 _ (tn_ne (by omega)) (pm E), m1]; unfold rot; rw [tn_tn]; exact tn_m4 _ _ _ (by omega)
 have oB := c1.pb
 have o2 : Orb (phi rot a1) (tn h 2) (tn h 3) := oB.symm h3 (by have := Orb.step (phi rot a1) (tn h 3); rwa [s1] at this)
 have o3 : Orb (phi rot a1) w (tn u 2) := by
  have q1 := Orb.step (phi rot a1) w
  have q2 := Orb.step (phi rot a1) (tn h 1)
  rw [s2] at q1
  rw [s3] at q2
  exact q1.trans q2
 have o4 : Orb (phi rot a1) (tn h 2) w := (o2.trans o1).trans (oB.symm hwl o3)
 have no : ¬ Orb (phi rot a2) (tn h 2) w := fun q => by
  have := g1.pb.part h2 hwl (Ne.symm nw) q
  rw [← phi_tr, ← ea1] at this
  exact this o4
 have nc : ¬ Con rot a2 (tn h 2) w := fun q => no (k2 q)
 -- along the strand
 have ah2 : a2 h = u := by rw [at2 h (pmz (by omega)) (pm1 E) (pmz (by omega)) (Ne.symm w2), m0]
 have blob : ∀ z, z / 4 = h / 4 ∨ z / 4 = u / 4 → Con rot a2 (tn h 2) z := fun z hz => by
  have q1 : Con rot a2 (tn h 2) h := con_at .refl (by rw [tn_div])
  rcases hz with hz | hz
  ·exact con_at q1 hz
  ·have q2 := q1.right
   rw [ah2] at q2
   exact con_at q2 hz
 obtain ⟨s, hs⟩ : ∃ s : Nat → Nat, s = fun z => d.m (tn z 2) := ⟨_, rfl⟩
 have sb : Bij (4 * d.n) (dart d) s := by
  refine ⟨fun _ q => q, fun z hz => by rw [hs]; exact hw.lt _ (tn_lt hz), fun x y hx hy q => ?_⟩
  rw [hs] at q
  have q1 : d.m (d.m (tn x 2)) = d.m (d.m (tn y 2)) := congrArg d.m q
  rw [hw.inv _ (tn_lt hx), hw.inv _ (tn_lt hy)] at q1
  have q2 : tn (tn x 2) 2 = tn (tn y 2) 2 := by rw [q1]
  rwa [tn_tn, tn_tn, tn_four, tn_four] at q2
 have sh : s h = w := by rw [hs, hwm]
 have ob : Orb s w h := sb.symm hh (by have := Orb.step s h; rwa [sh] at this)
 obtain ⟨k, hk⟩ := ob
 have key : ∀ k, it s k w < 4 * d.n ∧ Con rot a2 w (it s k w) ∧ out d (it s k w) = out d w := by
  intro k
  induction k with
  | zero => exact ⟨hwl, .refl, rfl⟩
  | succ k ih =>
    obtain ⟨i1, i2, i3⟩ := ih
    obtain ⟨z, hz⟩ : ∃ z, z = it s k w := ⟨_, rfl⟩
    rw [← hz] at i1 i2 i3
    have hst : it s (k + 1) w = d.m (tn z 2) := by
     show s (it s k w) = _
     rw [← hz, hs]
    rw [hst]
    have z2 : tn z 2 < 4 * d.n := tn_lt i1
    have nb : ¬ (z / 4 = h / 4 ∨ z / 4 = u / 4) := fun q => nc (g1.con_symm hwl (i2.trans (g1.con_symm h2 (blob z q))))
    have t1 : tn z 2 ≠ tn h 3 := fun q => nb (.inl (by have := congrArg (· / 4) q; simpa [tn_div] using this))
    have t2 : tn z 2 ≠ tn u 2 := fun q => nb (.inr (by have := congrArg (· / 4) q; simpa [tn_div] using this))
    have t3 : tn z 2 ≠ tn h 2 := fun q => nb (.inl (by have := congrArg (· / 4) q; simpa [tn_div] using this))
    have t4 : tn z 2 ≠ w := fun q => by
     have := out_opp hw i1
     rw [q, i3] at this
     cases hq : out d w <;> simp [hq] at this
    have am := at2 _ t1 t2 t3 t4
    refine ⟨hw.lt _ z2, ?_, ?_⟩
    ·have q1 : Con rot a2 w (tn z 2) := con_at i2 (by rw [tn_div])
     have q2 := q1.right
     rwa [am] at q2
    ·rw [out_way hw z2, out_opp hw i1, i3, Bool.not_not]
 have fin := (key k).2.1
 rw [hk] at fin
 exact nc (g1.con_symm hwl (fin.trans (g1.con_symm h2 (blob h (.inl rfl)))))
end Go.Proofs.YtlffopdoeobgaaaGreatDoor.Pl
end
section
namespace Go.Proofs.YtlffopdoeobgaaaGreatDoor
open Go Go.RowKit
attribute [local go_sem ↓] Go.wp_at_zero Go.wp_at_succ
def seen (L : List Mv) (x q : Nat) : Bool := (L.take q).any (fun z => z.x == (x : Int))
end Go.Proofs.YtlffopdoeobgaaaGreatDoor
end
section
namespace Go.Proofs.YtlffopdoeobgaaaGreatDoor
open Go Go.RowKit
attribute [local go_sem ↓] Go.wp_at_zero Go.wp_at_succ
theorem idx10 : ∀ l : List UInt8, Lib.indexByte l 10 = if Pl.fd1 l = true then ((Pl.ln1 l).length : Int) else -1
 | [] => by simp [Lib.indexByte, Pl.fd1]
 | c :: l => by
   have ih := idx10 l
   unfold Lib.indexByte
   by_cases hc : c = 10
   ·subst hc
    simp [Pl.fd1, Pl.ln1]
   ·have e1 : Pl.ln1 (c :: l) = c :: Pl.ln1 l := by unfold Pl.ln1; rw [List.takeWhile_cons_of_pos (by simpa using hc)]
    have e2 : Pl.fd1 (c :: l) = Pl.fd1 l := by unfold Pl.fd1; rw [List.any_cons]; simp [hc]
    rw [if_neg (by simpa using hc), e1, e2, ih]
    cases h : Pl.fd1 l with
    | true => first | (simp; done) | (simp; omega)
    | false => simp
theorem cut10 (l : List UInt8) : Lib.cut l [10] = (Pl.ln1 l, Pl.rs1 l, Pl.fd1 l) := by
 unfold Lib.cut
 rw [Lib.index_one, idx10]
 cases h : Pl.fd1 l with
 | true =>
   have e := Pl.ln1_found h
   rw [if_pos rfl, if_pos (by omega)]
   have e1 : l.take (Pl.ln1 l).length = Pl.ln1 l := by
    conv => lhs; rw [e]
    rw [List.take_left']
    rw [← e]
   have e2 : l.drop ((Pl.ln1 l).length + 1) = Pl.rs1 l := by
    conv => lhs; rw [e]
    rw [← List.drop_drop, List.drop_left']
    ·rfl
    ·rw [← e]
   simp only [Int.toNat_natCast, List.length_singleton]
   rw [e1, e2]
 | false =>
   obtain ⟨h1, h2, _⟩ := Pl.ln1_whole h
   simp [h1, h2]
def rdT (l : List UInt8) : Option Mv := if rdB ⟨l.toArray⟩ = true then some (rdM (wsR ⟨l.toArray⟩)) else none
theorem rdT_some {t : ByteArray} (h : rdB t = true) : rdT t.data.toList = some (rdM (wsR t)) := by
 unfold rdT
 rw [show (⟨t.data.toList.toArray⟩ : ByteArray) = t from rfl, if_pos h]
theorem rdT_none {t : ByteArray} (h : rdB t = false) : rdT t.data.toList = none := by
 unfold rdT
 rw [show (⟨t.data.toList.toArray⟩ : ByteArray) = t from rfl, h]
 rfl
def PrsPost (l : List UInt8) (w : World) (e : Ending) (w' : World) : Prop :=
 (∀ i b, Pl.pvA rdT l 1 [] = .inl (i, b) → e = .returned (.tuple #[.slice none 0 0, .int .i64 (i : Int), .int .i64 (if b = true then 4 else 3)])) ∧
 (∀ ms, Pl.pvA rdT l 1 [] = .inr ms → ∃ v, e = .returned (.tuple #[v, .int .i64 0, .int .i64 0]) ∧ w'.ownsRow w.heap.size 36 5 v ms.length (mvs ms)) ∧ Below w.heap.size w w'
theorem prs_err {l : List UInt8} {w W' : World} {i : Nat} {b : Bool} {c : Int} (h : Pl.pvA rdT l 1 [] = .inl (i, b)) (hc : c = if b = true then 4 else 3) (hb : Below w.heap.size w W') : PrsPost l w (.returned (.tuple #[.slice none 0 0, .int .i64 (i : Int), .int .i64 c])) W' :=
 ⟨fun i' b' h' => (by rw [h] at h'; injection h' with h'; injection h' with h1 h2; subst h1 h2; rw [hc]), fun ms h' => (by rw [h] at h'; cases h'), hb⟩
set_option maxRecDepth 100000 in
set_option maxHeartbeats 4000000 in
theorem mparse_any (s : ByteArray) (hs : s.size ≤ 65536) (w : World) (hg : GV w) :
 Calls Tryz.prog 21 #[.string s] w (PrsPost s.data.toList w) := by
 have HG := hide hg
 have hs1 : ¬ ((65536 : Int) < (s.size : Int)) := by omega
 obtain ⟨l0, hl0⟩ : ∃ l, l = s.data.toList := ⟨_, rfl⟩
 have hsz := Lib.size_eq s
 rw [← hl0] at hsz ⊢
 have HSZ := hide hsz
 have HL0 := hide hl0
 clear hg hsz hl0
 go_enter Tryz.func21, Tryz.ntmps21
 go_wp2_with fail
 go_loopg [0, 5, 6, 7, 8, 9, 10, 11] l0.length (fun g s0 s5 s6 s7 s8 s9 s10 s11 wx => ∃ (t : ByteArray) (i : Nat) (acc : List Mv), g = t.data.toList.length ∧ s0 = .string t ∧ s6 = .int .i64 (i : Int) ∧ Pl.pvA rdT l0 1 [] = Pl.pvA rdT t.data.toList i acc ∧ wx.ownsRow w.heap.size 36 5 s5 acc.length (mvs acc) ∧ Below w.heap.size w wx ∧ i + t.data.toList.length ≤ 65537 ∧ acc.length + t.data.toList.length ≤ 65536)
 case atStart => exact ⟨s, 1, [], by rw [HL0.out], rfl, rfl, by rw [HL0.out], World.ownsRow_nil _ _ _ _, Below.refl _ _, by rw [← HL0.out]; have := HSZ.out; omega, by rw [← HL0.out]; have := HSZ.out; simp; omega⟩
 case round =>
  obtain ⟨t, i, acc, hgt, rfl, rfl, hpa, ho, hb, hi, hal⟩ := hrel
  have HPA := hide hpa
  have OW := hide ho
  have HB := hide hb
  have HGT := hide hgt
  have htz := Lib.size_eq t
  have HTZ := hide htz
  have ht6 : t.size ≤ 65536 := by omega
  obtain ⟨A4, c4, rfl⟩ := owns_slice OW.out
  clear hpa ho hb htz
  by_cases hl : t.data.toList = []
  ·have hem : t.toList.isEmpty = true := by rw [ByteArray.toList_eq, hl]; rfl
   have HR := hide (show Pl.pvA rdT l0 1 [] = .inr acc by rw [HPA.out, hl, Pl.pvA_nil])
   clear hl
   go_wp2_with fail
   refine bodyPost_ret (v := .tuple #[.slice A4 acc.length c4, .int .i64 0, .int .i64 0]) (by simp [results, Tryz.results21, go_sem]) rfl ?_
   exact ⟨fun i' b' h' => (by rw [HR.out] at h'; cases h'), fun ms h' => by
    rw [HR.out] at h'
    injection h' with h'
    subst h'
    exact ⟨_, rfl, OW.out⟩, HB.out⟩
  ·have hem : t.toList.isEmpty = false := by
    rw [ByteArray.toList_eq]
    cases h : t.data.toList with
    | nil => exact absurd h hl
    | cons _ _ => rfl
   have HL := hide hl
   obtain ⟨mv, hmv⟩ := (HG.out.below HB.out).m
   clear hl
   go_wp2_with fail
   refine (Tryz.strings_Cut t ⟨#[10]⟩ mv _ (by omega) hmv).mono ?_
   rintro e w1 ⟨rfl, nd, rfl⟩
   rw [show Lib.cut t.data.toList (⟨#[10]⟩ : ByteArray).data.toList = (Pl.ln1 t.data.toList, Pl.rs1 t.data.toList, Pl.fd1 t.data.toList) from cut10 _]
   obtain ⟨la, hla⟩ : ∃ x : ByteArray, x = ⟨(Pl.ln1 t.data.toList).toArray⟩ := ⟨_, rfl⟩
   obtain ⟨lb, hlb⟩ : ∃ x : ByteArray, x = ⟨(Pl.rs1 t.data.toList).toArray⟩ := ⟨_, rfl⟩
   obtain ⟨fd, hfd⟩ : ∃ x, x = Pl.fd1 t.data.toList := ⟨_, rfl⟩
   have HLA := hide (show la.data.toList = Pl.ln1 t.data.toList by rw [hla])
   have HLB := hide (show lb.data.toList = Pl.rs1 t.data.toList by rw [hlb])
   have HFD := hide hfd
   have hla1 : la.size ≤ 65536 := by
    rw [Lib.size_eq, HLA.out]
    have : (Pl.ln1 t.data.toList).length ≤ t.data.toList.length := (List.takeWhile_sublist _).length_le
    omega
   simp only []
   rw [← hla, ← hlb, ← hfd]
   clear hla hlb hfd hmv
   obtain ⟨V1, hV1⟩ : ∃ V, V = wr.drewN nd := ⟨_, rfl⟩
   have O1 := hide (show V1.ownsRow w.heap.size 36 5 (.slice A4 acc.length c4) acc.length (mvs acc) by rw [hV1]; exact own_below OW.out (below_drewN (Below.refl _ _) _))
   have B1 := hide (show Below w.heap.size w V1 by rw [hV1]; exact below_drewN HB.out _)
   rw [← hV1]
   clear hV1 OW HB
   go_wp2_with fail
   refine (read_any la (by omega) _ (HG.out.below B1.out)).mono ?_
   rintro e w2 ⟨rfl, hb2⟩
   have B2 := hide (B1.out.trans (hb2.mono B1.out.size))
   have O2 := hide (own_below O1.out hb2)
   obtain ⟨z, hz⟩ : ∃ z, z = rdM (wsR la) := ⟨_, rfl⟩
   obtain ⟨rb, hrb⟩ : ∃ z, z = rdB la := ⟨_, rfl⟩
   rw [← hz, ← hrb]
   obtain ⟨zk, zx, zy, zs, zo⟩ := z
   rw [show (Mv.mk zk zx zy zs zo).v = .agg #[.int .i64 zk, .int .i64 zx, .int .i64 zy, .int .i64 zs, .bool zo] from rfl]
   cases rb with
   | false =>
     have HR := hide (show Pl.pvA rdT l0 1 [] = .inl (i, false) by rw [HPA.out]; exact Pl.pvA_bad HL.out (by rw [← HLA.out]; exact rdT_none hrb.symm))
     have B3 := hide (B2.out.alloc B2.out.size (.cells #[.int .i64 zk, .int .i64 zx, .int .i64 zy, .int .i64 zs, .bool zo] 36))
     clear hz hrb hb2
     go_wp2_with fail
     refine bodyPost_ret (v := .tuple #[.slice none 0 0, .int .i64 (i : Int), .int .i64 3]) (by simp [results, Tryz.results21, go_sem]) rfl ?_
     exact prs_err HR.out rfl B3.out
   | true =>
     have HRD := hide (show rdT (Pl.ln1 t.data.toList) = some ⟨zk, zx, zy, zs, zo⟩ by rw [← HLA.out, rdT_some hrb.symm, hz])
     clear hz hrb
     cases fd with
     | false =>
       have HR := hide (show Pl.pvA rdT l0 1 [] = .inl (i, true) by rw [HPA.out]; exact Pl.pvA_end HL.out HRD.out HFD.out.symm)
       have B3 := hide (B2.out.alloc B2.out.size (.cells #[.int .i64 zk, .int .i64 zx, .int .i64 zy, .int .i64 zs, .bool zo] 36))
       clear hb2
       go_wp2_with fail
       refine bodyPost_ret (v := .tuple #[.slice none 0 0, .int .i64 (i : Int), .int .i64 4]) (by simp [results, Tryz.results21, go_sem]) rfl ?_
       exact prs_err HR.out rfl B3.out
     | true =>
       have hlt := Pl.rs1_lt (l := t.data.toList) HFD.out.symm
       rw [← HLB.out] at hlt
       have HP2 := hide (show Pl.pvA rdT l0 1 [] = Pl.pvA rdT lb.data.toList (i + 1) (acc ++ [⟨zk, zx, zy, zs, zo⟩]) by rw [HPA.out, Pl.pvA_step HRD.out HFD.out.symm, HLB.out])
       have hb20 : w.heap.size ≤ w2.heap.size := B2.out.size
       have B3 := hide ((B2.out.alloc B2.out.size (.cells #[.int .i64 zk, .int .i64 zx, .int .i64 zy, .int .i64 zs, .bool zo] 36)).alloc (by simp; omega) (.cells (Mv.cells ⟨zk, zx, zy, zs, zo⟩).toArray 36))
       have O3 := hide (own_below (own_below O2.out ((Below.refl w2.heap.size w2).alloc (Nat.le_refl _) (.cells #[.int .i64 zk, .int .i64 zx, .int .i64 zy, .int .i64 zs, .bool zo] 36))) ((Below.refl _ _).alloc (Nat.le_refl _) (.cells (Mv.cells ⟨zk, zx, zy, zs, zo⟩).toArray 36)))
       have NW := hide (five_news (w2.alloc (.cells #[.int .i64 zk, .int .i64 zx, .int .i64 zy, .int .i64 zs, .bool zo] 36)) (w2.heap.size + 1) (by simp) ⟨zk, zx, zy, zs, zo⟩)
       have A1 : ∀ u ∈ Mv.cells ⟨zk, zx, zy, zs, zo⟩, u.oneCell' = true := by simp [Mv.cells, Value.oneCell']
       have A2 : acc.length + 1 ≤ maxLen := by unfold maxLen; omega
       have A3 : (acc.length + 1) * 40 ≤ 140737488355328 := by omega
       obtain ⟨n0, hn0, hz0, hz1, hz2⟩ := info_parts moveInfo
       have HN1 := hide (show w.heap.size ≤ ((w2.alloc (.cells #[.int .i64 zk, .int .i64 zx, .int .i64 zy, .int .i64 zs, .bool zo] 36)).alloc (.cells (Mv.cells ⟨zk, zx, zy, zs, zo⟩).toArray 36)).heap.size by simp; omega)
       have HI2 := hide (show i + 1 + lb.data.toList.length ≤ 65537 by omega)
       have HA2 := hide (show (acc ++ [(⟨zk, zx, zy, zs, zo⟩ : Mv)]).length + lb.data.toList.length ≤ 65536 by rw [List.length_append, List.length_singleton]; omega)
       clear hb2
       go_wp2_with (at_builtin; refine wpList_append_lies _ (by rfl) _ _ 25 (by rfl) w.heap.size 36 n0 (.agg #[.int .i64 0, .int .i64 0, .int .i64 0, .int .i64 0, .bool false]) 5 40 Tryz.underlying25 hn0 hz0 hz1 hz2 rfl (by omega) _ acc.length (mvs acc) (by rfl) O3.out ⟨w2.heap.size + 1, 0, none⟩ 1 1 (Mv.cells ⟨zk, zx, zy, zs, zo⟩) (by rfl) (by rfl) NW.out A1 (by omega) A2 A3 HN1.out (w2.heap.size + 1 + 1) (by simp) ?_; intro g2 c2 w6 own2 grow2 at2 lt2; have OWN2 := hide own2; have GR2 := hide grow2; clear own2 grow2 at2)
       go_roundg lb.data.toList.length
       case measure => omega
       case rel =>
        refine ⟨lb, i + 1, acc ++ [⟨zk, zx, zy, zs, zo⟩], rfl, rfl, by go_num, HP2.out, ?_, B3.out.grown GR2.out HN1.out (fun k hk => by have := (O3.out.lt k hk).1; omega), HI2.out, HA2.out⟩
        rw [mvs_app, List.length_append]
        exact OWN2.out
end Go.Proofs.YtlffopdoeobgaaaGreatDoor
end
section
namespace Go.Proofs.YtlffopdoeobgaaaGreatDoor
open Go Go.RowKit Go.Shelf
attribute [local go_sem ↓] Go.wp_at_zero Go.wp_at_succ
def MvsA (w : World) (A : Option Addr) (n : Nat) (ms : List Mv) : Prop := n = ms.length ∧ (0 < n → ∃ b o, A = some ⟨b, o, none⟩ ∧ ∀ (j : Nat) (z : Mv), ms[j]? = some z → ∀ (i : Nat) (u : Value), z.cells[i]? = some u → w.cell? ⟨b, o + j * 5 + i, none⟩ = some u)
theorem MvsA.keep {w w' : World} {A : Option Addr} {n : Nat} {ms : List Mv} (h : MvsA w A n ms) (hb : Below w.heap.size w w') : MvsA w' A n ms :=
 ⟨h.1, fun hp => let ⟨b, o, e, hc⟩ := h.2 hp; ⟨b, o, e, fun j z hz i u hu => cell_below (hc j z hz i u hu) hb⟩⟩
theorem MvsA.at_ {w : World} {A : Option Addr} {n j : Nat} {ms : List Mv} (h : MvsA w A n ms) (hj : j < n) : ∃ b o k x y s v, A = some ⟨b, o, none⟩ ∧ ms[j]? = some ⟨k, x, y, s, v⟩ ∧ w.cell? ⟨b, o + j * 5, none⟩ = some (.int .i64 k) ∧ w.cell? ⟨b, o + j * 5 + 1, none⟩ = some (.int .i64 x) ∧ w.cell? ⟨b, o + j * 5 + 2, none⟩ = some (.int .i64 y) ∧ w.cell? ⟨b, o + j * 5 + 3, none⟩ = some (.int .i64 s) ∧ w.cell? ⟨b, o + j * 5 + 4, none⟩ = some (.bool v) := by
 obtain ⟨b, o, e, hc⟩ := h.2 (by omega)
 have hj' : j < ms.length := by rw [← h.1]; exact hj
 have hz : ms[j]? = some (ms[j]'hj') := List.getElem?_eq_getElem hj'
 obtain ⟨z, hz'⟩ : ∃ z, z = ms[j]'hj' := ⟨_, rfl⟩
 rw [← hz'] at hz
 clear hz'
 obtain ⟨k, x, y, s, v⟩ := z
 exact ⟨b, o, k, x, y, s, v, e, hz, hc j _ hz 0 _ rfl, hc j _ hz 1 _ rfl, hc j _ hz 2 _ rfl, hc j _ hz 3 _ rfl, hc j _ hz 4 _ rfl⟩
theorem MovesV.a {w : World} {A : Option Addr} {n : Nat} {ms : List Mv} (h : MovesV w A n ms) : MvsA w A n ms :=
 ⟨h.1, fun hp => let ⟨g, e, _, hc⟩ := h.2 hp; ⟨g, 0, e, fun j z hz i u hu => by rw [Nat.zero_add]; exact hc j z hz i u hu⟩⟩
def MvIn (m : Mv) : Prop := (-9223372036854775808 ≤ m.x ∧ m.x ≤ 9223372036854775807) ∧ (-9223372036854775808 ≤ m.y ∧ m.y ≤ 9223372036854775807) ∧ (-9223372036854775808 ≤ m.sign ∧ m.sign ≤ 9223372036854775807)
end Go.Proofs.YtlffopdoeobgaaaGreatDoor
end
section
namespace Go.Proofs.YtlffopdoeobgaaaGreatDoor
open Go Go.RowKit
attribute [local go_sem ↓] Go.wp_at_zero Go.wp_at_succ
set_option maxRecDepth 100000 in
set_option maxHeartbeats 4000000 in
theorem leading_any (d : Pl.Dg) (hd : Pl.Wf d) (A B : Option Addr) (cp cq m n : Nat) (lp : Int) (x y : Nat) (w : World) (hm : m = 4 * d.n) (hg : DgAt w A B d) (hx : x < d.n) :
 Calls Tryz.prog 32 #[.agg #[.slice A n cp, .slice B m cq, .int .i64 lp], .int .i64 (x : Int), .int .i64 (y : Int)] w fun e w' => (e = .returned (.int .i64 (x : Int)) ∨ e = .returned (.int .i64 (y : Int))) ∧ Below w.heap.size w w' := by
 have HG := hide hg
 have HM := hide hm
 have HD := hide hd
 have hn := hd.few
 have X0 := hide (row_at (W := w) (g := w.heap.size) (t := 24) (vs := [.slice A n cp, .slice B m cq, .int .i64 lp]) rfl)
 have B0 := hide (show Below w.heap.size w (w.alloc (.cells #[.slice A n cp, .slice B m cq, .int .i64 lp] 24)) from (Below.refl _ _).alloc (Nat.le_refl _) _)
 obtain ⟨V, hV⟩ : ∃ V, V = w.alloc (.cells #[.slice A n cp, .slice B m cq, .int .i64 lp] 24) := ⟨_, rfl⟩
 have HV := hide hV
 rw [← hV] at X0 B0
 obtain ⟨d0, d1, d2, d3⟩ := box3 X0.out
 have HGV := hide (HG.out.keep B0.out)
 clear hg hm hd hV
 go_enter Tryz.func32, Tryz.ntmps32
 go_wp2_with fail
 rw [← HV.out]
 go_loopg [7, 8, 9] (4 * x + 4) (fun g s7 s8 s9 wx => ∃ h : Nat, h + g = 4 * x + 4 + 4 * x ∧ 4 * x ≤ h ∧ s7 = .int .i64 (h : Int) ∧ wx = V)
 case atStart => exact ⟨4 * x, by omega, by omega, by go_num, rfl⟩
 case round =>
  obtain ⟨h, hhg, hxh, rfl, rfl⟩ := hrel
  have HHG := hide hhg
  have h0 : (0 : Int) ≤ (h : Int) := by omega
  by_cases hh : h < 4 * x + 4
  ·have hhi : (h : Int) < 4 * (x : Int) + 4 := by omega
   have hhn : h < 4 * d.n := by omega
   have hhm : (h : Int) < (m : Int) := by have := HM.out; omega
   obtain ⟨b, o, rfl, c0⟩ := HGV.out.mate hhn
   have hmn := HD.out.lt h hhn
   obtain ⟨mh, hmh⟩ : ∃ z, z = d.m h := ⟨_, rfl⟩
   rw [← hmh] at c0 hmn
   have hg3 : Pl.tn mh 3 < 4 * d.n := by unfold Pl.tn; omega
   obtain ⟨b', o', e', c1⟩ := HGV.out.mate hg3
   injection e' with e'
   injection e' with e1 e2
   subst e1 e2
   obtain ⟨g3, hg3'⟩ : ∃ z, z = Pl.tn mh 3 := ⟨_, rfl⟩
   rw [← hg3'] at c1 hg3
   have hg3m : (g3 : Int) < (m : Int) := by have := HM.out; omega
   have hg30 : (0 : Int) ≤ (g3 : Int) := by omega
   have HT := hide hg3'
   clear hhg hmh hg3'
   go_upto_region 6 with (go_at_call 60; refine (turn_back mh _ (by omega)).mono ?_; rintro e w2 ⟨rfl, rfl⟩; rw [← HT.out])
   have BF := hide (show Below w.heap.size w wr by rw [HV.out]; exact (Below.refl _ _).alloc (Nat.le_refl _) _)
   have NXT : h + 1 ≤ 4 * x + 4 := by omega
   by_cases q1 : ((g3 : Int) / 4) = (y : Int)
   ·go_wp2_with (go_at_call 60; refine (turn_back _ _ (by have := HD.out.lt g3 hg3; omega)).mono ?_; rintro e w2 ⟨rfl, rfl⟩)
    all_goals first
     | (go_ret; exact ⟨.inl rfl, BF.out⟩)
     | (go_roundg (gk - 1)
        case measure => have := HHG.out; omega
        case rel => exact ⟨h + 1, by have := HHG.out; omega, by omega, by go_num, rfl⟩)
   ·go_wp2_with fail
    all_goals first
     | (go_ret; exact ⟨.inl rfl, BF.out⟩)
     | (go_roundg (gk - 1)
        case measure => have := HHG.out; omega
        case rel => exact ⟨h + 1, by have := HHG.out; omega, by omega, by go_num, rfl⟩)
  ·have hhi : ¬ ((h : Int) < 4 * (x : Int) + 4) := by omega
   go_wp2_with fail
   go_ret
   exact ⟨.inr rfl, by rw [HV.out]; exact (Below.refl _ _).alloc (Nat.le_refl _) _⟩
set_option maxRecDepth 100000 in
set_option maxHeartbeats 4000000 in
theorem drop_any {base g n c : Nat} {xs : List Int} (W : World) (h : W.ownsRow base 3 1 (.slice (some ⟨g, 0, none⟩) (n + 1) c) (n + 1) (xs.map (.int .i64))) (hn : n ≤ 100000) :
 Calls Tryz.prog 62 #[.slice (some ⟨g, 0, none⟩) (n + 1) c] W fun e w' => e = .returned (.slice (some ⟨g, 0, none⟩) n c) ∧ (∃ ys : List Int, w'.ownsRow base 3 1 (.slice (some ⟨g, 0, none⟩) n c) n (ys.map (.int .i64))) ∧ W.grownBy w' (some g) := by
 have H := hide h
 obtain ⟨hc1, hc2⟩ := own_capI h (Nat.succ_pos n)
 have hcut := cut_own g n c (by omega) hc2
 have c0 := World.ownsRow.cellAt h n (by omega)
 have hxl : xs.length = n + 1 := by have := h.1; simpa using this
 rw [List.getElem?_map, List.getElem?_eq_getElem (by omega)] at c0
 simp only [Option.map_some] at c0
 obtain ⟨gone, hgone⟩ : ∃ z, z = xs[n]'(by omega) := ⟨_, rfl⟩
 rw [← hgone] at c0
 have HS := hide (show W.ownsRow base 3 1 (.slice (some ⟨g, 0, none⟩) n c) n ((xs.dropLast).map (.int .i64)) by rw [List.map_dropLast]; exact own_shrink h)
 have i1 : (0 : Int) ≤ (n : Int) := by omega
 have i2 : (n : Int) < (n : Int) + 1 := by omega
 have i3 : (n : Int) + 1 - 1 = (n : Int) := by omega
 clear h hgone hc1 hc2
 go_enter Tryz.func62, Tryz.ntmps62
 go_wp2_with fail
 go_loopg [5, 6, 19] n (fun m s5 s6 i wx => ∃ k : Nat, k + m = n ∧ i = .int .i64 (k : Int) ∧ (∃ ys : List Int, wx.ownsRow base 3 1 (.slice (some ⟨g, 0, none⟩) n c) n (ys.map (.int .i64))) ∧ W.grownBy wx (some g))
 case atStart => exact ⟨0, by omega, rfl, ⟨_, HS.out⟩, ⟨rfl, rfl, rfl, Nat.le_refl _, fun _ _ _ => rfl⟩⟩
 case round =>
  obtain ⟨k, hkg, rfl, ⟨ys, hy⟩, hg⟩ := hrel
  have HKG := hide hkg
  have HY := hide hy
  have HGR := hide hg
  by_cases hk : k < n
  ·have hki : (k : Int) < (n : Int) := by omega
   have k0 : (0 : Int) ≤ (k : Int) := by omega
   have hyl : ys.length = n := by have := hy.1; simpa using this
   have c1 := World.ownsRow.cellAt hy k (by omega)
   rw [List.getElem?_map, List.getElem?_eq_getElem (by omega)] at c1
   simp only [Option.map_some] at c1
   obtain ⟨y, hyy⟩ : ∃ z, z = ys[k]'(by omega) := ⟨_, rfl⟩
   rw [← hyy] at c1
   have f1 := World.ownsRow.frozenAt hy k
   clear hkg hy hg hyl hyy c0
   by_cases hgt : gone < y
   ·go_wp2_with fail
    go_roundg (gk - 1)
    case measure => have := HKG.out; omega
    case rel => exact ⟨k + 1, by have := HKG.out; omega, by go_num, ⟨ys.set k _, by rw [List.map_set]; exact (World.ownsRow.stored HY.out k _).1⟩, grownBy_trans HGR.out (World.ownsRow.stored HY.out k _).2⟩
   ·go_wp2_with fail
    go_roundg (gk - 1)
    case measure => have := HKG.out; omega
    case rel => exact ⟨k + 1, by have := HKG.out; omega, by go_num, ⟨ys, HY.out⟩, HGR.out⟩
  ·have hki : ¬ ((k : Int) < (n : Int)) := by omega
   go_wp2_with fail
   go_ret
   exact ⟨rfl, ⟨ys, HY.out⟩, HGR.out⟩
end Go.Proofs.YtlffopdoeobgaaaGreatDoor
end
section
namespace Go.Proofs.YtlffopdoeobgaaaGreatDoor
open Go Go.RowKit
attribute [local go_sem ↓] Go.wp_at_zero Go.wp_at_succ
theorem run_ints0 (n : Nat) (hn : n ≤ 100000) (w : World) (z : Int) (hz : z = (n : Int)) : (Instr.makeSlice 22 (.int .i64 0) (.int .i64 z)).run Tryz.prog w = .ok (.slice (some ⟨w.heap.size, 0, none⟩) 0 n) (w.alloc (.cells (Array.replicate n (Value.int .i64 0)) 3)) := by
 subst hz
 obtain ⟨i0, hi, hz0, hz1, hz2⟩ := info_parts intInfo
 have := run_make (P := Tryz.prog) w 22 3 i0 (.int .i64 0) Tryz.underlying22 hi hz0 .i64 .i64 0 n (Int.le_refl _) (by omega) (by rw [hz2]; omega) (by omega)
 rw [hz1, Nat.mul_one, Int.toNat_natCast, show madeCells (Value.cells (.int .i64 0)) n = (List.replicate n (.int .i64 0)).toArray from made_rep _ _] at this
 exact this
def AdOk : Nat → Nat → List Nat → Prop
 | _, _, [] => True
 | l, m, a :: r => l ≤ a ∧ a ≤ l + m ∧ AdOk (a + 1) (l + m - a) r
theorem AdOk.put {l m a : Nat} {r : List Nat} (h : AdOk l m (a :: r)) (e : a = l) : AdOk (l + 1) m r := by
 have h3 := h.2.2
 rw [e, show l + m - l = m by omega] at h3
 exact h3
theorem AdOk.next {l m a : Nat} {r : List Nat} (h : AdOk l (m + 1) (a :: r)) (e : a ≠ l) : AdOk (l + 1) m (a :: r) := by
 obtain ⟨h1, h2, h3⟩ := h
 refine ⟨by omega, by omega, ?_⟩
 rw [show l + 1 + m - a = l + (m + 1) - a by omega]
 exact h3
theorem AdOk.more {l a : Nat} {r : List Nat} (h : AdOk l 0 (a :: r)) : a = l := by have := h.1; have := h.2.1; omega
set_option maxRecDepth 100000 in
set_option maxHeartbeats 8000000 in
theorem add_any (xs : List Int) (bs : List Nat) (A B : Option Addr) (n q c e0 : Nat) (w : World) (hA : IntsAt w A n xs) (hB : IntsAt w B q (nats bs)) (hn : n ≤ 1000) (hq : q ≤ 1000) (hc : n ≤ c) (he : q ≤ e0) (hok : AdOk 0 n bs) :
 Calls Tryz.prog 63 #[.slice A n c, .slice B q e0] w fun e w' => ∃ (v : Value) (ys : List Int), e = .returned v ∧ w'.ownsRow w.heap.size 3 1 v (n + q) (ys.map (.int .i64)) ∧ Below w.heap.size w w' := by
 have HA := hide hA
 have HB := hide hB
 have HOK := hide hok
 have hmk : ∀ W : World, (Instr.makeSlice 22 (.int .i64 0) (.int .i64 ((n : Int) + (q : Int)))).run Tryz.prog W = .ok (.slice (some ⟨W.heap.size, 0, none⟩) 0 (n + q)) (W.alloc (.cells (Array.replicate (n + q) (Value.int .i64 0)) 3)) := fun W => run_ints0 (n + q) (by omega) W _ (by omega)
 have O0 := hide (show (w.alloc (.cells (Array.replicate (n + q) (Value.int .i64 0)) 3)).ownsRow w.heap.size 3 1 (.slice (some ⟨w.heap.size, 0, none⟩) 0 (n + q)) 0 [] from World.ownsRow_made w _ _ (Nat.le_refl _) (by unfold maxLen; omega) (by simp))
 have B0 := hide (show Below w.heap.size w (w.alloc (.cells (Array.replicate (n + q) (Value.int .i64 0)) 3)) from (Below.refl _ _).alloc (Nat.le_refl _) _)
 clear hA hB hok
 go_enter Tryz.func63, Tryz.ntmps63
 go_wp2_with fail
 go_loopg [0, 1, 5, 6] (n + q) (fun g s0 s1 s5 s6 wx => ∃ (m p l : Nat) (A1 B1 : Option Addr) (c1 e1 : Nat) (x1 : List Int) (a1 : List Nat) (cnt : Int) (ys : List Int), m + p = g ∧ l + m + p = n + q ∧ s0 = .slice A1 m c1 ∧ s1 = .slice B1 p e1 ∧ m ≤ c1 ∧ p ≤ e1 ∧ IntsAt w A1 m x1 ∧ IntsAt w B1 p (nats a1) ∧ AdOk l m a1 ∧ s6 = .int .i64 cnt ∧ wx.ownsRow w.heap.size 3 1 s5 l (ys.map (.int .i64)) ∧ Below w.heap.size w wx)
 case atStart => exact ⟨n, q, 0, A, B, c, e0, xs, bs, _, [], rfl, by omega, rfl, rfl, hc, he, HA.out, HB.out, HOK.out, rfl, O0.out, B0.out⟩
 case round =>
  clear O0 B0
  obtain ⟨m, p, l, A1, B1, c1, e1, x1, a1, cnt, ys, hg, hl, rfl, rfl, hmc, hpe, hA1, hB1, had, rfl, ho, hb⟩ := hrel
  have HG := hide hg
  have HLL := hide hl
  have HA1 := hide hA1
  have HB1 := hide hB1
  have HAD := hide had
  have OW := hide ho
  have HBW := hide hb
  have hbig : w.heap.size ≤ wr.heap.size := HBW.out.size
  have hll : l ≤ 2000 := by omega
  have hpl := HB1.out.len
  unfold nats at hpl
  rw [List.length_map] at hpl
  obtain ⟨A5, c5, rfl⟩ := owns_slice OW.out
  obtain ⟨i0, hi0, hz0, hz1, hz2⟩ := info_parts intInfo
  clear hA1 hB1 had ho hb hg hl
  by_cases hp : 0 < p
  ·obtain ⟨a, r, rfl⟩ : ∃ a r, a1 = a :: r := by
    cases a1 with
    | nil => simp at hpl; omega
    | cons a r => exact ⟨a, r, rfl⟩
   obtain ⟨bb, oo, hB1e, x0⟩ := (HB1.out.keep HBW.out).at_ hp
   subst hB1e
   have hx0 : (nats (a :: r)).getD 0 0 = (a : Int) := rfl
   rw [hx0] at x0
   simp only [Nat.add_zero] at x0
   have hpi : (0 : Int) < (p : Int) := by omega
   by_cases hal : a = l
   ·subst hal
    obtain ⟨B2, hB2, hcut⟩ := cut_hi (A := some ⟨bb, oo, none⟩) (c := e1) HB1.out (k := 1) (by omega) (by omega)
    have hcut' : ∀ W : World, (Instr.slice 22 (.slice (some ⟨bb, oo, none⟩) p e1) (some (.int .i64 1)) none none).run Tryz.prog W = .ok (.slice B2 (p - 1) (e1 - 1)) W := hcut
    have HB2 := hide (show IntsAt w B2 (p - 1) (nats r) from hB2)
    have OA := hide (own_below OW.out ((Below.refl wr.heap.size wr).alloc (Nat.le_refl _) (.cells #[.int .i64 cnt] 3)))
    have HAD2 := hide (HAD.out.put rfl)
    clear hB2 hcut hx0
    by_cases hm : 0 < m
    ·have hmi : (0 : Int) < (m : Int) := by omega
     go_wp2_with (at_builtin; refine wpList_append_lies _ (by rfl) _ _ 22 (by rfl) w.heap.size 3 i0 (.int .i64 0) 1 8 Tryz.underlying22 hi0 hz0 hz1 hz2 rfl (by omega) _ a _ (by rfl) OA.out ⟨wr.heap.size, 0, none⟩ 1 1 [.int .i64 cnt] (by rfl) (by rfl) (one_news _ _) (by simp [Value.oneCell']) (by omega) (by unfold maxLen; omega) (by omega) (by simp; omega) (wr.heap.size + 1) (by simp) ?_; intro g3 c3 w3 own3 grow3 at3 lt3; have OWN3 := hide own3; have GR3 := hide grow3; clear own3 grow3 at3)
     go_roundg (m + (p - 1))
     case measure => have := HG.out; omega
     case rel =>
      refine ⟨m, p - 1, a + 1, A1, B2, c1, e1 - 1, x1, r, _, ys ++ [cnt], rfl, by have := HLL.out; omega, rfl, rfl, hmc, by omega, HA1.out, HB2.out, HAD2.out, rfl, ?_, (HBW.out.alloc hbig _).grown GR3.out (by simp; omega) (fun j hj => (OA.out.lt j hj).1)⟩
      rw [List.map_append]; exact OWN3.out
    ·obtain rfl : m = 0 := by omega
     go_wp2_with (at_builtin; refine wpList_append_lies _ (by rfl) _ _ 22 (by rfl) w.heap.size 3 i0 (.int .i64 0) 1 8 Tryz.underlying22 hi0 hz0 hz1 hz2 rfl (by omega) _ a _ (by rfl) OA.out ⟨wr.heap.size, 0, none⟩ 1 1 [.int .i64 cnt] (by rfl) (by rfl) (one_news _ _) (by simp [Value.oneCell']) (by omega) (by unfold maxLen; omega) (by omega) (by simp; omega) (wr.heap.size + 1) (by simp) ?_; intro g3 c3 w3 own3 grow3 at3 lt3; have OWN3 := hide own3; have GR3 := hide grow3; clear own3 grow3 at3)
     go_roundg (0 + (p - 1))
     case measure => have := HG.out; omega
     case rel =>
      refine ⟨0, p - 1, a + 1, A1, B2, c1, e1 - 1, x1, r, _, ys ++ [cnt], rfl, by have := HLL.out; omega, rfl, rfl, hmc, by omega, HA1.out, HB2.out, HAD2.out, rfl, ?_, (HBW.out.alloc hbig _).grown GR3.out (by simp; omega) (fun j hj => (OA.out.lt j hj).1)⟩
      rw [List.map_append]; exact OWN3.out
   ·have hm : 0 < m := by
     rcases Nat.eq_zero_or_pos m with h0 | h0
     ·exfalso
      have h := HAD.out
      rw [h0] at h
      exact hal h.more
     ·exact h0
    have hali : ¬ ((a : Int) = (l : Int)) := by omega
    have halb : ((a : Int) == (l : Int)) = false := by rw [beq_eq_false_iff_ne]; exact hali
    clear hx0
    obtain ⟨b2, o2, hA1e, y0⟩ := (HA1.out.keep HBW.out).at_ hm
    subst hA1e
    obtain ⟨xv, hxv⟩ : ∃ z, z = Pl.pv x1 0 := ⟨_, rfl⟩
    first | rw [← hxv] at y0 | (rw [show x1.getD 0 0 = xv from hxv.symm] at y0)
    obtain ⟨A2, hA2, hcut⟩ := cut_hi (A := some ⟨b2, o2, none⟩) (c := c1) HA1.out (k := 1) (by omega) (by omega)
    have HA2 := hide hA2
    have hmi : (0 : Int) < (m : Int) := by omega
    simp only [Nat.add_zero] at y0
    have hcut' : ∀ W : World, (Instr.slice 22 (.slice (some ⟨b2, o2, none⟩) m c1) (some (.int .i64 1)) none none).run Tryz.prog W = .ok (.slice A2 (m - 1) (c1 - 1)) W := hcut
    have OA := hide (own_below OW.out ((Below.refl wr.heap.size wr).alloc (Nat.le_refl _) (.cells #[.int .i64 xv] 3)))
    clear hA2 hxv hcut
    go_wp2_with (at_builtin; refine wpList_append_lies _ (by rfl) _ _ 22 (by rfl) w.heap.size 3 i0 (.int .i64 0) 1 8 Tryz.underlying22 hi0 hz0 hz1 hz2 rfl (by omega) _ l _ (by rfl) OA.out ⟨wr.heap.size, 0, none⟩ 1 1 [.int .i64 xv] (by rfl) (by rfl) (one_news _ _) (by simp [Value.oneCell']) (by omega) (by unfold maxLen; omega) (by omega) (by simp; omega) (wr.heap.size + 1) (by simp) ?_; intro g3 c3 w3 own3 grow3 at3 lt3; have OWN3 := hide own3; have GR3 := hide grow3; clear own3 grow3 at3)
    go_roundg (m - 1 + p)
    case measure => have := HG.out; omega
    case rel =>
     refine ⟨m - 1, p, l + 1, A2, some ⟨bb, oo, none⟩, c1 - 1, e1, _, (a :: r), cnt, ys ++ [xv], rfl, by have := HLL.out; omega, rfl, rfl, by omega, hpe, HA2.out, HB1.out, ?_, rfl, ?_, (HBW.out.alloc hbig _).grown GR3.out (by simp; omega) (fun j hj => (OA.out.lt j hj).1)⟩
     ·obtain ⟨m2, rfl⟩ : ∃ m2, m = m2 + 1 := ⟨m - 1, by omega⟩
      exact HAD.out.next hal
     ·rw [List.map_append]; exact OWN3.out
  ·obtain rfl : p = 0 := by omega
   by_cases hm : 0 < m
   ·have hnil : a1 = [] := List.length_eq_zero_iff.1 (by omega)
    obtain ⟨b2, o2, hA1e, y0⟩ := (HA1.out.keep HBW.out).at_ hm
    subst hA1e
    obtain ⟨xv, hxv⟩ : ∃ z, z = Pl.pv x1 0 := ⟨_, rfl⟩
    first | rw [← hxv] at y0 | (rw [show x1.getD 0 0 = xv from hxv.symm] at y0)
    obtain ⟨A2, hA2, hcut⟩ := cut_hi (A := some ⟨b2, o2, none⟩) (c := c1) HA1.out (k := 1) (by omega) (by omega)
    have HA2 := hide hA2
    have hmi : (0 : Int) < (m : Int) := by omega
    simp only [Nat.add_zero] at y0
    have hcut' : ∀ W : World, (Instr.slice 22 (.slice (some ⟨b2, o2, none⟩) m c1) (some (.int .i64 1)) none none).run Tryz.prog W = .ok (.slice A2 (m - 1) (c1 - 1)) W := hcut
    have OA := hide (own_below OW.out ((Below.refl wr.heap.size wr).alloc (Nat.le_refl _) (.cells #[.int .i64 xv] 3)))
    clear hA2 hxv hcut
    go_wp2_with (at_builtin; refine wpList_append_lies _ (by rfl) _ _ 22 (by rfl) w.heap.size 3 i0 (.int .i64 0) 1 8 Tryz.underlying22 hi0 hz0 hz1 hz2 rfl (by omega) _ l _ (by rfl) OA.out ⟨wr.heap.size, 0, none⟩ 1 1 [.int .i64 xv] (by rfl) (by rfl) (one_news _ _) (by simp [Value.oneCell']) (by omega) (by unfold maxLen; omega) (by omega) (by simp; omega) (wr.heap.size + 1) (by simp) ?_; intro g3 c3 w3 own3 grow3 at3 lt3; have OWN3 := hide own3; have GR3 := hide grow3; clear own3 grow3 at3)
    go_roundg (m - 1 + 0)
    case measure => have := HG.out; omega
    case rel =>
     refine ⟨m - 1, 0, l + 1, A2, B1, c1 - 1, e1, _, a1, cnt, ys ++ [xv], rfl, by have := HLL.out; omega, rfl, rfl, by omega, hpe, HA2.out, HB1.out, ?_, rfl, ?_, (HBW.out.alloc hbig _).grown GR3.out (by simp; omega) (fun j hj => (OA.out.lt j hj).1)⟩
     ·rw [hnil]; trivial
     ·rw [List.map_append]; exact OWN3.out
   ·obtain rfl : m = 0 := by omega
    have hln : l = n + q := by have := HLL.out; omega
    subst hln
    go_wp2_with fail
    go_ret
    exact ⟨_, ys, rfl, OW.out, HBW.out⟩
end Go.Proofs.YtlffopdoeobgaaaGreatDoor
end
section
namespace Go.Proofs.YtlffopdoeobgaaaGreatDoor
open Go Go.RowKit
attribute [local go_sem ↓] Go.wp_at_zero Go.wp_at_succ
set_option maxRecDepth 100000 in
set_option maxHeartbeats 4000000 in
theorem half_any (h : Int) (n c gb : Nat) (A : Option Addr) (xs : List Int) (w : World) (hb : w.cell? ⟨gb, 0, none⟩ = some (.slice A n c)) (hx : IntsAt w A n xs) (hn : n ≤ 1000) (hh : h < 4 * (n : Int)) (h0 : -9223372036854775808 ≤ h) :
 Calls Tryz.prog 107 #[.int .i64 h, .pointer (some ⟨gb, 0, none⟩)] w fun e w' => (∃ v : Int, e = .returned (.int .i64 v)) ∧ w = w' := by
 have HX := hide hx
 clear hx
 by_cases hneg : h < 0
 ·go_enter Tryz.func107, Tryz.ntmps107
  go_wp2
  go_ret
  exact ⟨⟨_, rfl⟩, rfl⟩
 ·obtain ⟨u, hu⟩ : ∃ u : Nat, h / 4 = (u : Int) := ⟨(h / 4).toNat, by omega⟩
  have hun : u < n := by omega
  have hq : h.tdiv 4 = (u : Int) := by rw [Int.tdiv_eq_ediv_of_nonneg (by omega)]; exact hu
  have hui : (u : Int) < (n : Int) := by omega
  have hu0 : (0 : Int) ≤ (u : Int) := by omega
  obtain ⟨b, o, rfl, c0⟩ := HX.out.at_ hun
  obtain ⟨xv, hxv⟩ : ∃ z, z = xs.getD u 0 := ⟨_, rfl⟩
  rw [← hxv] at c0
  clear hxv
  go_enter Tryz.func107, Tryz.ntmps107
  go_wp2
  go_ret
  exact ⟨⟨_, rfl⟩, rfl⟩
theorem below5s {w W : World} (h : Below w.heap.size w W) {g : Nat} (hg : w.heap.size ≤ g) (a b c d e : Value) : Below w.heap.size w (((((W.setCell ⟨g, 0, none⟩ a).setCell ⟨g, 1, none⟩ b).setCell ⟨g, 2, none⟩ c).setCell ⟨g, 3, none⟩ d).setCell ⟨g, 4, none⟩ e) :=
 ((((h.setCell (by show _ ≤ g; omega) _).setCell (by show _ ≤ g; omega) _).setCell (by show _ ≤ g; omega) _).setCell (by show _ ≤ g; omega) _).setCell (by show _ ≤ g; omega) _
theorem row5s {W : World} {g : Nat} {t : TypeId} {p q r u v : Value} (h : Row W g t [p, q, r, u, v]) (a b c d e : Value) : Row (((((W.setCell ⟨g, 0, none⟩ a).setCell ⟨g, 1, none⟩ b).setCell ⟨g, 2, none⟩ c).setCell ⟨g, 3, none⟩ d).setCell ⟨g, 4, none⟩ e) g t [a, b, c, d, e] :=
 ((((h.set 0 a).set 1 b).set 2 c).set 3 d).set 4 e
def TrIn (n : Nat) (z : Mv) : Prop :=
 (z.kind = 2 → 0 ≤ z.x ∧ z.x < n) ∧ (z.kind = 4 → 0 ≤ z.x ∧ z.x < n ∧ 0 ≤ z.y ∧ z.y < n) ∧ (z.kind = 3 → -9223372036854775808 ≤ z.x ∧ z.x < 4 * n ∧ -9223372036854775808 ≤ z.y ∧ z.y < 4 * n) ∧ (z.kind ≠ 2 → z.kind ≠ 4 → z.kind ≠ 3 → -9223372036854775808 ≤ z.x ∧ z.x < 4 * n)
def TrPost (k s : Int) (o : Bool) (w : World) (e : Ending) (w' : World) : Prop :=
 (∃ x y : Int, e = .returned (.agg #[.int .i64 k, .int .i64 x, .int .i64 y, .int .i64 s, .bool o])) ∧ Below w.heap.size w w'
set_option maxRecDepth 100000 in
set_option maxHeartbeats 4000000 in
theorem translate_any (k x y s : Int) (o : Bool) (n c : Nat) (A : Option Addr) (xs : List Int) (w : World) (hx : IntsAt w A n xs) (hn : n ≤ 1000) (ht : TrIn n ⟨k, x, y, s, o⟩) :
 Calls Tryz.prog 61 #[.agg #[.int .i64 k, .int .i64 x, .int .i64 y, .int .i64 s, .bool o], .slice A n c] w (TrPost k s o w) := by
 have HX := hide hx
 clear hx
 obtain ⟨V, hV⟩ : ∃ V, V = ((w.alloc (.cells #[.int .i64 k, .int .i64 x, .int .i64 y, .int .i64 s, .bool o] 36)).alloc (.cells #[.slice A n c] 22)).alloc (.cells #[.int .i64 0, .int .i64 0, .int .i64 0, .int .i64 0, .bool false] 36) := ⟨_, rfl⟩
 obtain ⟨gm, hgm⟩ : ∃ g, g = w.heap.size := ⟨_, rfl⟩
 obtain ⟨gn, hgn⟩ : ∃ g, g = w.heap.size + 1 := ⟨_, rfl⟩
 obtain ⟨gr, hgr⟩ : ∃ g, g = w.heap.size + 1 + 1 := ⟨_, rfl⟩
 have M0 := hide (show Row V gm 36 [.int .i64 k, .int .i64 x, .int .i64 y, .int .i64 s, .bool o] by rw [hV, hgm]; exact ((row_at (vs := [.int .i64 k, .int .i64 x, .int .i64 y, .int .i64 s, .bool o]) rfl).alloc _).alloc _)
 have N0 := hide (show Row V gn 22 [.slice A n c] by rw [hV, hgn]; exact (row_at (vs := [.slice A n c]) (by simp)).alloc _)
 have R0 := hide (show Row V gr 36 [.int .i64 0, .int .i64 0, .int .i64 0, .int .i64 0, .bool false] by rw [hV, hgr]; exact row_at (vs := [.int .i64 0, .int .i64 0, .int .i64 0, .int .i64 0, .bool false]) (by simp))
 have B0 := hide (show Below w.heap.size w V by rw [hV]; exact (((Below.refl _ _).alloc (Nat.le_refl _) _).alloc (by simp) _).alloc (by simp; omega) _)
 have HXV := hide (HX.out.keep B0.out)
 have e1 : gm ≠ gr := by omega
 have e2 : gm ≠ gn := by omega
 have l1 : w.heap.size ≤ gm := by omega
 have l2 : w.heap.size ≤ gr := by omega
 obtain ⟨m0, m1, m2, m3, m4, m5⟩ := box5 M0.out
 obtain ⟨r0, r1, r2, r3, r4, r5⟩ := box5 R0.out
 have n0 : V.cell? ⟨gn, 0, none⟩ = some (.slice A n c) := N0.out.cell (i := 0) (by simp)
 have HV := hide hV
 have HM := hide hgm
 have HN := hide hgn
 have HRR := hide hgr
 clear hV hgm hgn hgr
 by_cases k2 : k = 2
 ·subst k2
  obtain ⟨hx0, hx1⟩ := ht.1 rfl
  obtain ⟨u, rfl⟩ := Int.eq_ofNat_of_zero_le hx0
  have hui : (u : Int) < (n : Int) := hx1
  obtain ⟨b, oo, rfl, c0⟩ := HXV.out.at_ (show u < n by omega)
  obtain ⟨xv, hxv⟩ : ∃ z, z = xs.getD u 0 := ⟨_, rfl⟩
  rw [← hxv] at c0
  clear hxv ht hx1
  go_enter Tryz.func61, Tryz.ntmps61
  go_upto_region 1 with fail
  rw [← HV.out, ← HRR.out, ← HN.out, ← HM.out]
  go_upto_region 11 with fail
  obtain ⟨U, hU⟩ : ∃ U, U = V.setCell ⟨gm, 1, none⟩ (.int .i64 xv) := ⟨_, rfl⟩
  have MU := hide (show Row U gm 36 [.int .i64 2, .int .i64 xv, .int .i64 y, .int .i64 s, .bool o] by rw [hU]; exact M0.out.set 1 (.int .i64 xv))
  have RU := hide (show Row U gr 36 [.int .i64 0, .int .i64 0, .int .i64 0, .int .i64 0, .bool false] by rw [hU]; exact R0.out.other (a := ⟨gm, 1, none⟩) (show gr ≠ gm from fun e => e1 e.symm) _)
  have BU := hide (show Below w.heap.size w U by rw [hU]; exact B0.out.setCell (show w.heap.size ≤ gm from l1) _)
  rw [← hU]
  clear hU m0 m1 m2 m3 m4 m5 r0 r1 r2 r3 r4 r5 n0
  obtain ⟨m0, m1, m2, m3, m4, m5⟩ := box5 MU.out
  obtain ⟨r0, r1, r2, r3, r4, r5⟩ := box5 RU.out
  obtain ⟨q0, q1, q2, q3, q4, q5⟩ := box5 (row5s RU.out (.int .i64 2) (.int .i64 xv) (.int .i64 y) (.int .i64 s) (.bool o))
  have BF := hide (below5s BU.out l2 (.int .i64 2) (.int .i64 xv) (.int .i64 y) (.int .i64 s) (.bool o))
  go_wp2_with fail
  refine bodyPost_ret (v := .agg #[.int .i64 2, .int .i64 xv, .int .i64 y, .int .i64 s, .bool o]) (by simp [results, Tryz.results61, go_sem, q0, q1, q2, q3, q4]) rfl ?_
  exact ⟨⟨_, _, rfl⟩, BF.out⟩
 by_cases k4 : k = 4
 ·subst k4
  obtain ⟨hx0, hx1, hy0, hy1⟩ := ht.2.1 rfl
  obtain ⟨u, rfl⟩ := Int.eq_ofNat_of_zero_le hx0
  obtain ⟨v, rfl⟩ := Int.eq_ofNat_of_zero_le hy0
  have hui : (u : Int) < (n : Int) := hx1
  have hvi : (v : Int) < (n : Int) := hy1
  obtain ⟨b, oo, rfl, c0⟩ := HXV.out.at_ (show u < n by omega)
  obtain ⟨b', oo', hbe, c1⟩ := HXV.out.at_ (show v < n by omega)
  obtain ⟨rfl, rfl⟩ : b = b' ∧ oo = oo' := by injection hbe with h; injection h with h1 h2; exact ⟨h1, h2⟩
  obtain ⟨xv, hxv⟩ : ∃ z, z = xs.getD u 0 := ⟨_, rfl⟩
  obtain ⟨yv, hyv⟩ : ∃ z, z = xs.getD v 0 := ⟨_, rfl⟩
  rw [← hxv] at c0
  rw [← hyv] at c1
  clear hxv hyv ht hx1 hy1 hbe
  go_enter Tryz.func61, Tryz.ntmps61
  go_upto_region 1 with fail
  rw [← HV.out, ← HRR.out, ← HN.out, ← HM.out]
  go_upto_region 7 with fail
  go_quiet (fail)
  obtain ⟨W1, hW1⟩ : ∃ W, W = V.drewN nq := ⟨_, rfl⟩
  have b1 : Below V.heap.size V W1 := by rw [hW1]; exact below_drewN (Below.refl _ _) _
  have M1 := hide (M0.out.below b1)
  have R1 := hide (R0.out.below b1)
  have B1 := hide (B0.out.trans (b1.mono B0.out.size))
  rw [← hW1]
  clear hW1 b1 m0 m1 m2 m3 m4 m5 r0 r1 r2 r3 r4 r5 n0 c0 c1
  obtain ⟨m0, m1, m2, m3, m4, m5⟩ := box5 M1.out
  obtain ⟨r0, r1, r2, r3, r4, r5⟩ := box5 R1.out
  have n0 : True := trivial
  go_upto_region 11 with fail
  obtain ⟨U, hU⟩ : ∃ U, U = (W1.setCell ⟨gm, 1, none⟩ (.int .i64 (min xv yv))).setCell ⟨gm, 2, none⟩ (.int .i64 (max xv yv)) := ⟨_, rfl⟩
  have MU := hide (show Row U gm 36 [.int .i64 4, .int .i64 (min xv yv), .int .i64 (max xv yv), .int .i64 s, .bool o] by rw [hU]; exact (M1.out.set 1 _).set 2 _)
  have RU := hide (show Row U gr 36 [.int .i64 0, .int .i64 0, .int .i64 0, .int .i64 0, .bool false] by rw [hU]; exact (R1.out.other (a := ⟨gm, 1, none⟩) (show gr ≠ gm from fun e => e1 e.symm) _).other (a := ⟨gm, 2, none⟩) (show gr ≠ gm from fun e => e1 e.symm) _)
  have BU := hide (show Below w.heap.size w U by rw [hU]; exact (B1.out.setCell (show w.heap.size ≤ gm from l1) _).setCell (show w.heap.size ≤ gm from l1) _)
  rw [← hU]
  clear hU m0 m1 m2 m3 m4 m5 r0 r1 r2 r3 r4 r5 n0
  obtain ⟨m0, m1, m2, m3, m4, m5⟩ := box5 MU.out
  obtain ⟨r0, r1, r2, r3, r4, r5⟩ := box5 RU.out
  obtain ⟨q0, q1, q2, q3, q4, q5⟩ := box5 (row5s RU.out (.int .i64 4) (.int .i64 (min xv yv)) (.int .i64 (max xv yv)) (.int .i64 s) (.bool o))
  have BF := hide (below5s BU.out l2 (.int .i64 4) (.int .i64 (min xv yv)) (.int .i64 (max xv yv)) (.int .i64 s) (.bool o))
  go_wp2_with fail
  refine bodyPost_ret (v := .agg #[.int .i64 4, .int .i64 (min xv yv), .int .i64 (max xv yv), .int .i64 s, .bool o]) (by simp [results, Tryz.results61, go_sem, q0, q1, q2, q3, q4]) rfl ?_
  exact ⟨⟨_, _, rfl⟩, BF.out⟩
 by_cases k3 : k = 3
 ·subst k3
  obtain ⟨hx0, hx1, hy0, hy1⟩ := ht.2.2.1 rfl
  have HXD := hide (HXV.out.keep (Below.refl V.heap.size V).drew)
  have hx1' : x < 4 * (n : Int) := hx1
  have hy1' : y < 4 * (n : Int) := hy1
  have hx0' : -9223372036854775808 ≤ x := hx0
  have hy0' : -9223372036854775808 ≤ y := hy0
  clear ht hx0 hx1 hy0 hy1
  go_enter Tryz.func61, Tryz.ntmps61
  go_upto_region 1 with fail
  rw [← HV.out, ← HRR.out, ← HN.out, ← HM.out]
  go_upto_region 10 with fail
  have M1 := hide (M0.out.below (Below.refl V.heap.size V).drew)
  have R1 := hide (R0.out.below (Below.refl V.heap.size V).drew)
  have B1 := hide (B0.out.trans ((Below.refl V.heap.size V).drew.mono B0.out.size))
  have n0' : V.drew.cell? ⟨gn, 0, none⟩ = some (.slice A n c) := n0
  go_region_with (first
   | (go_at_call 107
      with_reducible refine (half_any x n c gn A xs _ n0' HXD.out hn hx1' hx0').mono ?_
      rintro e w2 ⟨⟨xv, rfl⟩, rfl⟩)
   | (go_at_call 107
      with_reducible refine (half_any y n c gn A xs _ n0' HXD.out hn hy1' hy0').mono ?_
      rintro e w3 ⟨⟨yv, rfl⟩, rfl⟩))
  all_goals (go_upto_region 11 with fail)
  all_goals first
   | (obtain ⟨U, hU⟩ : ∃ U, U = ((V.setCell ⟨gm, 1, none⟩ (.int .i64 xv)).setCell ⟨gm, 2, none⟩ (.int .i64 yv)).drew := ⟨_, rfl⟩
      have MU := hide (show Row U gm 36 [.int .i64 3, .int .i64 xv, .int .i64 yv, .int .i64 s, .bool o] by rw [hU]; exact ((M0.out.set 1 _).set 2 _).drew)
      have RU := hide (show Row U gr 36 [.int .i64 0, .int .i64 0, .int .i64 0, .int .i64 0, .bool false] by rw [hU]; exact ((R0.out.other (a := ⟨gm, 1, none⟩) (show gr ≠ gm from fun e => e1 e.symm) _).other (a := ⟨gm, 2, none⟩) (show gr ≠ gm from fun e => e1 e.symm) _).drew)
      have BU := hide (show Below w.heap.size w U by rw [hU]; exact ((B0.out.setCell (show w.heap.size ≤ gm from l1) _).setCell (show w.heap.size ≤ gm from l1) _).drew)
      rw [← hU]
      clear hU m0 m1 m2 m3 m4 m5 r0 r1 r2 r3 r4 r5 n0
      obtain ⟨m0, m1, m2, m3, m4, m5⟩ := box5 MU.out
      obtain ⟨r0, r1, r2, r3, r4, r5⟩ := box5 RU.out
      obtain ⟨q0, q1, q2, q3, q4, q5⟩ := box5 (row5s RU.out (.int .i64 3) (.int .i64 xv) (.int .i64 yv) (.int .i64 s) (.bool o))
      have BF := hide (below5s BU.out l2 (.int .i64 3) (.int .i64 xv) (.int .i64 yv) (.int .i64 s) (.bool o))
      go_wp2_with fail
      refine bodyPost_ret (v := .agg #[.int .i64 3, .int .i64 xv, .int .i64 yv, .int .i64 s, .bool o]) (by simp [results, Tryz.results61, go_sem, q0, q1, q2, q3, q4]) rfl ?_
      exact ⟨⟨_, _, rfl⟩, BF.out⟩)
   | (obtain ⟨U, hU⟩ : ∃ U, U = ((V.setCell ⟨gm, 2, none⟩ (.int .i64 yv)).setCell ⟨gm, 1, none⟩ (.int .i64 xv)).drew := ⟨_, rfl⟩
      have MU := hide (show Row U gm 36 [.int .i64 3, .int .i64 xv, .int .i64 yv, .int .i64 s, .bool o] by rw [hU]; exact ((M0.out.set 2 _).set 1 _).drew)
      have RU := hide (show Row U gr 36 [.int .i64 0, .int .i64 0, .int .i64 0, .int .i64 0, .bool false] by rw [hU]; exact ((R0.out.other (a := ⟨gm, 2, none⟩) (show gr ≠ gm from fun e => e1 e.symm) _).other (a := ⟨gm, 1, none⟩) (show gr ≠ gm from fun e => e1 e.symm) _).drew)
      have BU := hide (show Below w.heap.size w U by rw [hU]; exact ((B0.out.setCell (show w.heap.size ≤ gm from l1) _).setCell (show w.heap.size ≤ gm from l1) _).drew)
      rw [← hU]
      clear hU m0 m1 m2 m3 m4 m5 r0 r1 r2 r3 r4 r5 n0
      obtain ⟨m0, m1, m2, m3, m4, m5⟩ := box5 MU.out
      obtain ⟨r0, r1, r2, r3, r4, r5⟩ := box5 RU.out
      obtain ⟨q0, q1, q2, q3, q4, q5⟩ := box5 (row5s RU.out (.int .i64 3) (.int .i64 xv) (.int .i64 yv) (.int .i64 s) (.bool o))
      have BF := hide (below5s BU.out l2 (.int .i64 3) (.int .i64 xv) (.int .i64 yv) (.int .i64 s) (.bool o))
      go_wp2_with fail
      refine bodyPost_ret (v := .agg #[.int .i64 3, .int .i64 xv, .int .i64 yv, .int .i64 s, .bool o]) (by simp [results, Tryz.results61, go_sem, q0, q1, q2, q3, q4]) rfl ?_
      exact ⟨⟨_, _, rfl⟩, BF.out⟩)
 ·have ht2 := ht.2.2.2 k2 k4 k3
  obtain ⟨hx0, hx1⟩ := ht2
  have hx1' : x < 4 * (n : Int) := hx1
  have hx0' : -9223372036854775808 ≤ x := hx0
  have q2 : (k == 2) = false := by rw [beq_eq_false_iff_ne]; exact k2
  have q3 : (k == 3) = false := by rw [beq_eq_false_iff_ne]; exact k3
  have q4 : (k == 4) = false := by rw [beq_eq_false_iff_ne]; exact k4
  clear ht hx0 hx1
  go_enter Tryz.func61, Tryz.ntmps61
  go_upto_region 1 with fail
  rw [← HV.out, ← HRR.out, ← HN.out, ← HM.out]
  go_wp2_with fail
  refine (half_any x n c gn A xs _ n0 HXV.out hn hx1' hx0').mono ?_
  rintro e w2 ⟨⟨xv, rfl⟩, rfl⟩
  go_upto_region 11 with fail
  obtain ⟨U, hU⟩ : ∃ U, U = V.setCell ⟨gm, 1, none⟩ (.int .i64 xv) := ⟨_, rfl⟩
  have MU := hide (show Row U gm 36 [.int .i64 k, .int .i64 xv, .int .i64 y, .int .i64 s, .bool o] by rw [hU]; exact M0.out.set 1 (.int .i64 xv))
  have RU := hide (show Row U gr 36 [.int .i64 0, .int .i64 0, .int .i64 0, .int .i64 0, .bool false] by rw [hU]; exact R0.out.other (a := ⟨gm, 1, none⟩) (show gr ≠ gm from fun e => e1 e.symm) _)
  have BU := hide (show Below w.heap.size w U by rw [hU]; exact B0.out.setCell (show w.heap.size ≤ gm from l1) _)
  rw [← hU]
  clear hU m0 m1 m2 m3 m4 m5 r0 r1 r2 r3 r4 r5 n0
  obtain ⟨m0, m1, m2, m3, m4, m5⟩ := box5 MU.out
  obtain ⟨r0, r1, r2, r3, r4, r5⟩ := box5 RU.out
  obtain ⟨q0, q1, q2, q3, q4, q5⟩ := box5 (row5s RU.out (.int .i64 k) (.int .i64 xv) (.int .i64 y) (.int .i64 s) (.bool o))
  have BF := hide (below5s BU.out l2 (.int .i64 k) (.int .i64 xv) (.int .i64 y) (.int .i64 s) (.bool o))
  go_wp2_with fail
  refine bodyPost_ret (v := .agg #[.int .i64 k, .int .i64 xv, .int .i64 y, .int .i64 s, .bool o]) (by simp [results, Tryz.results61, go_sem, q0, q1, q2, q3, q4]) rfl ?_
  exact ⟨⟨_, _, rfl⟩, BF.out⟩
end Go.Proofs.YtlffopdoeobgaaaGreatDoor
end
