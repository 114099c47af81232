/-
 The texts Ra, Prt, Rb, Rc, Xa, Xe in one.
-/
import Derived.Test.YtobbepmlmbbamaaB02
import Derived.Test.YtobbepmlmbbamaaB01
import Derived.Deep.DeepCutAuto
import Derived.RegionTactic
import Derived.Outline
import Derived.Deep.CutBlock
import Derived.Deep.RegionHeld3
import Derived.Deep.DrawnRows
set_option linter.unusedVariables false
set_option linter.unusedSimpArgs false
section
namespace Go.Proofs.Ytobbepmlmbbamaa
open Go Go.RowKit
theorem rturn_any (h k : Nat) (w : World) (hh : h ≤ 1000000) (hk : k ≤ 3) :
 Calls Try.prog 129 #[.int .i64 (h : Int), .int .i64 (k : Int)] w fun e w' => e = .returned (.int .i64 (Pl.tn h k : Nat)) ∧ w = w' := by
 go_enter Try.func129, Try.ntmps129
 go_wp2
 go_ret
 exact ⟨ret_int (by unfold Pl.tn; omega), rfl⟩
theorem rturn3 (h : Nat) (w : World) (hh : h ≤ 1000000) :
 Calls Try.prog 129 #[.int .i64 (h : Int), .int .i64 3] w fun e w' => e = .returned (.int .i64 (Pl.tn h 3 : Nat)) ∧ w = w' := rturn_any h 3 w hh (by omega)
theorem ropp_any (h : Nat) (w : World) (hh : h ≤ 1000000) :
 Calls Try.prog 98 #[.int .i64 (h : Int)] w fun e w' => e = .returned (.int .i64 (Pl.tn h 2 : Nat)) ∧ w = w' := by
 go_enter Try.func98, Try.ntmps98
 go_wp2_with fail
 refine (rturn_any h 2 _ hh (by omega)).mono ?_
 rintro e w1 ⟨rfl, rfl⟩
 go_wp2
 go_ret
 exact ⟨rfl, rfl⟩
theorem rout_any (d : Pl.Dg) (A B : Option Addr) (n cp q cq : Nat) (l : Value) (h : Nat) (w : World) (e : n = d.n) (hh : h < 4 * n) (hn : n ≤ 1000) (hs : IntsAt w A n d.sg) :
 Calls Try.prog 62 #[.agg #[.slice A n cp, .slice B q cq, l], .int .i64 (h : Int)] w fun e w' => e = .returned (.bool (Pl.out d h)) ∧ Below w.heap.size w w' := by
 subst e
 obtain ⟨b, o, rfl, hc⟩ := sign_at hs (c := h / 4) (by omega)
 have hb : Below w.heap.size w (w.alloc (.cells #[.slice (some ⟨b, o, none⟩) d.n cp, .slice B q cq, l] 24)):=(Below.refl _ _).alloc (Nat.le_refl _) _
 have hc2:=cell_below hc hb
 have h4 : h % 4 = 0 ∨ h % 4 = 1 ∨ h % 4 = 2 ∨ h % 4 = 3:=by omega
 go_enter Try.func62, Try.ntmps62
 rcases h4 with h4 | h4 | h4 | h4
 ·have E:=out_zero (d := d) h4
  go_wp2
  all_goals
   go_ret
   refine ⟨ret_bool ?_, hb⟩
   rw [E]
   first
    | done
    | rfl
    | (simp; done)
    | (simp; omega)
    | simp_all
 ·have E:=out_one (d := d) h4
  go_wp2
  all_goals
   go_ret
   refine ⟨ret_bool ?_, hb⟩
   rw [E]
   first
    | done
    | rfl
    | (simp; done)
    | (simp; omega)
    | simp_all
 ·have E:=out_two (d := d) h4
  go_wp2
  all_goals
   go_ret
   refine ⟨ret_bool ?_, hb⟩
   rw [E]
   first
    | done
    | rfl
    | (simp; done)
    | (simp; omega)
    | simp_all
 ·have E:=out_three (d := d) h4
  go_wp2
  all_goals
   go_ret
   refine ⟨ret_bool ?_, hb⟩
   rw [E]
   first
    | done
    | rfl
    | (simp; done)
    | (simp; omega)
    | simp_all
theorem rnext_any (d : Pl.Dg) (hd : Pl.Wf d) (A B : Option Addr) (cp cq m : Nat) (l : Value) (h : Nat) (w : World) (hm : m = 4 * d.n) (hb : IntsAt w B m (nats d.mt)) (hh : h < 4 * d.n) :
 Calls Try.prog 104 #[.agg #[.slice A d.n cp, .slice B m cq, l], .int .i64 (h : Int)] w fun e w' => e = .returned (.int .i64 (Pl.nx d h : Nat)) ∧ Below w.heap.size w w' := by
 subst hm
 have hn:=hd.few
 have lt:=hd.lt h hh
 obtain ⟨b, o, rfl, hc⟩ := mate_at hb hh
 have hbw : Below w.heap.size w (w.alloc (.cells #[.slice A d.n cp, .slice (some ⟨b, o, none⟩) (4 * d.n) cq, l] 24)):=(Below.refl _ _).alloc (Nat.le_refl _) _
 have hc2:=cell_below hc hbw
 obtain ⟨u, hu⟩ : ∃ u, u = d.m h := ⟨_, rfl⟩
 have HU:=hide (show Pl.nx d h = Pl.tn u 3 by rw [hu]; rfl)
 rw [← hu] at hc2 lt
 clear hu hc
 go_enter Try.func104, Try.ntmps104
 go_wp2_with fail
 refine (rturn3 u _ (by omega)).mono ?_
 rintro e w1 ⟨rfl, rfl⟩
 go_wp2
 go_ret
 exact ⟨by rw [HU.out]; rfl, hbw⟩
theorem rin_any (A : Option Addr) (n c : Nat) (zs : List Int) (x : Int) (w : World) (hs : IntsAt w A n zs) (hn : n ≤ 1000000) :
 Calls Try.prog 130 #[.slice A n c, .int .i64 x] w fun e w' => e = .returned (.bool (decide (x ∈ zs))) ∧ w' = w := by
 have HS:=hide hs
 have HL:=hide hs.len
 go_enter Try.func130, Try.ntmps130
 go_wp2
 go_loopg [5] n (fun g i wx => ∃ k : Nat, k + g = n ∧ i = .int .i64 k ∧ (∀ j, j < k → Pl.pv zs j ≠ x) ∧ wx = w)
 case atStart => exact ⟨0, by omega, rfl, fun j hj => absurd hj (by omega), rfl⟩
 case round =>
  obtain ⟨k, hkg, rfl, hno, rfl⟩ := hrel
  have HG:=hide hkg
  have HN:=hide hno
  have hkn : k ≤ n:=by omega
  clear hkg hno
  by_cases hlt : k < n
  ·obtain ⟨b, o, rfl, hc⟩ := HS.out.at_ hlt
   obtain ⟨u, hu⟩ : ∃ u, u = Pl.pv zs k := ⟨_, rfl⟩
   rw [show zs.getD k 0 = u from hu.symm] at hc
   have HU:=hide hu
   clear hu
   by_cases he : u = x
   ·have E:=hide (show x ∈ zs by rw [← he, HU.out]; exact Pl.pv_mem (by have := HL.out; omega))
    go_wp2
    go_ret
    exact ⟨ret_bool (by simpa using E.out), rfl⟩
   ·have t1 : (u == x) = false:=by simpa using he
    have HE:=hide he
    clear he
    go_wp2
    go_roundg (gk - 1)
    case measure => have := HG.out; omega
    case rel =>
     refine ⟨k + 1, by have := HG.out; omega, by go_num, fun j hj => ?_, rfl⟩
     by_cases e : j = k
     ·subst e; rw [← HU.out]; exact HE.out
     ·exact HN.out j (by omega)
  ·have E := hide (show x ∉ zs from fun hx => by
    obtain ⟨j, hj, e⟩ := Pl.mem_pv hx
    exact HN.out j (by have := HL.out; omega) e)
   go_wp2
   go_ret
   exact ⟨ret_bool (by simpa using E.out), rfl⟩
set_option maxRecDepth 100000 in
set_option maxHeartbeats 2000000 in
theorem rface_any (d : Pl.Dg) (hd : Pl.Wf d) (A B : Option Addr) (cp cq m : Nat) (l : Value) (h p : Nat) (w : World) (hm : m = 4 * d.n) (hb : IntsAt w B m (nats d.mt)) (hh : h < 4 * d.n) (hp : Pl.Per (Pl.nx d) h p) (hpN : p ≤ 4 * d.n) :
 Calls Try.prog 64 #[.agg #[.slice A d.n cp, .slice B m cq, l], .int .i64 (h : Int)] w (fun e w' => ∃ (A5 : Option Addr) (c5 : Nat), e = .returned (.slice A5 p c5) ∧ w'.ownsRow w.heap.size 3 1 (.slice A5 p c5) p ((Pl.cyc (Pl.nx d) h p).map (fun k : Nat => Value.int .i64 k)) ∧ Below w.heap.size w w') := by
 have hn:=hd.few
 have HD:=hide hd
 have HP:=hide hp
 have HM:=hide hm
 have HB:=hide hb
 have hp0:=hp.1
 have HPN:=hide hpN
 have hp4 : p ≤ 256:=by omega
 have hm4 : m ≤ 256:=by omega
 have hb1 : Below w.heap.size w (w.alloc (.cells #[.slice A d.n cp, .slice B m cq, l] 24)):=(Below.refl _ _).alloc (Nat.le_refl _) _
 have B0:=hide hb1
 have X0:=hide (row_at (W := w) (g := w.heap.size) (t := 24) (vs := [.slice A d.n cp, .slice B m cq, l]) rfl)
 clear hp hm hb hd hb1 hpN
 obtain ⟨W1, hW1⟩ : ∃ W1 : World, W1 = (w.alloc (.cells #[.slice A d.n cp, .slice B m cq, l] 24)).alloc (.cells #[.int .i64 (h : Int)] 3) := ⟨_, rfl⟩
 have B1:=hide (show Below w.heap.size w W1 by rw [hW1]; exact B0.out.alloc (by simp) _)
 have X1:=hide (show Row W1 w.heap.size 24 [.slice A d.n cp, .slice B m cq, l] by rw [hW1]; exact X0.out.alloc _)
 have O1:=hide (show W1.ownsRow (w.heap.size + 1) 3 1 (.slice (some ⟨w.heap.size + 1, 0, none⟩) 1 1) 1 [.int .i64 (h : Int)] by
  rw [hW1]
  have:=own_one (w.alloc (.cells #[.slice A d.n cp, .slice B m cq, l] 24)) (.int .i64 (h : Int))
  simpa using this)
 obtain ⟨d0, d1, d2, _⟩ := box3 X1.out
 go_enter Try.func64, Try.ntmps64
 rw [hW1] at d0 d1 d2
 go_wp2_with fail
 rw [← hW1]
 clear hW1 d0 d1 d2
 refine (rnext_any d HD.out A B cp cq m l h _ HM.out (HB.out.keep B1.out) hh).mono ?_
 rintro e w2 ⟨rfl, hb2⟩
 have B2:=hide (B1.out.trans (hb2.mono B1.out.size))
 have O2:=hide (own_keep O1.out hb2 (Nat.le_refl _))
 have X2:=hide (X1.out.below hb2)
 clear hb2
 go_wp2_with fail
 go_loopg [5, 6] (p - 1) (fun g v i wx => ∃ j : Nat, j + 1 + g = p ∧ i = .int .i64 (Pl.it (Pl.nx d) (j + 1) h : Nat) ∧ wx.ownsRow (w.heap.size + 1) 3 1 v (j + 1) ((Pl.cyc (Pl.nx d) h (j + 1)).map (fun k : Nat => Value.int .i64 k)) ∧ Below w.heap.size w wx ∧ Row wx w.heap.size 24 [.slice A d.n cp, .slice B m cq, l])
 case atStart => exact ⟨0, by omega, rfl, O2.out, B2.out, X2.out⟩
 case round =>
  clear O2 B2 B1 X2 X1 O1 X0 B0
  obtain ⟨j, hjg, rfl, own, hb, hx0⟩ := hrel
  have HJ:=hide hjg
  have hjp : j + 1 ≤ p:=by omega
  have OWN:=hide own
  have HBL:=hide hb
  have X:=hide hx0
  have hbs:=hb.size
  obtain ⟨x, hx⟩ : ∃ x, x = Pl.it (Pl.nx d) (j + 1) h := ⟨_, rfl⟩
  rw [← hx]
  have HX:=hide hx
  have hxN : x < 4 * d.n:=by rw [hx]; exact it_lt (fun y hy => HD.out.hm.pb.maps y hy) hh (j + 1)
  clear hjg own hb hx hx0
  by_cases he : x = h
  ·have hjj : ¬ j + 1 < p:=fun hlt => HP.out.2.2 (j + 1) (by omega) hlt (by rw [← HX.out, he])
   have t1 : ((x : Int) != (h : Int)) = false:=by rw [bne_eq_false_iff_eq]; omega
   have HE:=hide he
   obtain rfl : j + 1 = p := by omega
   obtain ⟨A5, c5, rfl⟩ := owns_slice OWN.out
   clear he hjj
   go_wp2
   go_ret
   exact ⟨A5, c5, rfl, own_keep OWN.out (Below.refl _ _) (by omega), HBL.out⟩
  ·have t1 : ((x : Int) != (h : Int)) = true:=by rw [bne_iff_ne]; omega
   have hjj : j + 1 < p:=by
    rcases Nat.lt_or_ge (j + 1) p with h1 | h1
    ·exact h1
    ·have : j + 1 = p:=by omega
     exact absurd (by rw [HX.out, this]; exact HP.out.2.1) he
   clear he
   obtain ⟨i0, hi0, hz0, hz1, hz2⟩ := info_parts intInfo
   have hwz1 : w.heap.size + 1 ≤ wr.heap.size:=X.out.lt
   go_wp2_with (at_builtin; refine wpList_append_lies _ (by rfl) _ _ 22 (by rfl) (w.heap.size + 1) 3 i0 (.int .i64 0) 1 8 Try.underlying22 hi0 hz0 hz1 hz2 rfl (by omega) _ (j + 1) _ (by rfl) (OWN.out.alloc _) ⟨wr.heap.size, 0, none⟩ 1 1 [.int .i64 (x : Int)] (by rfl) (by rfl) (one_news wr (.int .i64 (x : Int))) (by simp [Value.oneCell']) (by omega) (by unfold maxLen; omega) (by omega) (by simp; omega) (wr.heap.size + 1) (by simp) ?_; intro g3 c3 w3 own3 grow3 at3 lt3; have OWN3 := hide own3; have GR3 := hide grow3; have X3 := hide (Row.grown (X.out.alloc (.cells #[.int .i64 (x : Int)] 3)) grow3 (fun e => by have := (OWN.out.lt _ e.symm).1; omega)); obtain ⟨d0, d1, d2, _⟩ := box3 X3.out; clear own3 grow3 at3)
   have B3:=hide ((HBL.out.alloc hbs (.cells #[.int .i64 (x : Int)] 3)).grown GR3.out (by simp; omega) (fun k hk => by have := (OWN.out.lt k hk).1; omega))
   clear d0 d1 d2
   refine (rnext_any d HD.out A B cp cq m l x _ HM.out (HB.out.keep B3.out) hxN).mono ?_
   rintro e w4 ⟨rfl, hb4⟩
   go_wp2_with fail
   go_roundg (gk - 1)
   case measure => have := HJ.out; omega
   case rel =>
    refine ⟨j + 1, by have := HJ.out; omega, ?_, ?_, B3.out.trans (hb4.mono B3.out.size), X3.out.below hb4⟩
    ·rw [HX.out]; rfl
    ·have:=own_keep OWN3.out hb4 (Nat.le_refl _)
     rw [Pl.cyc_succ, List.map_append, ← HX.out]
     exact this
end Go.Proofs.Ytobbepmlmbbamaa
end
section
namespace Go.Proofs.Ytobbepmlmbbamaa.Pl
variable {d : Dg}
def lsum : List Int → Nat
 | [] => 0
 | z :: l => z.toNat + lsum l
theorem lsum_set : ∀ (ps : List Int) (i : Nat) (v : Int), i < ps.length → lsum (ps.set i v) + (pv ps i).toNat = lsum ps + v.toNat
 | [], i, v, h => by simp at h
 | z :: l, 0, v, h => by
   simp only [List.set_cons_zero, lsum, pv, List.getD_cons_zero]; omega
 | z :: l, i + 1, v, h => by
   have:=lsum_set l i v (by simpa using h)
   simp only [List.set_cons_succ, lsum, pv, List.getD_cons_succ] at this ⊢; omega
def ids (n k : Nat) : List Int := (List.range n).map (fun c => if c < k then (c : Int) else 0)
theorem ids_len (n k : Nat) : (ids n k).length = n := by unfold ids; simp
theorem ids_zero (n : Nat) : ids n 0 = List.replicate n 0 := by
 unfold ids
 refine List.ext_getElem (by simp) (fun i h1 h2 => ?_)
 simp
theorem ids_pv {n k c : Nat} (hc : c < n) : pv (ids n k) c = if c < k then (c : Int) else 0 := by
 unfold pv ids
 rw [List.getD_eq_getElem?_getD, List.getElem?_map, List.getElem?_range hc]; rfl
theorem ids_get {n k i : Nat} (h : i < (ids n k).length) : (ids n k)[i] = if i < k then (i : Int) else 0 := by simp [ids]
theorem ids_set {n k : Nat} (hk : k < n) : (ids n k).set k (k : Int) = ids n (k + 1) := by
 refine List.ext_getElem (by rw [List.length_set, ids_len, ids_len]) (fun i h1 h2 => ?_)
 rw [List.getElem_set, ids_get, ids_get]
 by_cases e : k = i
 ·subst e; rw [if_pos rfl, if_pos (by omega)]
 ·rw [if_neg e]
  by_cases e2 : i < k
  ·rw [if_pos e2, if_pos (by omega)]
  ·rw [if_neg e2, if_neg (by omega)]
structure PI (d : Dg) (ps : List Int) : Prop where
 len : ps.length = d.n
 is : ∀ c, c < d.n → ∃ b : Nat, pv ps c = b ∧ b ≤ c ∧ Comp d c b
theorem PI.start (d : Dg) : PI d (ids d.n d.n) :=
 ⟨ids_len _ _, fun c hc => ⟨c, by rw [ids_pv hc, if_pos hc], Nat.le_refl _, .refl⟩⟩
theorem PI.nat {ps : List Int} (h : PI d ps) {c : Nat} (hc : c < d.n) : 0 ≤ pv ps c ∧ pv ps c ≤ c := by
 obtain ⟨b, h1, h2, _⟩ := h.is c hc
 omega
theorem comp_m (hd : Wf d) {h : Nat} (hh : h < 4 * d.n) : Comp d (h / 4) (d.m h / 4) :=
 (con_comp hd hh (hd.lt h hh)).1 (Con.refl.right)
theorem PI.step (hd : Wf d) {ps : List Int} (h : PI d ps) {x : Nat} (hx : x < 4 * d.n) (hlt : pv ps (d.m x / 4) < pv ps (x / 4)) : PI d (ps.set (x / 4) (pv ps (d.m x / 4))) ∧ lsum (ps.set (x / 4) (pv ps (d.m x / 4))) < lsum ps := by
 have hm:=hd.lt x hx
 have hl : x / 4 < ps.length:=by rw [h.len]; omega
 have h1:=h.nat (c := x / 4) (by omega)
 have h2:=h.nat (c := d.m x / 4) (by omega)
 refine ⟨⟨by rw [List.length_set, h.len], fun c hc => ?_⟩, by have := lsum_set ps (x / 4) (pv ps (d.m x / 4)) hl; omega⟩
 rw [pv_set hl]
 by_cases e : c = x / 4
 ·rw [if_pos e]
  obtain ⟨b, e1, e2, e3⟩ := h.is (d.m x / 4) (by omega)
  refine ⟨b, e1, by omega, ?_⟩
  rw [e]
  exact (comp_m hd hx).trans e3
 ·rw [if_neg e]; exact h.is c hc
structure PB (d : Dg) (ps : List Int) : Prop where
 len : ps.length = d.n
 is : ∀ c, c < d.n → ∃ b : Nat, pv ps c = b ∧ b ≤ c ∧ Comp d c b
 same : ∀ a b, a < d.n → Comp d a b → pv ps a = pv ps b
theorem PI.done (hd : Wf d) {ps : List Int} (h : PI d ps) (hs : ∀ x, x < 4 * d.n → pv ps (x / 4) ≤ pv ps (d.m x / 4)) : PB d ps := by
 refine ⟨h.len, h.is, fun a b ha e => ?_⟩
 have:=con_sub hd.hm (R := fun x y => pv ps (x / 4) = pv ps (y / 4)) ⟨fun _ _ => rfl, fun _ _ _ _ e => e.symm, fun _ _ _ _ _ _ e e' => e.trans e'⟩
  (fun x _ => by show pv ps (x / 4) = pv ps (rot x / 4); unfold rot; rw [tn_div]) (fun x hx => ?_) (x := 4 * a) (y := 4 * b) (by unfold dart; omega) e
 ·simpa [Nat.mul_div_cancel_left] using this
 ·have h1:=hs x hx
  have h2:=hs (d.m x) (hd.lt x hx)
  rw [hd.inv x hx] at h2
  exact Int.le_antisymm h1 h2
theorem PB.iff (hd : Wf d) {ps : List Int} (h : PB d ps) {a b : Nat} (ha : a < d.n) (hb : b < d.n) : pv ps a = pv ps b ↔ Comp d a b := by
 refine ⟨fun e => ?_, h.same a b ha⟩
 obtain ⟨x, e1, e2, e3⟩ := h.is a ha
 obtain ⟨y, g1, g2, g3⟩ := h.is b hb
 have : x = y:=by omega
 subst this
 exact e3.trans (comp_symm hd hb g3)
theorem PB.root {ps : List Int} (h : PB d ps) {c : Nat} (hc : c < d.n) : ∃ b : Nat, pv ps c = b ∧ b < d.n ∧ pv ps b = b ∧ Comp d c b := by
 obtain ⟨b, h1, h2, h3⟩ := h.is c hc
 exact ⟨b, h1, by omega, by rw [← h.same c b hc h3, h1], h3⟩
theorem PB.rule (hd : Wf d) {ps : List Int} (h : PB d ps) : (∀ c, c < d.n → pv ps c = c → nf d ps c (4 * d.n) = nv ps c d.n + 2) ↔ Rule d := by
 have key : ∀ c p : Nat, c < d.n → pv ps c = p → nf d ps p (4 * d.n) = cnt (fun h => Least (nx d) h ∧ Comp d c (h / 4)) (4 * d.n) ∧ nv ps p d.n = cnt (fun b => Comp d c b) d.n:=by
  intro c p hc e
  have one : ∀ b, b < d.n → (pv ps b = p ↔ Comp d c b):=fun b hb' => by
   rw [← h.iff hd hc hb', e]
   exact ⟨fun e => e.symm, fun e => e.symm⟩
  refine ⟨cnt_congr _ (fun x hx => ?_), cnt_congr _ (fun x hx => one x hx)⟩
  rw [one (x / 4) (by omega)]
 constructor
 ·intro h2 c hc
  obtain ⟨b, e1, e2, e3, e4⟩ := h.root hc
  obtain ⟨k1, k2⟩ := key c b hc e1
  have:=h2 b e2 e3
  omega
 ·intro h2 c hc e
  obtain ⟨k1, k2⟩ := key c c hc e
  rw [k1, k2]
  exact h2 c hc
def Fx (d : Dg) (ps es : List Int) (m : Nat) : Prop := es.length = d.n ∧ ∀ p, p < d.n → pv es p = (nf d ps p m : Int)
def Cx (d : Dg) (ps es : List Int) (k : Nat) : Prop := es.length = d.n ∧ ∀ p, p < d.n → pv es p = (nv ps p k : Int)
theorem rep_pv {n p : Nat} (hp : p < n) : pv (List.replicate n 0) p = 0 := by
 unfold pv; rw [List.getD_eq_getElem?_getD, List.getElem?_replicate, if_pos hp]; rfl
theorem Fx.start (d : Dg) (ps : List Int) : Fx d ps (List.replicate d.n 0) 0 := ⟨by simp, fun p hp => by rw [rep_pv hp]; simp [nf, cnt]⟩
theorem Cx.start (d : Dg) (ps : List Int) : Cx d ps (List.replicate d.n 0) 0 := ⟨by simp, fun p hp => by rw [rep_pv hp]; simp [nv, cnt]⟩
theorem Fx.more {ps es : List Int} {m : Nat} (h : Fx d ps es m) {q : Nat} (hq : q < d.n) (e : pv ps (m / 4) = q) (hl : Least (nx d) m) : Fx d ps (es.set q (pv es q + 1)) (m + 1) := by
 refine ⟨by rw [List.length_set, h.1], fun p hp => ?_⟩
 rw [pv_set (by rw [h.1]; exact hq)]
 have hp0:=h.2 p hp
 by_cases e2 : p = q
 ·subst e2
  rw [if_pos rfl, hp0]
  unfold nf
  rw [cnt_step_pos ⟨hl, e⟩]; omega
 ·rw [if_neg e2, hp0]
  unfold nf
  rw [cnt_step_neg (fun e3 => e2 (by have := e3.2; rw [e] at this; omega))]
theorem Fx.same {ps es : List Int} {m : Nat} (h : Fx d ps es m) (hl : ¬ Least (nx d) m) : Fx d ps es (m + 1) := by
 refine ⟨h.1, fun p hp => ?_⟩
 rw [h.2 p hp]
 unfold nf
 rw [cnt_step_neg (fun e3 => hl e3.1)]
theorem Cx.more {ps es : List Int} {k : Nat} (h : Cx d ps es k) {q : Nat} (hq : q < d.n) (e : pv ps k = q) : Cx d ps (es.set q (pv es q + 1)) (k + 1) := by
 refine ⟨by rw [List.length_set, h.1], fun p hp => ?_⟩
 rw [pv_set (by rw [h.1]; exact hq)]
 have hp0:=h.2 p hp
 by_cases e2 : p = q
 ·subst e2
  rw [if_pos rfl, hp0]
  unfold nv
  rw [cnt_step_pos e]; omega
 ·rw [if_neg e2, hp0]
  unfold nv
  rw [cnt_step_neg (fun e3 => e2 (by rw [e] at e3; omega))]
theorem nf_le (d : Dg) (ps : List Int) (p : Nat) : ∀ m, nf d ps p m ≤ m := fun m => cnt_top _ m
theorem nv_le (ps : List Int) (p : Nat) : ∀ m, nv ps p m ≤ m := fun m => cnt_top _ m
theorem SI.all (hd : Wf d) {k p : Nat} {bs : List Bool} (h : SI d k p bs) (hp : Per (nx d) k p) : SQ d (k + 1) bs := by
 refine h.done hd ?_
 have e:=hp.2.1
 have hl:=h.lt hd
 refine (h.iff _ hl).2 (.inr ⟨0, hp.1, ?_⟩)
 rw [e]; rfl
end Go.Proofs.Ytobbepmlmbbamaa.Pl
end
section
namespace Go.Proofs.Ytobbepmlmbbamaa
open Go Go.RowKit
theorem Row.drewN {w : World} {g : Nat} {t : TypeId} {vs : List Value} (h : Row w g t vs) (n : Nat) : Row (w.drewN n) g t vs := h
theorem Below.drewN' {k : Nat} {w w' : World} (h : Below k w w') (n : Nat) : Below k w (w'.drewN n) := ⟨h.os, h.tape, h.output, h.size, h.block⟩
set_option maxRecDepth 100000 in
set_option maxHeartbeats 4000000 in
theorem rpart_any (d : Pl.Dg) (hd : Pl.Wf d) (A B : Option Addr) (cp cq m : Nat) (l : Value) (w : World) (hm : m = 4 * d.n) (hg : DgAt w A B d) :
 Calls Try.prog 63 #[.agg #[.slice A d.n cp, .slice B m cq, l]] w fun e w' =>
  ∃ (ps : List Int) (g : Nat), e = .returned (.slice (some ⟨g, 0, none⟩) d.n d.n) ∧ Pl.PB d ps ∧ w.heap.size ≤ g ∧ IRow w' g ps ∧ Below w.heap.size w w' := by
 have hn:=hd.few
 have HF:=hide hd
 have HM:=hide hm
 have hm2 : m ≤ 256:=by omega
 have HG:=hide hg
 clear hd hm hg
 have hmk:=run_ints d.n (by omega) (w.alloc (.cells #[.slice A d.n cp, .slice B m cq, l] 24))
 go_enter Try.func63, Try.ntmps63
 go_wp2
 clear hmk
 obtain ⟨W1, hW1⟩ : ∃ W1 : World, W1 = (w.alloc (.cells #[.slice A d.n cp, .slice B m cq, l] 24)).alloc (.cells (Array.replicate d.n (Value.int .i64 0)) 3) := ⟨_, rfl⟩
 have B1:=hide (show Below w.heap.size w W1 by rw [hW1]; exact ((Below.refl _ _).alloc (Nat.le_refl _) _).alloc (by simp) _)
 have X1:=hide (show Row W1 w.heap.size 24 (boxV A B d.n cp m cq l) by rw [hW1]; exact (Row.new w _ _).alloc _)
 have R1:=hide (show IRow W1 (w.heap.size + 1) (Pl.ids d.n 0) by
  rw [hW1, Pl.ids_zero]
  have:=IRow.made (w.alloc (.cells #[.slice A d.n cp, .slice B m cq, l] 24)) d.n
  simpa using this)
 rw [← hW1]
 clear hW1
 go_loopg [4] d.n (fun g i wx => ∃ k : Nat, k + g = d.n ∧ i = .int .i64 k ∧ Below w.heap.size w wx ∧ Row wx w.heap.size 24 (boxV A B d.n cp m cq l) ∧ IRow wx (w.heap.size + 1) (Pl.ids d.n k))
 case atStart => exact ⟨0, by omega, rfl, B1.out, X1.out, R1.out⟩
 case round =>
  obtain ⟨k, hkg, rfl, b2, x2, r2⟩ := hrel
  have HK:=hide hkg
  have hks : k ≤ d.n:=by omega
  clear hkg
  by_cases hlt : k < d.n
  ·have c1:=r2.cell (i := k) (by rw [Pl.ids_len]; exact hlt)
   have f1:=Row.free r2 k
   have B2:=hide b2
   have X2:=hide x2
   have R2:=hide r2
   clear b2 x2 r2
   go_wp2
   go_roundg (gk - 1)
   case measure => have := HK.out; omega
   case rel =>
    refine ⟨k + 1, by have := HK.out; omega, by go_num, ?_, X2.out.other (by simp) _, ?_⟩
    ·exact B2.out.setCell (by simp) _
    ·have:=R2.out.set k k
     rwa [Pl.ids_set hlt] at this
  ·have hkn : k = d.n:=by omega
   have B2:=hide b2
   have X2:=hide x2
   have R2:=hide (show IRow wr (w.heap.size + 1) (Pl.ids d.n d.n) by subst hkn; exact r2)
   clear b2 x2 r2 hkn
   go_wp2
   go_loopg [5] (Pl.lsum (Pl.ids d.n d.n) + 1) (fun g c wx => ∃ (ps : List Int) (ch : Bool), c = .bool ch ∧ Pl.PI d ps ∧ ((ch = true ∧ g = Pl.lsum ps + 1) ∨ (ch = false ∧ g = 0 ∧ ∀ x, x < 4 * d.n → Pl.pv ps (x / 4) ≤ Pl.pv ps (d.m x / 4))) ∧ Below w.heap.size w wx ∧ Row wx w.heap.size 24 (boxV A B d.n cp m cq l) ∧ IRow wx (w.heap.size + 1) ps)
   case atStart => exact ⟨_, true, rfl, Pl.PI.start d, .inl ⟨rfl, rfl⟩, B2.out, X2.out, R2.out⟩
   case round =>
    clear B2 X2 R2 B1 X1 R1 HK hks hlt
    obtain ⟨ps, ch, rfl, hpi, hch, b3, x3, r3⟩ := hrel
    have HP:=hide hpi
    have HC:=hide hch
    have B3:=hide b3
    have X3:=hide x3
    have R3:=hide r3
    clear hpi hch b3 x3 r3
    cases ch with
    | false =>
      have hs:=hide (show ∀ x, x < 4 * d.n → Pl.pv ps (x / 4) ≤ Pl.pv ps (d.m x / 4) from (HC.out.resolve_left (fun h => by cases h.1)).2.2)
      have hwl : w.heap.size + 1 < wr.heap.size:=R3.out.lt
      go_wp2
      go_ret
      exact ⟨ps, w.heap.size + 1, rfl, Pl.PI.done HF.out HP.out hs.out, by omega, R3.out, B3.out⟩
    | true =>
      have HGK:=hide (show gk = Pl.lsum ps + 1 from (HC.out.resolve_right (fun h => by cases h.1)).2)
      clear HC
      go_wp2
      go_loopg [5, 6] m (fun g c i wx => ∃ (k : Nat) (qs : List Int) (ch : Bool), k + g = m ∧ i = .int .i64 k ∧ c = .bool ch ∧ Pl.PI d qs ∧ ((ch = true ∧ Pl.lsum qs < Pl.lsum ps) ∨ (ch = false ∧ Pl.lsum qs = Pl.lsum ps ∧ ∀ x, x < k → Pl.pv qs (x / 4) ≤ Pl.pv qs (d.m x / 4))) ∧ Below w.heap.size w wx ∧ Row wx w.heap.size 24 (boxV A B d.n cp m cq l) ∧ IRow wx (w.heap.size + 1) qs)
      case atStart => exact ⟨0, ps, false, by omega, rfl, rfl, HP.out, .inr ⟨rfl, rfl, fun x hx => absurd hx (by omega)⟩, B3.out, X3.out, R3.out⟩
      case round =>
       clear B3 X3 R3 HP
       obtain ⟨k, qs, ch, hkg, rfl, rfl, hpi, hch, b4, x4, r4⟩ := hrel
       have HK:=hide hkg
       have hkm : k ≤ m:=by omega
       have HP:=hide hpi
       have HC:=hide hch
       clear hkg hpi hch
       obtain ⟨x0, x1, x2, x3⟩ := box3 x4
       by_cases hlt : k < m
       ·have hk4 : k < 4 * d.n:=by have := HM.out; omega
        have hmk4:=HF.out.lt k hk4
        obtain ⟨bb, bo, rfl, hmc⟩ := mate_at HG.out.m hk4
        have hmc':=cell_below hmc b4
        have hk5 : k / 4 < d.n:=by omega
        have c1:=r4.cell (i := k / 4) (by rw [HP.out.len]; exact hk5)
        obtain ⟨u, hu⟩ : ∃ u, u = d.m k := ⟨_, rfl⟩
        rw [← hu] at hmc' hmk4
        have HU:=hide hu
        have hu5 : u / 4 < d.n:=by omega
        have c2:=r4.cell (i := u / 4) (by rw [HP.out.len]; exact hu5)
        have f1:=Row.free r4 (k / 4)
        have B4:=hide b4
        have X4:=hide x4
        have R4:=hide r4
        clear b4 x4 r4 hmc hu
        by_cases hlow : Pl.pv qs (u / 4) < Pl.pv qs (k / 4)
        ·have HST:=hide (HP.out.step HF.out hk4 (by rw [← HU.out]; exact hlow))
         go_wp2
         go_quiet (fail)
         go_wp2
         go_quiet (fail)
         go_wp2
         go_roundg (gk - 1)
         case measure => have := HK.out; omega
         case rel =>
          refine ⟨k + 1, qs.set (k / 4) (Pl.pv qs (u / 4)), true, by have := HK.out; omega, by go_num, rfl, ?_, .inl ⟨rfl, ?_⟩, (Below.drewN' B4.out _).setCell (by simp) _, (Row.drewN X4.out _).other (by simp) _, IRow.set (Row.drewN R4.out _) _ _⟩
          ·rw [HU.out]; exact HST.out.1
          ·have:=HST.out.2
           rw [← HU.out] at this
           rcases HC.out with ⟨_, h⟩ | ⟨_, h, _⟩ <;> omega
        ·go_wp2
         go_quiet (fail)
         go_wp2
         go_quiet (fail)
         go_wp2
         go_roundg (gk - 1)
         case measure => have := HK.out; omega
         case rel =>
          refine ⟨k + 1, qs, ch, by have := HK.out; omega, by go_num, rfl, HP.out, ?_, Below.drewN' B4.out _, Row.drewN X4.out _, Row.drewN R4.out _⟩
          rcases HC.out with ⟨h1, h2⟩ | ⟨h1, h2, h3⟩
          ·exact .inl ⟨h1, h2⟩
          ·refine .inr ⟨h1, h2, fun x hx => ?_⟩
           by_cases e : x = k
           ·subst e; rw [← HU.out]; omega
           ·exact h3 x (by omega)
       ·have hkm' : k = m:=by omega
        have HKM:=hide hkm'
        have B4:=hide b4
        have X4:=hide x4
        have R4:=hide r4
        clear b4 x4 r4 hkm'
        go_wp2
        go_roundg (if ch = true then Pl.lsum qs + 1 else 0)
        case measure =>
         have:=HGK.out
         rcases HC.out with ⟨h1, h2⟩ | ⟨h1, h2, h3⟩
         ·rw [if_pos h1]; omega
         ·rw [h1]; simp; omega
        case rel =>
         refine ⟨qs, ch, rfl, HP.out, ?_, B4.out, X4.out, R4.out⟩
         rcases HC.out with ⟨h1, h2⟩ | ⟨h1, h2, h3⟩
         ·exact .inl ⟨h1, by rw [if_pos h1]⟩
         ·refine .inr ⟨h1, by rw [h1]; rfl, fun x hx => h3 x ?_⟩
          have:=HKM.out
          have:=HM.out
          omega
end Go.Proofs.Ytobbepmlmbbamaa
end
section
namespace Go.Proofs.Ytobbepmlmbbamaa
open Go Go.RowKit
structure VS (w : World) (vs : List Value) (gp gf gc gs : Nat) (ps fs cs : List Int) (bs : List Bool) (W : World) : Prop where
 x : Row W w.heap.size 24 vs
 p : IRow W gp ps
 f : IRow W gf fs
 c : IRow W gc cs
 s : BRow W gs bs
 bel : Below w.heap.size w W
 lo : w.heap.size < gp ∧ w.heap.size < gf ∧ w.heap.size < gc ∧ w.heap.size < gs
 ne : gp ≠ gf ∧ gp ≠ gc ∧ gp ≠ gs ∧ gf ≠ gc ∧ gf ≠ gs ∧ gc ≠ gs
section
variable {w : World} {vs : List Value} {gp gf gc gs : Nat} {ps fs cs : List Int} {bs : List Bool} {W W' : World}
theorem VS.below (h : VS w vs gp gf gc gs ps fs cs bs W) (hb : Below W.heap.size W W') : VS w vs gp gf gc gs ps fs cs bs W' :=
 ⟨h.x.below hb, Row.below h.p hb, Row.below h.f hb, Row.below h.c hb, Row.below h.s hb, h.bel.trans (hb.mono h.bel.size), h.lo, h.ne⟩
theorem VS.drewN (h : VS w vs gp gf gc gs ps fs cs bs W) (n : Nat) : VS w vs gp gf gc gs ps fs cs bs (W.drewN n) := ⟨h.x, h.p, h.f, h.c, h.s, Below.drewN' h.bel n, h.lo, h.ne⟩
theorem VS.setF (h : VS w vs gp gf gc gs ps fs cs bs W) (i : Nat) (v : Int) : VS w vs gp gf gc gs ps (fs.set i v) cs bs (W.setCell ⟨gf, i, none⟩ (.int .i64 v)) := by
 have a:=h.lo
 have b:=h.ne
 exact ⟨h.x.other (by show _ ≠ gf; omega) _, Row.other h.p (by show _ ≠ gf; omega) _, h.f.set i v, Row.other h.c (by show _ ≠ gf; omega) _, Row.other h.s (by show _ ≠ gf; omega) _, h.bel.setCell (by show _ ≤ gf; omega) _, h.lo, h.ne⟩
theorem VS.setC (h : VS w vs gp gf gc gs ps fs cs bs W) (i : Nat) (v : Int) : VS w vs gp gf gc gs ps fs (cs.set i v) bs (W.setCell ⟨gc, i, none⟩ (.int .i64 v)) := by
 have a:=h.lo
 have b:=h.ne
 exact ⟨h.x.other (by show _ ≠ gc; omega) _, Row.other h.p (by show _ ≠ gc; omega) _, Row.other h.f (by show _ ≠ gc; omega) _, h.c.set i v, Row.other h.s (by show _ ≠ gc; omega) _, h.bel.setCell (by show _ ≤ gc; omega) _, h.lo, h.ne⟩
theorem VS.setS (h : VS w vs gp gf gc gs ps fs cs bs W) (i : Nat) (v : Bool) : VS w vs gp gf gc gs ps fs cs (bs.set i v) (W.setCell ⟨gs, i, none⟩ (.bool v)) := by
 have a:=h.lo
 have b:=h.ne
 exact ⟨h.x.other (by show _ ≠ gs; omega) _, Row.other h.p (by show _ ≠ gs; omega) _, Row.other h.f (by show _ ≠ gs; omega) _, Row.other h.c (by show _ ≠ gs; omega) _, h.s.set i v, h.bel.setCell (by show _ ≤ gs; omega) _, h.lo, h.ne⟩
end
theorem map_ints (l : List Nat) : l.map (fun k : Nat => Value.int .i64 k) = (nats l).map (Value.int .i64) := (map_nats l).symm
theorem nats_getD (l : List Nat) (j : Nat) : (nats l).getD j 0 = (l.getD j 0 : Nat) := by
 unfold nats
 rw [List.getD_eq_getElem?_getD, List.getD_eq_getElem?_getD, List.getElem?_map]
 cases l[j]? <;> rfl
theorem rpart_n (d : Pl.Dg) (hd : Pl.Wf d) (A B : Option Addr) (n q cp cq : Nat) (l : Value) (w : World) (e : n = d.n) (hm : q = 4 * d.n) (hs : IntsAt w A n d.sg) (hb : IntsAt w B q (nats d.mt)) :
 Calls Try.prog 63 #[.agg #[.slice A n cp, .slice B q cq, l]] w fun e w' =>
  ∃ (ps : List Int) (g : Nat), e = .returned (.slice (some ⟨g, 0, none⟩) n n) ∧ Pl.PB d ps ∧ w.heap.size ≤ g ∧ IRow w' g ps ∧ Below w.heap.size w w' := by
 subst e
 exact rpart_any d hd A B cp cq q l w hm ⟨hs, by rw [← hm]; exact hb⟩
theorem rface_n (d : Pl.Dg) (hd : Pl.Wf d) (A B : Option Addr) (n q cp cq : Nat) (l : Value) (h p : Nat) (w : World) (e : n = d.n) (hm : q = 4 * d.n) (hb : IntsAt w B q (nats d.mt)) (hh : h < 4 * d.n) (hp : Pl.Per (Pl.nx d) h p) (hpN : p ≤ 4 * d.n) :
 Calls Try.prog 64 #[.agg #[.slice A n cp, .slice B q cq, l], .int .i64 (h : Int)] w (fun e w' => ∃ (A5 : Option Addr) (c5 : Nat), e = .returned (.slice A5 p c5) ∧ w'.ownsRow w.heap.size 3 1 (.slice A5 p c5) p ((Pl.cyc (Pl.nx d) h p).map (fun k : Nat => Value.int .i64 k)) ∧ Below w.heap.size w w') := by
 subst e
 exact rface_any d hd A B cp cq q l h p w hm (by rw [hm] at hb ⊢; exact hb) hh hp hpN
theorem two_rows (W : World) (n : Nat) : IRow (((W.alloc (.cells (Array.replicate n (Value.int .i64 0)) 3)).alloc (.cells (Array.replicate n (Value.int .i64 0)) 3)).drew) W.heap.size (List.replicate n 0) ∧ IRow (((W.alloc (.cells (Array.replicate n (Value.int .i64 0)) 3)).alloc (.cells (Array.replicate n (Value.int .i64 0)) 3)).drew) (W.heap.size + 1) (List.replicate n 0) ∧ Below W.heap.size W (((W.alloc (.cells (Array.replicate n (Value.int .i64 0)) 3)).alloc (.cells (Array.replicate n (Value.int .i64 0)) 3)).drew) := by
 have:=IRow.made (W.alloc (.cells (Array.replicate n (Value.int .i64 0)) 3)) n
 rw [show (W.alloc (.cells (Array.replicate n (Value.int .i64 0)) 3)).heap.size = W.heap.size + 1 by simp] at this
 exact ⟨Row.drew (Row.alloc (IRow.made W n) _), Row.drew this, (((Below.refl _ _).alloc (Nat.le_refl _) _).alloc (by simp) _).drew⟩
theorem two_rows' (W : World) (n : Nat) : IRow (((W.alloc (.cells (Array.replicate n (Value.int .i64 0)) 3)).alloc (.cells (Array.replicate n (Value.int .i64 0)) 3)).drew) (W.heap.size + 1) (List.replicate n 0) ∧ IRow (((W.alloc (.cells (Array.replicate n (Value.int .i64 0)) 3)).alloc (.cells (Array.replicate n (Value.int .i64 0)) 3)).drew) W.heap.size (List.replicate n 0) ∧ Below W.heap.size W (((W.alloc (.cells (Array.replicate n (Value.int .i64 0)) 3)).alloc (.cells (Array.replicate n (Value.int .i64 0)) 3)).drew) :=
 let ⟨a, b, c⟩ := two_rows W n; ⟨b, a, c⟩
set_option maxRecDepth 100000 in
set_option maxHeartbeats 4000000 in
theorem rvalid_any (sg mt : List Int) (lp : Int) (A B : Option Addr) (n q cp cq : Nat) (w : World) (hs : IntsAt w A n sg) (hm : IntsAt w B q mt) (hn : n ≤ maxLen) (hq : q ≤ maxLen) (hlp : -9223372036854775808 ≤ lp ∧ lp ≤ 9223372036854775807) :
 Calls Try.prog 29 #[.agg #[.slice A n cp, .slice B q cq, .int .i64 lp]] w fun e w' => e = .returned (.bool (Pl.vb (Pl.VL sg mt lp))) ∧ Below w.heap.size w w' := by
 unfold maxLen at hn hq
 have HLS:=hide hs.len
 have HLM:=hide hm.len
 have b0 : Below w.heap.size w (w.alloc (.cells #[.slice A n cp, .slice B q cq, .int .i64 lp] 24)):=(Below.refl _ _).alloc (Nat.le_refl _) _
 by_cases h1 : 64 < n
 ·have HV:=hide (fun h : Pl.VL sg mt lp => show False by have := h.few; have := HLS.out; omega)
  go_enter Try.func29, Try.ntmps29
  go_wp2
  go_ret
  exact ⟨ret_bool (Pl.vb_false HV.out).symm, b0⟩
 ·have h1' : decide (64 < (n : Int)) = false:=by simp; omega
  by_cases h2 : q = 4 * n
  ·by_cases h3 : 0 ≤ lp ∧ lp ≤ 64
   ·have h2' : (((q : Nat) : Int) != 4 * (n : Int)) = false:=by simp; omega
    have h3a : decide (lp < 0) = false:=by simp; omega
    have h3b : decide (64 < lp) = false:=by simp; omega
    have HQ4:=hide h2
    have hq6 : q ≤ 256:=by omega
    clear h2
    have x0 : Row (w.alloc (.cells #[.slice A n cp, .slice B q cq, .int .i64 lp] 24)) w.heap.size 24 (boxV A B n cp q cq (.int .i64 lp)):=Row.new w _ _
    go_enter Try.func29, Try.ntmps29
    go_wp2
    have B0:=hide b0
    have X0:=hide x0
    clear b0 x0 h1' h2' h3a h3b
    go_loopg [4] n (fun g i wx => ∃ k : Nat, k + g = n ∧ i = .int .i64 k ∧ (∀ c, c < k → Pl.pv sg c = 1 ∨ Pl.pv sg c = -1) ∧ Below w.heap.size w wx ∧ Row wx w.heap.size 24 (boxV A B n cp q cq (.int .i64 lp)))
    case atStart => exact ⟨0, by omega, rfl, fun c hc => absurd hc (by omega), B0.out, X0.out⟩
    case round =>
     clear B0 X0
     obtain ⟨k, hkg, rfl, hsg, b1, x1⟩ := hrel
     have HG:=hide hkg
     have HSG:=hide hsg
     have hkn : k ≤ n:=by omega
     clear hkg hsg
     by_cases hlt : k < n
     ·obtain ⟨ab, ao, rfl, hc⟩ := ints_pv hs hlt
      have hc1:=cell_below hc b1
      obtain ⟨y0, y1, y2, _⟩ := box3 x1
      have B1:=hide b1
      have X1:=hide x1
      clear b1 x1 hc
      by_cases hz : Pl.pv sg k = 1
      ·have HZ:=hide hz
       rw [hz] at hc1
       clear hz
       go_wp2
       go_roundg (gk - 1)
       case measure => have := HG.out; omega
       case rel =>
        refine ⟨k + 1, by have := HG.out; omega, by go_num, fun c hc => ?_, B1.out, X1.out⟩
        by_cases e : c = k
        ·rw [e]; exact .inl HZ.out
        ·exact HSG.out c (by omega)
      ·by_cases hz2 : Pl.pv sg k = -1
       ·have HZ:=hide hz2
        rw [hz2] at hc1
        clear hz hz2
        go_wp2
        go_roundg (gk - 1)
        case measure => have := HG.out; omega
        case rel =>
         refine ⟨k + 1, by have := HG.out; omega, by go_num, fun c hc => ?_, B1.out, X1.out⟩
         by_cases e : c = k
         ·rw [e]; exact .inr HZ.out
         ·exact HSG.out c (by omega)
       ·have HV := hide (fun h : Pl.VL sg mt lp => show False by
         rcases h.sign (c := k) (by have := HLS.out; omega) with e | e
         ·exact hz e
         ·exact hz2 e)
        have t1 : (Pl.pv sg k != 1) = true:=by rw [bne_iff_ne]; exact hz
        have t2 : (Pl.pv sg k != -1) = true:=by rw [bne_iff_ne]; exact hz2
        clear hz hz2
        go_wp2
        go_ret
        exact ⟨ret_bool (Pl.vb_false HV.out).symm, B1.out⟩
     ·have HSG':=hide (fun (c : Nat) (hc : c < sg.length) => HSG.out c (by have := HLS.out; omega))
      have B1:=hide b1
      have X1:=hide x1
      clear b1 x1 HSG HG
      go_wp2
      go_loopg [5] q (fun g i wx => ∃ k : Nat, k + g = q ∧ i = .int .i64 k ∧ (∀ h, h < k → 0 ≤ Pl.pv mt h ∧ Pl.pv mt h < mt.length ∧ Pl.pv mt h ≠ h ∧ Pl.pv mt (Pl.pv mt h).toNat = h ∧ Pl.out (Pl.mk sg mt lp) h ≠ Pl.out (Pl.mk sg mt lp) (Pl.pv mt h).toNat) ∧ Below w.heap.size w wx ∧ Row wx w.heap.size 24 (boxV A B n cp q cq (.int .i64 lp)))
      case atStart => exact ⟨0, by omega, rfl, fun c hc => absurd hc (by omega), B1.out, X1.out⟩
      case round =>
       clear B1 X1
       obtain ⟨j, hjg, rfl, hmo, b2, x2⟩ := hrel
       have HG:=hide hjg
       have HMO:=hide hmo
       have hjq : j ≤ q:=by omega
       clear hjg hmo
       obtain ⟨y0, y1, y2, _⟩ := box3 x2
       by_cases hlt2 : j < q
       ·obtain ⟨bb, bo, rfl, hc⟩ := ints_pv hm hlt2
        have hj4n : (j : Int) < 4 * (n : Int):=by have := HQ4.out; omega
        have hc1:=cell_below hc b2
        have hjl : j < mt.length:=by have := HLM.out; omega
        have B2:=hide b2
        have X2:=hide x2
        clear b2 x2 hc
        by_cases hz0 : Pl.pv mt j < 0
        ·have HV:=hide (fun h : Pl.VL sg mt lp => show False by have := (h.mate hjl).1; omega)
         have t1 : decide (Pl.pv mt j < 0) = true:=by simpa using hz0
         clear hz0
         go_wp2
         go_quiet (fail)
         go_wp2
         go_ret
         exact ⟨ret_bool (Pl.vb_false HV.out).symm, Below.drewN' B2.out _⟩
        ·have t1 : decide (Pl.pv mt j < 0) = false:=by simpa using hz0
         by_cases hz1 : Pl.pv mt j < q
         ·obtain ⟨t, ht⟩ : ∃ t : Nat, Pl.pv mt j = t := ⟨(Pl.pv mt j).toNat, by omega⟩
          have htq : t < q:=by omega
          have t2 : decide (4 * (n : Int) ≤ (t : Int)) = false:=by have := HQ4.out; simp; omega
          rw [ht] at hc1 t1
          have HT:=hide ht
          have hj4 : j < 4 * n:=by have := HQ4.out; omega
          have ht4 : t < 4 * n:=by have := HQ4.out; omega
          clear hz0 hz1 ht
          by_cases htj : t = j
          ·have HV:=hide (fun h : Pl.VL sg mt lp => show False by have := (h.mate hjl).2.2.1; rw [HT.out] at this; omega)
           have t3 : (((t : Nat) : Int) == (j : Int)) = true:=by simp; omega
           clear htj
           go_wp2
           go_quiet (fail)
           go_wp2
           go_ret
           exact ⟨ret_bool (Pl.vb_false HV.out).symm, Below.drewN' B2.out _⟩
          ·have t3 : (((t : Nat) : Int) == (j : Int)) = false:=by simp; omega
           obtain ⟨bb', bo', ebb, hcb⟩ := ints_pv hm htq
           injection ebb with ebb
           injection ebb with ebb1 ebb2
           subst ebb1; subst ebb2
           have hc2:=cell_below hcb B2.out
           clear hcb
           by_cases hinv : Pl.pv mt t = j
           ·have HI:=hide hinv
            rw [hinv] at hc2
            have t4 : ((j : Int) != (j : Int)) = false:=by simp
            clear hinv
            have HSS:=hide (fun (p : Cls (fun w' => Row w' w.heap.size 24 (boxV A (some ⟨bb, bo, none⟩) n cp q cq (.int .i64 lp)) ∧ Below w.heap.size w w' ∧ w'.cell? ⟨bb, bo + t, none⟩ = some (.int .i64 (j : Int)))) (h : Nat) (hh : h < 4 * n) =>
             calls_cls (C := fun w' => Row w' w.heap.size 24 (boxV A (some ⟨bb, bo, none⟩) n cp q cq (.int .i64 lp)) ∧ Below w.heap.size w w' ∧ w'.cell? ⟨bb, bo + t, none⟩ = some (.int .i64 (j : Int)))
              (rout_any (Pl.mk sg mt lp) A (some ⟨bb, bo, none⟩) n cp q cq (.int .i64 lp) h p.w HLS.out.symm hh (by omega) (hs.keep p.ok.2.1)) (fun e w' h => ⟨h.1, p.ok.1.below h.2, p.ok.2.1.trans (h.2.mono p.ok.2.1.size), cell_below p.ok.2.2 h.2⟩))
            have c30 : ∀ p : Cls (fun w' => Row w' w.heap.size 24 (boxV A (some ⟨bb, bo, none⟩) n cp q cq (.int .i64 lp)) ∧ Below w.heap.size w w' ∧ w'.cell? ⟨bb, bo + t, none⟩ = some (.int .i64 (j : Int))), p.w.cell? ⟨w.heap.size, 0, none⟩ = some (.slice A n cp):=fun p => p.ok.1.cell (i := 0) (by show 0 < 3; omega)
            have c31 : ∀ p : Cls (fun w' => Row w' w.heap.size 24 (boxV A (some ⟨bb, bo, none⟩) n cp q cq (.int .i64 lp)) ∧ Below w.heap.size w w' ∧ w'.cell? ⟨bb, bo + t, none⟩ = some (.int .i64 (j : Int))), p.w.cell? ⟨w.heap.size, 1, none⟩ = some (.slice (some ⟨bb, bo, none⟩) q cq):=fun p => p.ok.1.cell (i := 1) (by show 1 < 3; omega)
            have c32 : ∀ p : Cls (fun w' => Row w' w.heap.size 24 (boxV A (some ⟨bb, bo, none⟩) n cp q cq (.int .i64 lp)) ∧ Below w.heap.size w w' ∧ w'.cell? ⟨bb, bo + t, none⟩ = some (.int .i64 (j : Int))), p.w.cell? ⟨w.heap.size, 2, none⟩ = some (.int .i64 lp):=fun p => p.ok.1.cell (i := 2) (by show 2 < 3; omega)
            have c33 : ∀ p : Cls (fun w' => Row w' w.heap.size 24 (boxV A (some ⟨bb, bo, none⟩) n cp q cq (.int .i64 lp)) ∧ Below w.heap.size w w' ∧ w'.cell? ⟨bb, bo + t, none⟩ = some (.int .i64 (j : Int))), p.w.cell? ⟨bb, bo + t, none⟩ = some (.int .i64 (j : Int)):=fun p => p.ok.2.2
            have HC2:=hide hc2
            go_wp2
            refine wp_region_cls (fun w' => Row w' w.heap.size 24 (boxV A (some ⟨bb, bo, none⟩) n cp q cq (.int .i64 lp)) ∧ Below w.heap.size w w' ∧ w'.cell? ⟨bb, bo + t, none⟩ = some (.int .i64 (j : Int))) (by kernel_rfl) (by kernel_rfl) ⟨X2.out.drew, B2.out.drew, HC2.out⟩ (fun hne => ?_)
            repeat (go_big_quiet_step ((go_at_call 62; exact HSS.out _ _ (by omega))))
            refine wpQuiet_nil ?_
            rintro _ ⟨p, rfl⟩
            have hp1:=hide p.ok.1
            have hp2:=hide p.ok.2.1
            clear HSS c30 c31 c32 c33
            go_wp2
            ·have t5 : (Pl.out (Pl.mk sg mt lp) j == Pl.out (Pl.mk sg mt lp) t) = true:=by assumption
             go_ret
             refine ⟨ret_bool (Pl.vb_false fun h => ?_).symm, hp2.out⟩
             have h5:=(h.mate hjl).2.2.2.2
             rw [HT.out, Int.toNat_natCast] at h5
             exact h5 (beq_iff_eq.1 t5)
            ·have t5 : (Pl.out (Pl.mk sg mt lp) j == Pl.out (Pl.mk sg mt lp) t) = false:=by assumption
             go_roundg (gk - 1)
             case measure => have := HG.out; omega
             case rel =>
              refine ⟨j + 1, by have := HG.out; omega, by go_num, fun h hh => ?_, hp2.out, hp1.out⟩
              by_cases e : h = j
              ·subst e
               rw [HT.out, Int.toNat_natCast]
               exact ⟨by omega, by have := HLM.out; omega, by omega, HI.out, beq_eq_false_iff_ne.1 t5⟩
              ·exact HMO.out h (by omega)
           ·have HV := hide (fun h : Pl.VL sg mt lp => show False by
             have:=(h.mate hjl).2.2.2.1
             rw [HT.out, Int.toNat_natCast] at this
             exact hinv this)
            have t4 : (Pl.pv mt t != (j : Int)) = true:=by rw [bne_iff_ne]; exact hinv
            clear hinv
            go_wp2
            go_quiet (fail)
            go_wp2
            go_ret
            exact ⟨ret_bool (Pl.vb_false HV.out).symm, Below.drewN' B2.out _⟩
         ·have HV:=hide (fun h : Pl.VL sg mt lp => show False by have := (h.mate hjl).2.1; have := HLM.out; omega)
          have t2 : decide (4 * (n : Int) ≤ Pl.pv mt j) = true:=by have := HQ4.out; simp; omega
          clear hz0 hz1
          go_wp2
          go_quiet (fail)
          go_wp2
          go_ret
          exact ⟨ret_bool (Pl.vb_false HV.out).symm, Below.drewN' B2.out _⟩
       ·have hjq' : j = q:=by omega
        have hj4n : ¬ ((j : Int) < 4 * (n : Int)):=by have := HQ4.out; omega
        have hw:=Pl.wf_of (sg := sg) (mt := mt) (lp := lp) (by have := HLS.out; omega) (by have := HLS.out; have := HLM.out; have := HQ4.out; omega) h3 HSG'.out (fun k hk => HMO.out k (by have := HLM.out; omega))
        have hpos : ∀ z, z ∈ mt → 0 ≤ z:=fun z hz => by
         obtain ⟨k, hk, rfl⟩ := Pl.mem_pv hz
         exact (HMO.out k (by have := HLM.out; omega)).1
        have HW:=hide hw
        have HR:=hide (Pl.VL.of hw hpos h3.1)
        have HN:=hide (Pl.nats_mk (sg := sg) (lp := lp) hpos)
        have B2:=hide b2
        have X2:=hide x2
        clear b2 x2 hw hpos hjq'
        obtain ⟨d, hd⟩ : ∃ d, d = Pl.mk sg mt lp := ⟨_, rfl⟩
        have HD:=hide hd
        have HWd:=hide (show Pl.Wf d by rw [hd]; exact HW.out)
        have HNd:=hide (show n = d.n by rw [hd]; exact HLS.out.symm)
        have HQd:=hide (show q = 4 * d.n by have := HQ4.out; have := HNd.out; omega)
        have HSd:=hide (show IntsAt w A n d.sg by rw [hd]; exact hs)
        have HMd:=hide (show IntsAt w B q (nats d.mt) by rw [hd]; unfold nats; rw [HN.out]; exact hm)
        clear hd
        have hmk:=fun W : World => run_ints n (by omega) W
        have hmkb : ∀ W : World, (Instr.makeSlice 69 (.int .i64 (4 * (n : Int))) (.int .i64 (4 * (n : Int)))).run Try.prog W = .ok (.slice (some ⟨W.heap.size, 0, none⟩) q q) (W.alloc (.cells (Array.replicate q (Value.bool false)) 4)):=fun W => by
         have:=run_bools q (by omega) W
         rwa [show (q : Int) = 4 * (n : Int) by have := HQ4.out; omega] at this
        go_wp2_with fail
        refine (rpart_n d HWd.out A B n q cp cq (.int .i64 lp) _ HNd.out HQd.out (HSd.out.keep B2.out) (HMd.out.keep B2.out)).mono ?_
        rintro e w3 ⟨ps, gp, rfl, hpb, hgp, hpr, hb3⟩
        have HPB:=hide hpb
        have P3:=hide hpr
        have X3:=hide (X2.out.below hb3)
        have B3:=hide (B2.out.trans (hb3.mono B2.out.size))
        have hgpw : w.heap.size < gp:=by have := X2.out.lt; omega
        have hgp3 : gp < w3.heap.size:=hpr.lt
        clear hpb hgp hpr hb3 y0 y1 y2
        go_upto_region 16 with fail
        go_cut [8, 9] (fun s8 s9 wx => ∃ gf gc : Nat, s8 = .slice (some ⟨gf, 0, none⟩) n n ∧ s9 = .slice (some ⟨gc, 0, none⟩) n n ∧ gf ≠ gc ∧ w3.heap.size ≤ gf ∧ w3.heap.size ≤ gc ∧ IRow wx gf (List.replicate n 0) ∧ IRow wx gc (List.replicate n 0) ∧ Below w3.heap.size w3 wx)
        case first =>
         clear hmkb
         go_region
         all_goals (go_wp2_with fail; go_meet)
         all_goals
          first
           | exact ⟨w3.heap.size, w3.heap.size + 1, rfl, rfl, by omega, by omega, by omega, two_rows w3 n⟩
           | exact ⟨w3.heap.size + 1, w3.heap.size, rfl, rfl, by omega, by omega, by omega, two_rows' w3 n⟩
        case rest =>
         clear hmk
         obtain ⟨gf, gc, rfl, rfl, i1, i2, i3, hf, hc, hb4⟩ := hcut
         obtain ⟨W4, hW4⟩ : ∃ W4 : World, W4 = wc.alloc (.cells (Array.replicate q (Value.bool false)) 4) := ⟨_, rfl⟩
         have V4:=hide (show VS w (boxV A B n cp q cq (.int .i64 lp)) gp gf gc wc.heap.size ps (List.replicate n 0) (List.replicate n 0) (List.replicate q false) W4 by
          have l1:=hf.lt
          have l2:=hc.lt
          have l3:=hb4.size
          rw [hW4]
          exact ⟨(X3.out.below hb4).alloc _, Row.alloc (Row.below P3.out hb4) _, Row.alloc hf _, Row.alloc hc _, BRow.made _ _, (B3.out.trans (hb4.mono B3.out.size)).alloc (by have := B3.out.size; omega) _, by omega, by omega⟩)
         obtain ⟨gs, hgs⟩ : ∃ gs, gs = wc.heap.size := ⟨_, rfl⟩
         rw [← hgs] at V4
         clear hf hc hb4 X3 B3 P3 X2 B2
         go_wp2
         rw [← hW4, ← hgs]
         clear hW4 hgs hmkb
         have V4':=V4
         go_loopg [11] q (fun g i wx => ∃ (k : Nat) (fs : List Int) (bs : List Bool), k + g = q ∧ i = .int .i64 k ∧ Pl.Fx d ps fs k ∧ Pl.SQ d k bs ∧ VS w (boxV A B n cp q cq (.int .i64 lp)) gp gf gc gs ps fs (List.replicate n 0) bs wx)
         case atStart => exact ⟨0, _, _, by omega, rfl, by have := Pl.Fx.start d ps; rwa [← HNd.out] at this, by have := Pl.SQ.start d; rwa [← HQd.out] at this, V4.out⟩
         case round =>
          clear V4 V4'
          obtain ⟨k, fs, bs, hkg, rfl, hfx, hsq, hv⟩ := hrel
          have HK:=hide hkg
          have HFX:=hide hfx
          have HSQ:=hide hsq
          have V:=hide hv
          have hkq : k ≤ q:=by omega
          clear hkg hfx hsq hv
          by_cases hlt3 : k < q
          ·have hj4n' : (k : Int) < 4 * (n : Int):=by have := HQ4.out; omega
           have hkd : k < 4 * d.n:=by have := HQd.out; omega
           have c1:=V.out.s.cell (i := k) (by rw [HSQ.out.len]; exact hkd)
           by_cases hseen : Pl.gb bs k = true
           ·rw [show bs.getD k false = true from hseen] at c1
            have HS2:=hide (HSQ.out.seen HWd.out hkd hseen)
            clear hseen
            go_wp2
            go_roundg (q - (k + 1))
            case measure => have := HK.out; omega
            case rel => exact ⟨k + 1, fs, bs, by omega, by go_num, HFX.out.same HS2.out.2, HS2.out.1, V.out⟩
           ·have hseen' : Pl.gb bs k = false:=by simpa using hseen
            rw [show bs.getD k false = false from hseen'] at c1
            have HSE:=hide (HSQ.out.enter HWd.out hkd hseen')
            obtain ⟨p, hp1, hp2⟩ := HWd.out.nxb.per hkd
            have HP:=hide hp2
            have hp0:=hp2.1
            have hp256 : p ≤ 256:=by have := HQd.out; omega
            obtain ⟨y0, y1, y2, _⟩ := box3 V.out.x
            have hgsl : gs < wr.heap.size:=V.out.s.lt
            clear hp2 hseen hseen'
            go_wp2_with fail
            refine (rface_n d HWd.out A B n q cp cq (.int .i64 lp) k p _ HNd.out HQd.out (HMd.out.keep V.out.bel) hkd HP.out hp1).mono ?_
            rintro e w5 ⟨A5, c5, rfl, own, hb5⟩
            have V5:=hide (V.out.below hb5)
            rw [map_ints] at own
            have OWN:=hide own
            obtain ⟨bz, hbz⟩ : ∃ bz, bz = wr.heap.size := ⟨_, rfl⟩
            rw [← hbz] at OWN hgsl
            clear own hb5 y0 y1 y2 c1 hbz
            go_wp2_with fail
            go_loopg [13] p (fun g i wx => ∃ (j : Nat) (cs : List Bool), j + g = p ∧ i = .int .i64 j ∧ Pl.SI d k j cs ∧ VS w (boxV A B n cp q cq (.int .i64 lp)) gp gf gc gs ps fs (List.replicate n 0) cs wx ∧ wx.ownsRow bz 3 1 (.slice A5 p c5) p ((nats (Pl.cyc (Pl.nx d) k p)).map (Value.int .i64)))
            case atStart => exact ⟨0, bs, by omega, rfl, HSE.out.1, V5.out, OWN.out⟩
            case round =>
             clear V V5 OWN
             obtain ⟨j, cs, hjg, rfl, hsi, hv, own⟩ := hrel
             have HJ:=hide hjg
             have HSI:=hide hsi
             have V:=hide hv
             have OWN:=hide own
             have hjp : j ≤ p:=by omega
             clear hjg hsi hv own
             by_cases hlt4 : j < p
             ·obtain ⟨b5, o5, hA5, hc5⟩ := (own_ints' OWN.out).at_ hlt4
              obtain ⟨x, hx⟩ : ∃ x, x = Pl.it (Pl.nx d) j k := ⟨_, rfl⟩
              have hxd : x < 4 * d.n:=by rw [hx]; exact HSI.out.lt HWd.out
              have hxq : x < q:=by rw [HQd.out]; exact hxd
              rw [nats_getD, Pl.cyc_get hlt4, ← hx] at hc5
              have HX:=hide hx
              subst hA5
              have c2:=V.out.s.cell (i := x) (by rw [HSI.out.len]; exact hxd)
              have f2:=Row.free V.out.s x
              clear hx
              go_wp2
              go_roundg (p - (j + 1))
              case measure => have := HJ.out; omega
              case rel =>
               refine ⟨j + 1, cs.set x true, by omega, by go_num, by rw [HX.out]; exact HSI.out.step HWd.out, V.out.setS x true, ownsRow_setCell_below OWN.out (by show gs < bz; omega) _⟩
             ·have hjp' : j = p:=by omega
              have HSQ2:=hide (show Pl.SQ d (k + 1) cs by subst hjp'; exact HSI.out.all HWd.out HP.out)
              have hk4 : k / 4 < n:=by have := HNd.out; omega
              have c1:=V.out.p.cell (i := k / 4) (by rw [HPB.out.len, ← HNd.out]; exact hk4)
              obtain ⟨u, hu1, hu2, _, _⟩ := HPB.out.root (c := k / 4) (by rw [← HNd.out]; exact hk4)
              rw [hu1] at c1
              have hun : u < n:=by rw [HNd.out]; exact hu2
              have c2:=V.out.f.cell (i := u) (by rw [HFX.out.1, ← HNd.out]; exact hun)
              have f2:=Row.free V.out.f u
              have hfu:=HFX.out.2 u hu2
              have hfl:=Pl.nf_le d ps u k
              have hfr : 0 ≤ Pl.pv fs u ∧ Pl.pv fs u ≤ 256:=by omega
              have HU:=hide hu1
              clear hjp' hu1 hfu hfl
              go_wp2
              go_roundg (q - (k + 1))
              case measure => have := HK.out; omega
              case rel =>
               exact ⟨k + 1, _, cs, by omega, by go_num, HFX.out.more hu2 HU.out HSE.out.2, HSQ2.out, V.out.setF u _⟩
          ·have hkq' : k = q:=by omega
           have hj4n' : ¬ ((k : Int) < 4 * (n : Int)):=by have := HQ4.out; omega
           have HFX2:=hide (show Pl.Fx d ps fs (4 * d.n) by rw [← HQd.out, ← hkq']; exact HFX.out)
           clear HFX HSQ HK hkq'
           go_wp2
           go_loopg [14] n (fun g i wx => ∃ (k : Nat) (cs : List Int), k + g = n ∧ i = .int .i64 k ∧ Pl.Cx d ps cs k ∧ VS w (boxV A B n cp q cq (.int .i64 lp)) gp gf gc gs ps fs cs bs wx)
           case atStart => exact ⟨0, _, by omega, rfl, by have := Pl.Cx.start d ps; rwa [← HNd.out] at this, V.out⟩
           case round =>
            clear V
            obtain ⟨j, cs, hjg, rfl, hcx, hv⟩ := hrel
            have HJ:=hide hjg
            have HCX:=hide hcx
            have V:=hide hv
            have hjn : j ≤ n:=by omega
            clear hjg hcx hv
            by_cases hlt5 : j < n
            ·have c1:=V.out.p.cell (i := j) (by rw [HPB.out.len, ← HNd.out]; exact hlt5)
             obtain ⟨u, hu1, hu2, _, _⟩ := HPB.out.root (c := j) (by rw [← HNd.out]; exact hlt5)
             rw [hu1] at c1
             have hun : u < n:=by rw [HNd.out]; exact hu2
             have c2:=V.out.c.cell (i := u) (by rw [HCX.out.1, ← HNd.out]; exact hun)
             have f2:=Row.free V.out.c u
             have hfu:=HCX.out.2 u hu2
             have hfl:=Pl.nv_le ps u j
             have hfr : 0 ≤ Pl.pv cs u ∧ Pl.pv cs u ≤ 256:=by omega
             have HU:=hide hu1
             clear hu1 hfu hfl
             go_wp2
             go_roundg (n - (j + 1))
             case measure => have := HJ.out; omega
             case rel => exact ⟨j + 1, _, by omega, by go_num, HCX.out.more hu2 HU.out, V.out.setC u _⟩
            ·have hjn' : j = n:=by omega
             have HCX2:=hide (show Pl.Cx d ps cs d.n by rw [← HNd.out, ← hjn']; exact HCX.out)
             clear HCX HJ hjn'
             go_wp2
             go_loopg [15] n (fun g i wx => ∃ k : Nat, k + g = n ∧ i = .int .i64 k ∧ (∀ c, c < k → Pl.pv ps c = c → Pl.nf d ps c (4 * d.n) = Pl.nv ps c d.n + 2) ∧ VS w (boxV A B n cp q cq (.int .i64 lp)) gp gf gc gs ps fs cs bs wx)
             case atStart => exact ⟨0, by omega, rfl, fun c hc => absurd hc (by omega), V.out⟩
             case round =>
              clear V
              obtain ⟨i, hig, rfl, hok, hv⟩ := hrel
              have HI:=hide hig
              have HOK:=hide hok
              have V:=hide hv
              have hin : i ≤ n:=by omega
              clear hig hok hv
              have HRU:=hide (HPB.out.rule HWd.out)
              by_cases hlt6 : i < n
              ·have hid : i < d.n:=by rw [← HNd.out]; exact hlt6
               have c1:=V.out.p.cell (i := i) (by rw [HPB.out.len]; exact hid)
               have c2:=V.out.f.cell (i := i) (by rw [HFX2.out.1]; exact hid)
               have c3:=V.out.c.cell (i := i) (by rw [HCX2.out.1]; exact hid)
               have E2:=hide (HFX2.out.2 i hid)
               have E3:=hide (HCX2.out.2 i hid)
               have hfl:=Pl.nf_le d ps i (4 * d.n)
               have hcl:=Pl.nv_le ps i d.n
               have hfr : 0 ≤ Pl.pv cs i ∧ Pl.pv cs i ≤ 256:=by have := E3.out; have := HNd.out; omega
               clear hfl hcl
               obtain ⟨z, hz⟩ : ∃ z, z = Pl.pv ps i := ⟨_, rfl⟩
               rw [← hz] at c1
               by_cases hzi : z = i
               ·have t1 : (z == (i : Int)) = true:=by simpa using hzi
                have HZ:=hide (show Pl.pv ps i = i by rw [← hz]; exact hzi)
                clear hz hzi
                by_cases hbad : Pl.pv fs i = Pl.pv cs i + 2
                ·have t2 : (Pl.pv fs i != Pl.pv cs i + 2) = false:=by simpa using hbad
                 have HBAD:=hide hbad
                 clear hbad
                 go_wp2
                 go_quiet (fail)
                 go_wp2
                 go_roundg (n - (i + 1))
                 case measure => have := HI.out; omega
                 case rel =>
                  refine ⟨i + 1, by omega, by go_num, fun c hc e => ?_, V.out.drewN _⟩
                  by_cases e2 : c = i
                  ·subst e2; have := HBAD.out; have := E2.out; have := E3.out; omega
                  ·exact HOK.out c (by omega) e
                ·have t2 : (Pl.pv fs i != Pl.pv cs i + 2) = true:=by simpa using hbad
                 have HV:=hide (show ¬ Pl.VL sg mt lp from fun h => hbad (by
                  have h2:=HR.out.1 h
                  rw [← HD.out] at h2
                  have h3:=HRU.out.2 h2 i hid HZ.out
                  have:=E2.out
                  have:=E3.out
                  omega))
                 clear hbad
                 go_wp2
                 go_quiet (fail)
                 go_wp2
                 go_ret
                 exact ⟨ret_bool (Pl.vb_false HV.out).symm, Below.drewN' V.out.bel _⟩
               ·have t1 : (z == (i : Int)) = false:=by simpa using hzi
                have HZ:=hide (show ¬ Pl.pv ps i = i by rw [← hz]; exact hzi)
                clear hz hzi
                go_wp2
                go_quiet (fail)
                go_wp2
                go_roundg (n - (i + 1))
                case measure => have := HI.out; omega
                case rel =>
                 refine ⟨i + 1, by omega, by go_num, fun c hc e => ?_, V.out.drewN _⟩
                 by_cases e2 : c = i
                 ·subst e2; exact absurd e HZ.out
                 ·exact HOK.out c (by omega) e
              ·have HV := hide (show Pl.VL sg mt lp from HR.out.2 (by
                rw [← HD.out]
                exact HRU.out.1 (fun c hc e => HOK.out c (by rw [← HNd.out] at hc; omega) e)))
               go_wp2
               go_ret
               exact ⟨ret_bool (Pl.vb_true HV.out).symm, V.out.bel⟩
   ·have HV:=hide (fun h : Pl.VL sg mt lp => show False by have := h.loops; omega)
    have h2' : (((q : Nat) : Int) != 4 * (n : Int)) = false:=by simp; omega
    have HQ2:=hide h2
    clear h2
    by_cases h3a : lp < 0
    ·have t1 : decide (lp < 0) = true:=by simpa using h3a
     go_enter Try.func29, Try.ntmps29
     go_wp2
     go_ret
     exact ⟨ret_bool (Pl.vb_false HV.out).symm, b0⟩
    ·have t1 : decide (lp < 0) = false:=by simpa using h3a
     have t2 : decide (64 < lp) = true:=by simp; omega
     go_enter Try.func29, Try.ntmps29
     go_wp2
     go_ret
     exact ⟨ret_bool (Pl.vb_false HV.out).symm, b0⟩
  ·have HV:=hide (fun h : Pl.VL sg mt lp => show False by have := h.len; have := HLS.out; have := HLM.out; omega)
   have h2' : (((q : Nat) : Int) != 4 * (n : Int)) = true:=by simp; omega
   go_enter Try.func29, Try.ntmps29
   go_wp2
   go_ret
   exact ⟨ret_bool (Pl.vb_false HV.out).symm, b0⟩
end Go.Proofs.Ytobbepmlmbbamaa
end
section
namespace Go.Proofs.Ytobbepmlmbbamaa
open Go Go.RowKit
theorem next_i (d : Pl.Dg) (hd : Pl.Wf d) (B : Option Addr) (cq m : Nat) (h : Int) (w : World) (e : m = 4 * d.n) (hh : 0 ≤ h ∧ h < (m : Int)) (hm : IntsAt w B m (nats d.mt)) :
 Calls Try.prog 95 #[.slice B m cq, .int .i64 h] w fun e w' => e = .returned (.int .i64 (Pl.nx d h.toNat : Nat)) ∧ w' = w := by
 subst e
 obtain ⟨k, rfl⟩ := Int.eq_ofNat_of_zero_le hh.1
 have hk : k < 4 * d.n:=by omega
 refine (next_any d B cq k w hk (by have := hd.few; omega) hm (hd.lt k hk)).mono ?_
 rintro e w' ⟨rfl, rfl⟩
 exact ⟨rfl, rfl⟩
def lnH (x y i : Nat) : Nat := if i < 4 then 4 * x + i else 4 * y + i - 4
def lnO (x y i : Nat) : Nat := if i < 4 then y else x
def isL (d : Pl.Dg) (x y i : Nat) : Prop := Pl.nx d (lnH x y i) / 4 = lnO x y i ∧ Pl.nx d (Pl.nx d (lnH x y i)) = lnH x y i ∧ lnH x y i % 2 = d.m (lnH x y i) % 2
instance (d : Pl.Dg) (x y i : Nat) : Decidable (isL d x y i) := by unfold isL; infer_instance
def lensI (d : Pl.Dg) (x y : Nat) : Option Nat := (List.range 8).find? (fun i => decide (isL d x y i))
def lensV (d : Pl.Dg) (h : Nat) : Value :=
 .agg #[.int .i64 (h : Int), .int .i64 (d.m (Pl.nx d h) : Int), .int .i64 (Pl.tn h 2 : Int), .int .i64 (Pl.tn (d.m (Pl.nx d h)) 2 : Int), .int .i64 (Pl.tn (d.m h) 2 : Int), .int .i64 (Pl.nx d h : Int), .int .i64 (d.m h : Int), .int .i64 (Pl.tn (Pl.nx d h) 2 : Int)]
def noLens : Value := .agg #[.int .i64 0, .int .i64 0, .int .i64 0, .int .i64 0, .int .i64 0, .int .i64 0, .int .i64 0, .int .i64 0]
def findE (d : Pl.Dg) (x y : Nat) : Option Nat → Ending
 | some i => .returned (.tuple #[lensV d (lnH x y i), .bool true])
 | none => .returned (.tuple #[noLens, .bool false])
def FindPost (d : Pl.Dg) (x y : Nat) (w : World) (e : Ending) (w' : World) : Prop := e = findE d x y (lensI d x y) ∧ Below w.heap.size w w'
theorem find_some {p : Nat → Bool} {k : Nat} : ∀ n, k < n → p k = true → (∀ j, j < k → p j = false) → (List.range n).find? p = some k := by
 intro n
 induction n with
 | zero => intro h; omega
 | succ n ih =>
   intro hk hp hn
   rw [List.range_succ, List.find?_append]
   rcases Nat.lt_or_ge k n with h | h
   ·rw [ih h hp hn]; rfl
   ·have : k = n:=by omega
    subst this
    have h0 : (List.range k).find? p = none:=by
     rw [List.find?_eq_none]
     intro x hx
     rw [hn x (List.mem_range.1 hx)]; decide
    rw [h0]
    simp [hp]
theorem find_none {p : Nat → Bool} {n : Nat} (hn : ∀ j, j < n → p j = false) : (List.range n).find? p = none := by
 rw [List.find?_eq_none]
 intro x hx
 rw [hn x (List.mem_range.1 hx)]; decide
theorem lens_at {d : Pl.Dg} {x y k : Nat} (hk : k < 8) (hp : isL d x y k) (hn : ∀ j, j < k → ¬ isL d x y j) : lensI d x y = some k :=
 find_some 8 hk (by simpa using hp) (fun j hj => by simpa using hn j hj)
theorem lens_no {d : Pl.Dg} {x y : Nat} (hn : ∀ j, j < 8 → ¬ isL d x y j) : lensI d x y = none := find_none (fun j hj => by simpa using hn j hj)
theorem find_more {p : Nat → Prop} {k : Nat} (h : ∀ j, j < k → ¬ p j) (hk : ¬ p k) : ∀ j, j < k + 1 → ¬ p j := fun j hj => by
 rcases Nat.lt_or_ge j k with h1 | h1
 ·exact h j h1
 ·have : j = k:=by omega
  subst this; exact hk
theorem row8 {W : World} {g : Nat} {t : TypeId} {vs : List Value} (h : Row W g t vs) (l : vs.length = 8) (y0 y1 y2 y3 y4 y5 y6 y7 : Value) :
 Row ((((((((W.setCell ⟨g, 0, none⟩ y0).setCell ⟨g, 1, none⟩ y1).setCell ⟨g, 2, none⟩ y2).setCell ⟨g, 3, none⟩ y3).setCell ⟨g, 4, none⟩ y4).setCell ⟨g, 5, none⟩ y5).setCell ⟨g, 6, none⟩ y6).setCell ⟨g, 7, none⟩ y7) g t [y0, y1, y2, y3, y4, y5, y6, y7] := by
 obtain ⟨a, b, c, d, e, f, g', h', rfl⟩ : ∃ a b c d e f g h, vs = [a, b, c, d, e, f, g, h] := by
  match vs, l with
  | [a, b, c, d, e, f, g, h], _ => exact ⟨a, b, c, d, e, f, g, h, rfl⟩
 exact (((((((h.set 0 y0).set 1 y1).set 2 y2).set 3 y3).set 4 y4).set 5 y5).set 6 y6).set 7 y7
theorem box8 {W : World} {g : Nat} {t : TypeId} {a b c d e f p q : Value} (h : Row W g t [a, b, c, d, e, f, p, q]) : W.cell? ⟨g, 0, none⟩ = some a ∧ W.cell? ⟨g, 1, none⟩ = some b ∧ W.cell? ⟨g, 2, none⟩ = some c ∧ W.cell? ⟨g, 3, none⟩ = some d ∧ W.cell? ⟨g, 4, none⟩ = some e ∧ W.cell? ⟨g, 5, none⟩ = some f ∧ W.cell? ⟨g, 6, none⟩ = some p ∧ W.cell? ⟨g, 7, none⟩ = some q ∧ ∀ o, W.frozen? ⟨g, o, none⟩ = false :=
 ⟨h.cell (i := 0) (by simp), h.cell (i := 1) (by simp), h.cell (i := 2) (by simp), h.cell (i := 3) (by simp), h.cell (i := 4) (by simp), h.cell (i := 5) (by simp), h.cell (i := 6) (by simp), h.cell (i := 7) (by simp), h.free⟩
theorem below_set8 {w W : World} {g : Nat} (h : Below w.heap.size w W) (hg : w.heap.size ≤ g) (y0 y1 y2 y3 y4 y5 y6 y7 : Value) :
 Below w.heap.size w ((((((((W.setCell ⟨g, 0, none⟩ y0).setCell ⟨g, 1, none⟩ y1).setCell ⟨g, 2, none⟩ y2).setCell ⟨g, 3, none⟩ y3).setCell ⟨g, 4, none⟩ y4).setCell ⟨g, 5, none⟩ y5).setCell ⟨g, 6, none⟩ y6).setCell ⟨g, 7, none⟩ y7) :=
 (((((((h.setCell hg _).setCell hg _).setCell hg _).setCell hg _).setCell hg _).setCell hg _).setCell hg _).setCell hg _
set_option maxRecDepth 100000 in
set_option maxHeartbeats 4000000 in
theorem find_any (d : Pl.Dg) (hd : Pl.Wf d) (A B : Option Addr) (cp cq m x y : Nat) (w : World) (hm : m = 4 * d.n) (hg : DgAt w A B d) (hx : x < d.n) (hy : y < d.n) :
 Calls Try.prog 92 #[.agg #[.slice A d.n cp, .slice B m cq, .int .i64 d.lp], .int .i64 (x : Int), .int .i64 (y : Int)] w (FindPost d x y w) := by
 have hn:=hd.few
 have HM:=hide hm
 have HG:=hide hg
 have hm2 : m ≤ 256:=by omega
 clear hm hg
 have X0:=hide (show Row ((w.alloc (.cells #[.slice A d.n cp, .slice B m cq, .int .i64 d.lp] 24)).alloc (.cells #[.int .i64 0, .int .i64 0, .int .i64 0, .int .i64 0, .int .i64 0, .int .i64 0, .int .i64 0, .int .i64 0] 93)) w.heap.size 24 [.slice A d.n cp, .slice B m cq, .int .i64 d.lp] from Row.alloc (Row.new w _ [_, _, _]) _)
 have R0:=hide (show Row ((w.alloc (.cells #[.slice A d.n cp, .slice B m cq, .int .i64 d.lp] 24)).alloc (.cells #[.int .i64 0, .int .i64 0, .int .i64 0, .int .i64 0, .int .i64 0, .int .i64 0, .int .i64 0, .int .i64 0] 93)) (w.heap.size + 1) 93 [.int .i64 0, .int .i64 0, .int .i64 0, .int .i64 0, .int .i64 0, .int .i64 0, .int .i64 0, .int .i64 0] from row_at (vs := [_, _, _, _, _, _, _, _]) (by simp))
 have B0:=hide (show Below w.heap.size w ((w.alloc (.cells #[.slice A d.n cp, .slice B m cq, .int .i64 d.lp] 24)).alloc (.cells #[.int .i64 0, .int .i64 0, .int .i64 0, .int .i64 0, .int .i64 0, .int .i64 0, .int .i64 0, .int .i64 0] 93)) from ((Below.refl _ _).alloc (Nat.le_refl _) _).alloc (by simp) _)
 go_enter Try.func92, Try.ntmps92
 go_wp2
 go_loopg [15] 8 (fun g i wx => ∃ k : Nat, k + g = 8 ∧ i = .int .i64 k ∧ (∀ j, j < k → ¬ isL d x y j) ∧ Below w.heap.size w wx ∧ Row wx w.heap.size 24 [.slice A d.n cp, .slice B m cq, .int .i64 d.lp] ∧ Row wx (w.heap.size + 1) 93 [.int .i64 0, .int .i64 0, .int .i64 0, .int .i64 0, .int .i64 0, .int .i64 0, .int .i64 0, .int .i64 0])
 case atStart => exact ⟨0, rfl, rfl, fun j h => absurd h (by omega), B0.out, X0.out, R0.out⟩
 case round =>
  clear B0 X0 R0
  obtain ⟨k, hkg, rfl, hno, b1, x1, r1⟩ := hrel
  have HKG:=hide hkg
  have HNO:=hide hno
  have B1:=hide b1
  have X1:=hide x1
  have R1:=hide r1
  clear hno b1 x1 r1
  by_cases hk : k = 8
  ·subst hk
   clear hkg
   obtain ⟨p0, p1, p2, p3, p4, p5, p6, p7, p8⟩ := box8 R1.out
   go_wp2
   refine bodyPost_ret (v := .tuple #[noLens, .bool false]) ?_ rfl ?_
   ·obtain ⟨e0, e1, e2, e3, e4, e5, e6, e7, _⟩ := box8 (row8 R1.out rfl (.int .i64 0) (.int .i64 0) (.int .i64 0) (.int .i64 0) (.int .i64 0) (.int .i64 0) (.int .i64 0) (.int .i64 0))
    unfold noLens
    simp [results, Try.results92, go_sem, e0, e1, e2, e3, e4, e5, e6, e7]
   ·refine ⟨?_, below_set8 B1.out (by omega) _ _ _ _ _ _ _ _⟩
    rw [lens_no HNO.out]
    rfl
  ·have hk8 : k < 8:=by omega
   have HK8:=hide hk8
   clear hkg hk
   obtain ⟨f0, f1, f2, f3⟩ := box3 X1.out
   go_upto_if 24 with fail
   go_cut [9, 10] (fun s9 s10 wx => s9 = .int .i64 (lnH x y k : Nat) ∧ s10 = .int .i64 (lnO x y k : Nat) ∧ wx = wr)
   case first =>
    by_cases h4 : k < 4
    ·have e1 : ((lnH x y k : Nat) : Int) = 4 * (x : Int) + (k : Int):=by unfold lnH; rw [if_pos h4]; omega
     have e2 : lnO x y k = y:=by unfold lnO; rw [if_pos h4]
     have E1:=hide e1
     have E2:=hide e2
     clear e1 e2
     go_wp2_with fail
     go_meet
     exact ⟨by rw [E1.out], by rw [E2.out], rfl⟩
    ·have e1 : ((lnH x y k : Nat) : Int) = 4 * (y : Int) + (k : Int) - 4:=by unfold lnH; rw [if_neg h4]; omega
     have e2 : lnO x y k = x:=by unfold lnO; rw [if_neg h4]
     have E1:=hide e1
     have E2:=hide e2
     clear e1 e2
     go_wp2_with fail
     go_meet
     exact ⟨by rw [E1.out], by rw [E2.out], rfl⟩
   case rest =>
    obtain ⟨rfl, rfl, rfl⟩ := hcut
    have hh : lnH x y k < 4 * d.n:=by unfold lnH; split <;> omega
    have ho : lnO x y k < d.n:=by unfold lnO; split <;> omega
    obtain ⟨h, hH⟩ : ∃ h, h = lnH x y k := ⟨_, rfl⟩
    obtain ⟨o, hO⟩ : ∃ o, o = lnO x y k := ⟨_, rfl⟩
    rw [← hH] at hh ⊢
    rw [← hO] at ho ⊢
    have HH:=hide hH
    have HO:=hide hO
    clear hH hO
    have hmh : h < m:=by have := HM.out; omega
    have ih0 : (0 : Int) ≤ (h : Int):=by omega
    have ih1 : (h : Int) < (m : Int):=by omega
    have HGc:=hide (HG.out.keep B1.out)
    have HGM:=hide (show IntsAt wc B m (nats d.mt) by rw [HM.out]; exact HGc.out.m)
    obtain ⟨mb, mo, rfl, cm⟩ := mate_at HGc.out.m hh
    have hmm:=hd.lt h hh
    have hgg : Pl.nx d h < 4 * d.n:=Pl.tn_lt (hd.lt h hh)
    obtain ⟨u, hu⟩ : ∃ u, u = d.m h := ⟨_, rfl⟩
    rw [← hu] at cm hmm
    obtain ⟨g, hgx⟩ : ∃ g, g = Pl.nx d h := ⟨_, rfl⟩
    rw [← hgx] at hgg
    have HU:=hide hu
    have HGX:=hide hgx
    clear hu hgx
    have hg2 : Pl.nx d g < 4 * d.n:=Pl.tn_lt (hd.lt g hgg)
    have hgm : g < m:=by have := HM.out; omega
    have ig0 : (0 : Int) ≤ (g : Int):=by omega
    have ig1 : (g : Int) < (m : Int):=by omega
    go_wp2_with fail
    refine (next_i d hd (some ⟨mb, mo, none⟩) cq m (h : Int) _ HM.out (by omega) HGM.out).mono ?_
    rintro e w2 ⟨rfl, rfl⟩
    rw [Int.toNat_natCast, ← HGX.out]
    have HL:=hide (show isL d x y k ↔ (g / 4 = o ∧ Pl.nx d g = h ∧ h % 2 = u % 2) by unfold isL; rw [← HH.out, ← HO.out, ← HGX.out, ← HU.out])
    obtain ⟨v, hv⟩ : ∃ v, v = Pl.nx d g := ⟨_, rfl⟩
    have HV:=hide hv
    clear hv cm
    by_cases c1 : g / 4 = o
    ·have t1 : ((g : Int) / 4 != (o : Int)) = false:=by rw [bne_eq_false_iff_eq]; omega
     have C1:=hide c1
     clear c1
     go_wp2_with fail
     refine (next_i d hd (some ⟨mb, mo, none⟩) cq m (g : Int) _ HM.out (by omega) HGM.out).mono ?_
     rintro e w3 ⟨rfl, rfl⟩
     rw [Int.toNat_natCast, ← HV.out]
     by_cases c2 : v = h
     ·have t2 : ((v : Int) != (h : Int)) = false:=by rw [bne_eq_false_iff_eq]; omega
      by_cases c3 : h % 2 = u % 2
      ·have t3 : ((h : Int) % 2 != (u : Int) % 2) = false:=by rw [bne_eq_false_iff_eq]; omega
       have E:=hide (lens_at HK8.out (HL.out.2 ⟨C1.out, by rw [← HV.out]; exact c2, c3⟩) HNO.out)
       have C2:=hide c2
       clear c2 c3
       have HGn:=hide (HG.out.keep B1.out)
       obtain ⟨mb', mo', hmb', cn⟩ := mate_at HGn.out.m hgg
       injection hmb' with hmb'
       injection hmb' with hmb1 hmb2
       subst hmb1
       subst hmb2
       have hmg:=hd.lt g hgg
       obtain ⟨up, hup⟩ : ∃ up, up = d.m g := ⟨_, rfl⟩
       rw [← hup] at cn hmg
       have HUP:=hide hup
       clear hup
       obtain ⟨p0, p1, p2, p3, p4, p5, p6, p7, p8⟩ := box8 R1.out
       go_wp2_with fail
       refine (opp_i (h : Int) _ (by omega)).mono ?_
       rintro e w4 ⟨rfl, rfl⟩
       go_wp2_with fail
       refine (opp_i (up : Int) _ (by omega)).mono ?_
       rintro e w5 ⟨rfl, rfl⟩
       go_wp2_with fail
       refine (opp_i (u : Int) _ (by omega)).mono ?_
       rintro e w6 ⟨rfl, rfl⟩
       go_wp2_with fail
       refine (opp_i (g : Int) _ (by omega)).mono ?_
       rintro e w7 ⟨rfl, rfl⟩
       have hlt:=R1.out.lt
       go_wp2
       refine bodyPost_ret (v := .tuple #[lensV d h, .bool true]) ?_ rfl ?_
       ·obtain ⟨e0, e1, e2, e3, e4, e5, e6, e7, _⟩ := box8 ((row8 R1.out rfl (.int .i64 (h : Int)) (.int .i64 (up : Int)) (.int .i64 (Pl.tn h 2 : Int)) (.int .i64 (Pl.tn up 2 : Int)) (.int .i64 (Pl.tn u 2 : Int)) (.int .i64 (g : Int)) (.int .i64 (u : Int)) (.int .i64 (Pl.tn g 2 : Int))).alloc (.cells #[.int .i64 (h : Int), .int .i64 (up : Int), .int .i64 (Pl.tn h 2 : Int), .int .i64 (Pl.tn up 2 : Int), .int .i64 (Pl.tn u 2 : Int), .int .i64 (g : Int), .int .i64 (u : Int), .int .i64 (Pl.tn g 2 : Int)] 93))
        unfold lensV
        rw [← HGX.out, ← HU.out, ← HUP.out]
        simp [results, Try.results92, go_sem, e0, e1, e2, e3, e4, e5, e6, e7]
       ·refine ⟨?_, Below.alloc (below_set8 B1.out (by omega) _ _ _ _ _ _ _ _) (below_set8 B1.out (by omega) _ _ _ _ _ _ _ _).size _⟩
        rw [E.out]
        show _ = Ending.returned (.tuple #[lensV d (lnH x y k), .bool true])
        rw [← HH.out]
      ·have t3 : ((h : Int) % 2 != (u : Int) % 2) = true:=by rw [bne_iff_ne]; omega
       have E:=hide (show ¬ isL d x y k from fun h => c3 (HL.out.1 h).2.2)
       clear c2 c3
       go_wp2_with fail
       go_roundg (gk - 1)
       case measure => have := HKG.out; have := HK8.out; omega
       case rel => exact ⟨k + 1, by have := HKG.out; have := HK8.out; omega, by go_num, find_more HNO.out E.out, B1.out, X1.out, R1.out⟩
     ·have t2 : ((v : Int) != (h : Int)) = true:=by rw [bne_iff_ne]; omega
      have E:=hide (show ¬ isL d x y k from fun h => c2 (by rw [HV.out]; exact (HL.out.1 h).2.1))
      clear c2
      go_wp2_with fail
      go_roundg (gk - 1)
      case measure => have := HKG.out; have := HK8.out; omega
      case rel => exact ⟨k + 1, by have := HKG.out; have := HK8.out; omega, by go_num, find_more HNO.out E.out, B1.out, X1.out, R1.out⟩
    ·have t1 : ((g : Int) / 4 != (o : Int)) = true:=by rw [bne_iff_ne]; omega
     have E:=hide (show ¬ isL d x y k from fun h => c1 (HL.out.1 h).1)
     clear c1
     go_wp2_with fail
     go_roundg (gk - 1)
     case measure => have := HKG.out; have := HK8.out; omega
     case rel => exact ⟨k + 1, by have := HKG.out; have := HK8.out; omega, by go_num, find_more HNO.out E.out, B1.out, X1.out, R1.out⟩
end Go.Proofs.Ytobbepmlmbbamaa
end
section
namespace Go.Proofs.Ytobbepmlmbbamaa
open Go Go.RowKit
attribute [local go_sem ↓] Go.wp_at_zero Go.wp_at_succ
def eo (d : Pl.Dg) (o : Nat) : Nat := if Pl.out d o = true then o else d.m o
def ei (d : Pl.Dg) (o : Nat) : Nat := d.m (eo d o)
def pz (d : Pl.Dg) (o : Nat) : List Value := [.int .i64 (Pl.tn (eo d o) 2 : Nat), .int .i64 (eo d o : Nat), .int .i64 (ei d o : Nat), .int .i64 (Pl.tn (ei d o) 2 : Nat)]
def zz : List Value := [.int .i64 0, .int .i64 0, .int .i64 0, .int .i64 0]
def isO (d : Pl.Dg) (o : Nat) : Bool := eo d o % 2 == 1 && ei d o % 2 == 1
def isU (d : Pl.Dg) (o : Nat) : Bool := eo d o % 2 == 0 && ei d o % 2 == 0
def th (d : Pl.Dg) (h k : Nat) : Nat := if k = 0 then h else if k = 1 then Pl.nx d h else Pl.nx d (Pl.nx d h)
def is3 (d : Pl.Dg) (h : Nat) : Prop := Pl.nx d (th d h 2) = h ∧ h / 4 ≠ th d h 1 / 4 ∧ th d h 1 / 4 ≠ th d h 2 / 4 ∧ h / 4 ≠ th d h 2 / 4
def cntO (d : Pl.Dg) (h k : Nat) : Nat := ((List.range k).filter (fun i => isO d (th d h i))).length
def cntU (d : Pl.Dg) (h k : Nat) : Nat := ((List.range k).filter (fun i => isU d (th d h i))).length
theorem cntO_s (d : Pl.Dg) (h k : Nat) : cntO d h (k + 1) = cntO d h k + if isO d (th d h k) then 1 else 0 := by
 unfold cntO; rw [List.range_succ, List.filter_append, List.length_append]; congr 1; cases hh : isO d (th d h k) <;> simp [hh]
theorem cntU_s (d : Pl.Dg) (h k : Nat) : cntU d h (k + 1) = cntU d h k + if isU d (th d h k) then 1 else 0 := by
 unfold cntU; rw [List.range_succ, List.filter_append, List.length_append]; congr 1; cases hh : isU d (th d h k) <;> simp [hh]
def isT (d : Pl.Dg) (h : Nat) : Prop := is3 d h ∧ cntO d h 3 = 1 ∧ cntU d h 3 = 1
def edg (d : Pl.Dg) (h k : Nat) : List Value := (if 0 < k then pz d (th d h 0) else zz) ++ (if 1 < k then pz d (th d h 1) else zz) ++ (if 2 < k then pz d (th d h 2) else zz)
theorem th_lt {d : Pl.Dg} (hd : Pl.Wf d) {h : Nat} (hh : h < 4 * d.n) (k : Nat) : th d h k < 4 * d.n := by
 have a : ∀ z, z < 4 * d.n → Pl.nx d z < 4 * d.n:=fun z hz => Pl.tn_lt (hd.lt z hz)
 unfold th
 split
 ·exact hh
 ·split
  ·exact a _ hh
  ·exact a _ (a _ hh)
theorem eo_lt {d : Pl.Dg} (hd : Pl.Wf d) {o : Nat} (hh : o < 4 * d.n) : eo d o < 4 * d.n := by
 unfold eo; split
 ·exact hh
 ·exact hd.lt o hh
def TriPost (d : Pl.Dg) (h : Nat) (w : World) (e : Ending) (w' : World) : Prop :=
 (is3 d h → e = .returned (.tuple #[.agg (edg d h 3).toArray, .bool (Pl.vb (isT d h))])) ∧ (¬ is3 d h → e = .returned (.tuple #[.agg (edg d h 0).toArray, .bool false])) ∧ Below w.heap.size w w'
theorem box12 {W : World} {g : Nat} {t : TypeId} {a0 a1 a2 a3 a4 a5 a6 a7 a8 a9 a10 a11 : Value} (h : Row W g t [a0, a1, a2, a3, a4, a5, a6, a7, a8, a9, a10, a11]) :
 W.cell? ⟨g, 0, none⟩ = some a0 ∧ W.cell? ⟨g, 1, none⟩ = some a1 ∧ W.cell? ⟨g, 2, none⟩ = some a2 ∧ W.cell? ⟨g, 3, none⟩ = some a3 ∧ W.cell? ⟨g, 4, none⟩ = some a4 ∧ W.cell? ⟨g, 5, none⟩ = some a5 ∧ W.cell? ⟨g, 6, none⟩ = some a6 ∧ W.cell? ⟨g, 7, none⟩ = some a7 ∧ W.cell? ⟨g, 8, none⟩ = some a8 ∧ W.cell? ⟨g, 9, none⟩ = some a9 ∧ W.cell? ⟨g, 10, none⟩ = some a10 ∧ W.cell? ⟨g, 11, none⟩ = some a11 ∧ ∀ o, W.frozen? ⟨g, o, none⟩ = false :=
 ⟨h.cell (i := 0) (by simp), h.cell (i := 1) (by simp), h.cell (i := 2) (by simp), h.cell (i := 3) (by simp), h.cell (i := 4) (by simp), h.cell (i := 5) (by simp), h.cell (i := 6) (by simp), h.cell (i := 7) (by simp), h.cell (i := 8) (by simp), h.cell (i := 9) (by simp), h.cell (i := 10) (by simp), h.cell (i := 11) (by simp), h.free⟩
theorem row12 {W : World} {g : Nat} {t : TypeId} {vs : List Value} (h : Row W g t vs) (l : vs.length = 12) (y0 y1 y2 y3 y4 y5 y6 y7 y8 y9 y10 y11 : Value) :
 Row ((((((((((((W.setCell ⟨g, 0, none⟩ y0).setCell ⟨g, 1, none⟩ y1).setCell ⟨g, 2, none⟩ y2).setCell ⟨g, 3, none⟩ y3).setCell ⟨g, 4, none⟩ y4).setCell ⟨g, 5, none⟩ y5).setCell ⟨g, 6, none⟩ y6).setCell ⟨g, 7, none⟩ y7).setCell ⟨g, 8, none⟩ y8).setCell ⟨g, 9, none⟩ y9).setCell ⟨g, 10, none⟩ y10).setCell ⟨g, 11, none⟩ y11) g t [y0, y1, y2, y3, y4, y5, y6, y7, y8, y9, y10, y11] := by
 obtain ⟨a0, a1, a2, a3, a4, a5, a6, a7, a8, a9, a10, a11, rfl⟩ : ∃ a0 a1 a2 a3 a4 a5 a6 a7 a8 a9 a10 a11, vs = [a0, a1, a2, a3, a4, a5, a6, a7, a8, a9, a10, a11] := by
  match vs, l with
  | [a0, a1, a2, a3, a4, a5, a6, a7, a8, a9, a10, a11], _ => exact ⟨_, _, _, _, _, _, _, _, _, _, _, _, rfl⟩
 exact (((((((((((h.set 0 y0).set 1 y1).set 2 y2).set 3 y3).set 4 y4).set 5 y5).set 6 y6).set 7 y7).set 8 y8).set 9 y9).set 10 y10).set 11 y11
theorem below_set12 {w W : World} {g : Nat} (h : Below w.heap.size w W) (hg : w.heap.size ≤ g) (y0 y1 y2 y3 y4 y5 y6 y7 y8 y9 y10 y11 : Value) :
 Below w.heap.size w ((((((((((((W.setCell ⟨g, 0, none⟩ y0).setCell ⟨g, 1, none⟩ y1).setCell ⟨g, 2, none⟩ y2).setCell ⟨g, 3, none⟩ y3).setCell ⟨g, 4, none⟩ y4).setCell ⟨g, 5, none⟩ y5).setCell ⟨g, 6, none⟩ y6).setCell ⟨g, 7, none⟩ y7).setCell ⟨g, 8, none⟩ y8).setCell ⟨g, 9, none⟩ y9).setCell ⟨g, 10, none⟩ y10).setCell ⟨g, 11, none⟩ y11) :=
 (((((((((((h.setCell hg _).setCell hg _).setCell hg _).setCell hg _).setCell hg _).setCell hg _).setCell hg _).setCell hg _).setCell hg _).setCell hg _).setCell hg _).setCell hg _
structure TB (w : World) (dv : List Value) (ev : List Value) (W : World) : Prop where
 d : Row W w.heap.size 24 dv
 r : Row W (w.heap.size + 1) 99 (zz ++ zz ++ zz)
 e : Row W (w.heap.size + 1 + 1) 99 ev
 bel : Below w.heap.size w W
section
variable {w W W' : World} {dv ev : List Value}
theorem TB.below (h : TB w dv ev W) (hb : Below W.heap.size W W') : TB w dv ev W' := ⟨h.d.below hb, h.r.below hb, h.e.below hb, h.bel.trans (hb.mono h.bel.size)⟩
theorem TB.set (h : TB w dv ev W) (o : Nat) (v : Value) : TB w dv (ev.set o v) (W.setCell ⟨w.heap.size + 1 + 1, o, none⟩ v) :=
 ⟨h.d.other (by show _ ≠ w.heap.size + 1 + 1; omega) v, h.r.other (by show _ ≠ w.heap.size + 1 + 1; omega) v, h.e.set o v, h.bel.setCell (by show _ ≤ w.heap.size + 1 + 1; omega) v⟩
theorem TB.start (w : World) (x0 x1 x2 : Value) : TB w [x0, x1, x2] (zz ++ zz ++ zz) (((w.alloc (.cells #[x0, x1, x2] 24)).alloc (.cells #[.int .i64 0, .int .i64 0, .int .i64 0, .int .i64 0, .int .i64 0, .int .i64 0, .int .i64 0, .int .i64 0, .int .i64 0, .int .i64 0, .int .i64 0, .int .i64 0] 99)).alloc (.cells #[.int .i64 0, .int .i64 0, .int .i64 0, .int .i64 0, .int .i64 0, .int .i64 0, .int .i64 0, .int .i64 0, .int .i64 0, .int .i64 0, .int .i64 0, .int .i64 0] 99)) :=
 ⟨((row_at (vs := [_, _, _]) rfl).alloc _).alloc _, (row_at (vs := [_, _, _, _, _, _, _, _, _, _, _, _]) (by simp)).alloc _, row_at (vs := [_, _, _, _, _, _, _, _, _, _, _, _]) (by simp), (((Below.refl _ _).alloc (Nat.le_refl _) _).alloc (by simp) _).alloc (by simp; omega) _⟩
end
set_option maxRecDepth 100000 in
set_option maxHeartbeats 4000000 in
theorem triangle_any (d : Pl.Dg) (hd : Pl.Wf d) (A B : Option Addr) (cp cq m h : Nat) (w : World) (hm : m = 4 * d.n) (hg : DgAt w A B d) (hh : h < 4 * d.n) :
 Calls Try.prog 94 #[.agg #[.slice A d.n cp, .slice B m cq, .int .i64 d.lp], .int .i64 (h : Int)] w (TriPost d h w) := by
 have hn:=hd.few
 have HM:=hide hm
 have HG:=hide hg
 have hm2 : m ≤ 256:=by omega
 clear hm hg
 have TB0:=hide (TB.start w (.slice A d.n cp) (.slice B m cq) (.int .i64 (d.lp : Int)))
 have h1:=th_lt hd hh 1
 have h2:=th_lt hd hh 2
 obtain ⟨i, hi⟩ : ∃ i, i = th d h 1 := ⟨_, rfl⟩
 obtain ⟨j, hj⟩ : ∃ j, j = th d h 2 := ⟨_, rfl⟩
 rw [← hi] at h1
 rw [← hj] at h2
 have HI:=hide (show Pl.nx d h = i by rw [hi]; rfl)
 have HJ:=hide (show Pl.nx d i = j by rw [hj, hi]; rfl)
 have IS:=hide (show is3 d h ↔ Pl.nx d j = h ∧ h / 4 ≠ i / 4 ∧ i / 4 ≠ j / 4 ∧ h / 4 ≠ j / 4 by unfold is3; rw [← hi, ← hj])
 have HTI:=hide hi
 have HTJ:=hide hj
 clear hi hj
 have ih0 : (0 : Int) ≤ (h : Int) ∧ (h : Int) < (m : Int):=by have := HM.out; omega
 have ii0 : (0 : Int) ≤ (i : Int) ∧ (i : Int) < (m : Int):=by have := HM.out; omega
 have ij0 : (0 : Int) ≤ (j : Int) ∧ (j : Int) < (m : Int):=by have := HM.out; omega
 go_enter Try.func94, Try.ntmps94
 go_wp2_with fail
 have HGM:=hide (show ∀ W, Below w.heap.size w W → IntsAt W B m (nats d.mt) from fun W hb => by rw [HM.out]; exact (HG.out.keep hb).m)
 refine (next_i d hd B cq m (h : Int) _ HM.out ih0 (HGM.out _ TB0.out.bel)).mono ?_
 rintro e w1 ⟨rfl, rfl⟩
 rw [Int.toNat_natCast, HI.out]
 go_wp2_with fail
 refine (next_i d hd B cq m (i : Int) _ HM.out ii0 (HGM.out _ TB0.out.bel)).mono ?_
 rintro e w1 ⟨rfl, rfl⟩
 rw [Int.toNat_natCast, HJ.out]
 obtain ⟨v, hv⟩ : ∃ v, v = Pl.nx d j := ⟨_, rfl⟩
 rw [← hv] at IS
 have HV:=hide hv
 clear hv
 obtain ⟨W0, hW0⟩ : ∃ W0 : World, W0 = ((w.alloc (.cells #[.slice A d.n cp, .slice B m cq, .int .i64 (d.lp : Int)] 24)).alloc (.cells #[.int .i64 0, .int .i64 0, .int .i64 0, .int .i64 0, .int .i64 0, .int .i64 0, .int .i64 0, .int .i64 0, .int .i64 0, .int .i64 0, .int .i64 0, .int .i64 0] 99)).alloc (.cells #[.int .i64 0, .int .i64 0, .int .i64 0, .int .i64 0, .int .i64 0, .int .i64 0, .int .i64 0, .int .i64 0, .int .i64 0, .int .i64 0, .int .i64 0, .int .i64 0] 99) := ⟨_, rfl⟩
 rw [← hW0] at TB0 ⊢
 clear hW0
 go_upto_region 4 with fail
 go_cut [48] (fun s48 wx => s48 = .bool (!Pl.vb (is3 d h)) ∧ wx = W0)
 case first =>
  obtain ⟨d0, d1, d2, d3⟩ := box3 TB0.out.d
  go_wp2_with fail
  refine (next_i d hd B cq m (j : Int) _ HM.out ij0 (HGM.out _ TB0.out.bel)).mono ?_
  rintro e w1 ⟨rfl, rfl⟩
  rw [Int.toNat_natCast, ← HV.out]
  by_cases c1 : v = h
  ·have t1 : ((v : Int) != (h : Int)) = false:=by rw [bne_eq_false_iff_eq]; omega
   by_cases c2 : h / 4 = i / 4
   ·have t2 : ((h : Int) / 4 == (i : Int) / 4) = true:=by rw [beq_iff_eq]; omega
    have E:=hide (Pl.vb_false (fun h => (IS.out.1 h).2.1 c2))
    clear c1 c2
    go_wp2_with fail
    go_meet
    exact ⟨by rw [E.out]; rfl, rfl⟩
   ·have t2 : ((h : Int) / 4 == (i : Int) / 4) = false:=by rw [beq_eq_false_iff_ne]; omega
    by_cases c3 : i / 4 = j / 4
    ·have t3 : ((i : Int) / 4 == (j : Int) / 4) = true:=by rw [beq_iff_eq]; omega
     have E:=hide (Pl.vb_false (fun h => (IS.out.1 h).2.2.1 c3))
     clear c1 c2 c3
     go_wp2_with fail
     go_meet
     exact ⟨by rw [E.out]; rfl, rfl⟩
    ·have t3 : ((i : Int) / 4 == (j : Int) / 4) = false:=by rw [beq_eq_false_iff_ne]; omega
     by_cases c4 : h / 4 = j / 4
     ·have t4 : ((h : Int) / 4 == (j : Int) / 4) = true:=by rw [beq_iff_eq]; omega
      have E:=hide (Pl.vb_false (fun h => (IS.out.1 h).2.2.2 c4))
      clear c1 c2 c3 c4
      go_wp2_with fail
      go_meet
      exact ⟨by rw [E.out]; rfl, rfl⟩
     ·have t4 : ((h : Int) / 4 == (j : Int) / 4) = false:=by rw [beq_eq_false_iff_ne]; omega
      have E:=hide (Pl.vb_true (IS.out.2 ⟨c1, c2, c3, c4⟩))
      clear c1 c2 c3 c4
      go_wp2_with fail
      go_meet
      exact ⟨by rw [E.out]; rfl, rfl⟩
  ·have t1 : ((v : Int) != (h : Int)) = true:=by rw [bne_iff_ne]; omega
   have E:=hide (Pl.vb_false (fun h => c1 (IS.out.1 h).1))
   clear c1
   go_wp2_with fail
   go_meet
   exact ⟨by rw [E.out]; rfl, rfl⟩
 case rest =>
  obtain ⟨rfl, rfl⟩ := hcut
  by_cases h3 : is3 d h
  ·have H3:=hide h3
   rw [Pl.vb_true h3]
   clear h3
   have HTH0:=hide (show h = th d h 0 from rfl)
   obtain ⟨d0, d1, d2, d3⟩ := box3 TB0.out.d
   go_wp2
   go_loopg [9, 10, 54] 3 (fun g s9 s10 s54 wx => ∃ k : Nat, k + g = 3 ∧ s54 = .int .i64 k ∧ s9 = .int .i64 (cntO d h k : Nat) ∧ s10 = .int .i64 (cntU d h k : Nat) ∧ TB w [.slice A d.n cp, .slice B m cq, .int .i64 (d.lp : Int)] (edg d h k) wx)
   case atStart => exact ⟨0, rfl, rfl, rfl, rfl, TB0.out⟩
   case round =>
    clear TB0 d0 d1 d2 d3
    obtain ⟨k, hkg, rfl, rfl, rfl, htb⟩ := hrel
    have HKG:=hide hkg
    have TBk:=hide htb
    clear htb
    have hk4 : k = 0 ∨ k = 1 ∨ k = 2 ∨ k = 3:=by omega
    clear hkg
    have i0 : ∀ W, (Instr.index 118 (.agg #[.int .i64 (h : Int), .int .i64 (i : Int), .int .i64 (j : Int)]) (.int .i64 0)).run Try.prog W = .ok (.int .i64 (h : Int)) W:=fun _ => by kernel_rfl
    have i1 : ∀ W, (Instr.index 118 (.agg #[.int .i64 (h : Int), .int .i64 (i : Int), .int .i64 (j : Int)]) (.int .i64 1)).run Try.prog W = .ok (.int .i64 (i : Int)) W:=fun _ => by kernel_rfl
    have i2 : ∀ W, (Instr.index 118 (.agg #[.int .i64 (h : Int), .int .i64 (i : Int), .int .i64 (j : Int)]) (.int .i64 2)).run Try.prog W = .ok (.int .i64 (j : Int)) W:=fun _ => by kernel_rfl
    rcases hk4 with rfl | rfl | rfl | rfl
    ·-- round 0
     have hO : h < 4 * d.n:=by first | exact hh | exact h1 | exact h2
     have EO:=hide (eo_lt hd hO)
     obtain ⟨d0, d1, d2, d3⟩ := box3 TBk.out.d
     go_wp2_with fail
     refine (out2_n d A B d.n cp m cq (.int .i64 (d.lp : Int)) h _ rfl hO (by omega) (HG.out.keep TBk.out.bel).s).mono ?_
     rintro e w1 ⟨rfl, hb1⟩
     have TB1:=hide (TBk.out.below hb1)
     clear hb1 d0 d1 d2 d3
     go_upto_if 61 with fail
     go_cut [12] (fun s12 wx => s12 = .int .i64 (eo d h : Nat) ∧ TB w [.slice A d.n cp, .slice B m cq, .int .i64 (d.lp : Int)] (edg d h 0) wx)
     case first =>
      cases ho : Pl.out d h with
      | true =>
        have E:=hide (show eo d h = h by unfold eo; rw [if_pos ho])
        clear ho
        go_wp2_with fail
        go_meet
        exact ⟨by rw [E.out], TB1.out⟩
      | false =>
        have E:=hide (show eo d h = d.m h by unfold eo; rw [if_neg (by rw [ho]; decide)])
        clear ho
        obtain ⟨d0, d1, d2, d3⟩ := box3 TB1.out.d
        obtain ⟨mb, mo, rfl, cm⟩ := mate_at (HG.out.keep TB1.out.bel).m hO
        have io0 : (0 : Int) ≤ (h : Int):=by omega
        have io1 : (h : Int) < (m : Int):=by have := HM.out; omega
        go_wp2_with fail
        go_meet
        exact ⟨by rw [E.out], TB1.out⟩
     case rest =>
      obtain ⟨rfl, htb⟩ := hcut
      have TB2:=hide htb
      clear htb TBk TB1
      have heo:=EO.out
      obtain ⟨e, he⟩ : ∃ e, e = eo d h := ⟨_, rfl⟩
      rw [← he] at heo ⊢
      have hei:=hd.lt e heo
      have HE:=hide he
      clear he
      obtain ⟨d0, d1, d2, d3⟩ := box3 TB2.out.d
      obtain ⟨mb, mo, rfl, cm⟩ := mate_at (HG.out.keep TB2.out.bel).m heo
      obtain ⟨u, hu⟩ : ∃ u, u = d.m e := ⟨_, rfl⟩
      rw [← hu] at cm hei
      have HU:=hide (show ei d h = u by unfold ei; rw [← HE.out, hu])
      clear hu
      have io0 : (0 : Int) ≤ (e : Int):=by omega
      have io1 : (e : Int) < (m : Int):=by have := HM.out; omega
      go_wp2_with fail
      refine (opp_i (e : Int) _ (by omega)).mono ?_
      rintro en w1 ⟨rfl, rfl⟩
      go_wp2_with fail
      refine (opp_i (u : Int) _ (by omega)).mono ?_
      rintro en w1 ⟨rfl, rfl⟩
      try rw [Int.toNat_natCast]
      have EQ:=hide (show edg d h (0 + 1) = ((((edg d h 0).set (4 * 0) (.int .i64 (Pl.tn e 2 : Nat))).set (4 * 0 + 1) (.int .i64 (e : Int))).set (4 * 0 + 2) (.int .i64 (u : Int))).set (4 * 0 + 3) (.int .i64 (Pl.tn u 2 : Nat)) by
       have hz : pz d h = [.int .i64 (Pl.tn e 2 : Nat), .int .i64 (e : Int), .int .i64 (u : Int), .int .i64 (Pl.tn u 2 : Nat)]:=by unfold pz; rw [HU.out, ← HE.out]
       simp only [edg, ← HTH0.out, ← HTI.out, ← HTJ.out, hz]
       rfl)
      have CO:=hide (show cntO d h (0 + 1) = cntO d h 0 + if isO d h then 1 else 0 by rw [cntO_s]; simp only [← HTH0.out, ← HTI.out, ← HTJ.out])
      have CU:=hide (show cntU d h (0 + 1) = cntU d h 0 + if isU d h then 1 else 0 by rw [cntU_s]; simp only [← HTH0.out, ← HTI.out, ← HTJ.out])
      have IO:=hide (show isO d h = (e % 2 == 1 && u % 2 == 1) by unfold isO; rw [HU.out, ← HE.out])
      have IU:=hide (show isU d h = (e % 2 == 0 && u % 2 == 0) by unfold isU; rw [HU.out, ← HE.out])
      obtain ⟨kO, hkO⟩ : ∃ c, c = cntO d h 0 := ⟨_, rfl⟩
      obtain ⟨kU, hkU⟩ : ∃ c, c = cntU d h 0 := ⟨_, rfl⟩
      rw [← hkO] at CO ⊢
      rw [← hkU] at CU ⊢
      have bO : kO ≤ 3:=by rw [hkO]; unfold cntO; have := List.length_filter_le (fun i => isO d (th d h i)) (List.range 0); simp at this ⊢; try omega
      have bU : kU ≤ 3:=by rw [hkU]; unfold cntU; have := List.length_filter_le (fun i => isU d (th d h i)) (List.range 0); simp at this ⊢; try omega
      clear hkO hkU
      obtain ⟨e0, e1, e2, e3, e4, e5, e6, e7, e8, e9, e10, e11, ef⟩ := box12 TB2.out.e
      by_cases q0 : e % 2 = 1 ∧ u % 2 = 1
      ·obtain ⟨qa, qb⟩ := q0
       have t1 : ((e : Int) % 2 == 1) = true:=by rw [beq_iff_eq]; omega
       have t2 : ((u : Int) % 2 == 1) = true:=by rw [beq_iff_eq]; omega
       have t3 : ((e : Int) % 2 == 0) = false:=by rw [beq_eq_false_iff_ne]; omega
       have t4 : ((u : Int) % 2 == 0) = false:=by rw [beq_eq_false_iff_ne]; omega
       have FO:=hide (show cntO d h (0 + 1) = kO + 1 by rw [CO.out, IO.out, qa, qb]; rfl)
       have FU:=hide (show cntU d h (0 + 1) = kU + 0 by rw [CU.out, IU.out, qa, qb]; rfl)
       clear qa qb
       go_wp2_with fail
       go_roundg (gk - 1)
       case measure => have := HKG.out; omega
       case rel =>
        refine ⟨0 + 1, by have := HKG.out; omega, by go_num, by rw [FO.out]; (try first | rfl | go_num), by rw [FU.out]; (try first | rfl | go_num), ?_⟩
        rw [EQ.out]
        exact (((TB2.out.set _ _).set _ _).set _ _).set _ _
      by_cases q1 : e % 2 = 1 ∧ u % 2 = 0
      ·obtain ⟨qa, qb⟩ := q1
       have t1 : ((e : Int) % 2 == 1) = true:=by rw [beq_iff_eq]; omega
       have t2 : ((u : Int) % 2 == 1) = false:=by rw [beq_eq_false_iff_ne]; omega
       have t3 : ((e : Int) % 2 == 0) = false:=by rw [beq_eq_false_iff_ne]; omega
       have t4 : ((u : Int) % 2 == 0) = true:=by rw [beq_iff_eq]; omega
       have FO:=hide (show cntO d h (0 + 1) = kO + 0 by rw [CO.out, IO.out, qa, qb]; rfl)
       have FU:=hide (show cntU d h (0 + 1) = kU + 0 by rw [CU.out, IU.out, qa, qb]; rfl)
       clear qa qb
       go_wp2_with fail
       go_roundg (gk - 1)
       case measure => have := HKG.out; omega
       case rel =>
        refine ⟨0 + 1, by have := HKG.out; omega, by go_num, by rw [FO.out]; (try first | rfl | go_num), by rw [FU.out]; (try first | rfl | go_num), ?_⟩
        rw [EQ.out]
        exact (((TB2.out.set _ _).set _ _).set _ _).set _ _
      by_cases q2 : e % 2 = 0 ∧ u % 2 = 1
      ·obtain ⟨qa, qb⟩ := q2
       have t1 : ((e : Int) % 2 == 1) = false:=by rw [beq_eq_false_iff_ne]; omega
       have t2 : ((u : Int) % 2 == 1) = true:=by rw [beq_iff_eq]; omega
       have t3 : ((e : Int) % 2 == 0) = true:=by rw [beq_iff_eq]; omega
       have t4 : ((u : Int) % 2 == 0) = false:=by rw [beq_eq_false_iff_ne]; omega
       have FO:=hide (show cntO d h (0 + 1) = kO + 0 by rw [CO.out, IO.out, qa, qb]; rfl)
       have FU:=hide (show cntU d h (0 + 1) = kU + 0 by rw [CU.out, IU.out, qa, qb]; rfl)
       clear qa qb
       go_wp2_with fail
       go_roundg (gk - 1)
       case measure => have := HKG.out; omega
       case rel =>
        refine ⟨0 + 1, by have := HKG.out; omega, by go_num, by rw [FO.out]; (try first | rfl | go_num), by rw [FU.out]; (try first | rfl | go_num), ?_⟩
        rw [EQ.out]
        exact (((TB2.out.set _ _).set _ _).set _ _).set _ _
      by_cases q3 : e % 2 = 0 ∧ u % 2 = 0
      ·obtain ⟨qa, qb⟩ := q3
       have t1 : ((e : Int) % 2 == 1) = false:=by rw [beq_eq_false_iff_ne]; omega
       have t2 : ((u : Int) % 2 == 1) = false:=by rw [beq_eq_false_iff_ne]; omega
       have t3 : ((e : Int) % 2 == 0) = true:=by rw [beq_iff_eq]; omega
       have t4 : ((u : Int) % 2 == 0) = true:=by rw [beq_iff_eq]; omega
       have FO:=hide (show cntO d h (0 + 1) = kO + 0 by rw [CO.out, IO.out, qa, qb]; rfl)
       have FU:=hide (show cntU d h (0 + 1) = kU + 1 by rw [CU.out, IU.out, qa, qb]; rfl)
       clear qa qb
       go_wp2_with fail
       go_roundg (gk - 1)
       case measure => have := HKG.out; omega
       case rel =>
        refine ⟨0 + 1, by have := HKG.out; omega, by go_num, by rw [FO.out]; (try first | rfl | go_num), by rw [FU.out]; (try first | rfl | go_num), ?_⟩
        rw [EQ.out]
        exact (((TB2.out.set _ _).set _ _).set _ _).set _ _
      exfalso; omega
    ·-- round 1
     have hO : i < 4 * d.n:=by first | exact hh | exact h1 | exact h2
     have EO:=hide (eo_lt hd hO)
     obtain ⟨d0, d1, d2, d3⟩ := box3 TBk.out.d
     go_wp2_with fail
     refine (out2_n d A B d.n cp m cq (.int .i64 (d.lp : Int)) i _ rfl hO (by omega) (HG.out.keep TBk.out.bel).s).mono ?_
     rintro e w1 ⟨rfl, hb1⟩
     have TB1:=hide (TBk.out.below hb1)
     clear hb1 d0 d1 d2 d3
     go_upto_if 61 with fail
     go_cut [12] (fun s12 wx => s12 = .int .i64 (eo d i : Nat) ∧ TB w [.slice A d.n cp, .slice B m cq, .int .i64 (d.lp : Int)] (edg d h 1) wx)
     case first =>
      cases ho : Pl.out d i with
      | true =>
        have E:=hide (show eo d i = i by unfold eo; rw [if_pos ho])
        clear ho
        go_wp2_with fail
        go_meet
        exact ⟨by rw [E.out], TB1.out⟩
      | false =>
        have E:=hide (show eo d i = d.m i by unfold eo; rw [if_neg (by rw [ho]; decide)])
        clear ho
        obtain ⟨d0, d1, d2, d3⟩ := box3 TB1.out.d
        obtain ⟨mb, mo, rfl, cm⟩ := mate_at (HG.out.keep TB1.out.bel).m hO
        have io0 : (0 : Int) ≤ (i : Int):=by omega
        have io1 : (i : Int) < (m : Int):=by have := HM.out; omega
        go_wp2_with fail
        go_meet
        exact ⟨by rw [E.out], TB1.out⟩
     case rest =>
      obtain ⟨rfl, htb⟩ := hcut
      have TB2:=hide htb
      clear htb TBk TB1
      have heo:=EO.out
      obtain ⟨e, he⟩ : ∃ e, e = eo d i := ⟨_, rfl⟩
      rw [← he] at heo ⊢
      have hei:=hd.lt e heo
      have HE:=hide he
      clear he
      obtain ⟨d0, d1, d2, d3⟩ := box3 TB2.out.d
      obtain ⟨mb, mo, rfl, cm⟩ := mate_at (HG.out.keep TB2.out.bel).m heo
      obtain ⟨u, hu⟩ : ∃ u, u = d.m e := ⟨_, rfl⟩
      rw [← hu] at cm hei
      have HU:=hide (show ei d i = u by unfold ei; rw [← HE.out, hu])
      clear hu
      have io0 : (0 : Int) ≤ (e : Int):=by omega
      have io1 : (e : Int) < (m : Int):=by have := HM.out; omega
      go_wp2_with fail
      refine (opp_i (e : Int) _ (by omega)).mono ?_
      rintro en w1 ⟨rfl, rfl⟩
      go_wp2_with fail
      refine (opp_i (u : Int) _ (by omega)).mono ?_
      rintro en w1 ⟨rfl, rfl⟩
      try rw [Int.toNat_natCast]
      have EQ:=hide (show edg d h (1 + 1) = ((((edg d h 1).set (4 * 1) (.int .i64 (Pl.tn e 2 : Nat))).set (4 * 1 + 1) (.int .i64 (e : Int))).set (4 * 1 + 2) (.int .i64 (u : Int))).set (4 * 1 + 3) (.int .i64 (Pl.tn u 2 : Nat)) by
       have hz : pz d i = [.int .i64 (Pl.tn e 2 : Nat), .int .i64 (e : Int), .int .i64 (u : Int), .int .i64 (Pl.tn u 2 : Nat)]:=by unfold pz; rw [HU.out, ← HE.out]
       simp only [edg, ← HTH0.out, ← HTI.out, ← HTJ.out, hz]
       rfl)
      have CO:=hide (show cntO d h (1 + 1) = cntO d h 1 + if isO d i then 1 else 0 by rw [cntO_s]; simp only [← HTH0.out, ← HTI.out, ← HTJ.out])
      have CU:=hide (show cntU d h (1 + 1) = cntU d h 1 + if isU d i then 1 else 0 by rw [cntU_s]; simp only [← HTH0.out, ← HTI.out, ← HTJ.out])
      have IO:=hide (show isO d i = (e % 2 == 1 && u % 2 == 1) by unfold isO; rw [HU.out, ← HE.out])
      have IU:=hide (show isU d i = (e % 2 == 0 && u % 2 == 0) by unfold isU; rw [HU.out, ← HE.out])
      obtain ⟨kO, hkO⟩ : ∃ c, c = cntO d h 1 := ⟨_, rfl⟩
      obtain ⟨kU, hkU⟩ : ∃ c, c = cntU d h 1 := ⟨_, rfl⟩
      rw [← hkO] at CO ⊢
      rw [← hkU] at CU ⊢
      have bO : kO ≤ 3:=by rw [hkO]; unfold cntO; have := List.length_filter_le (fun i => isO d (th d h i)) (List.range 1); simp at this ⊢; try omega
      have bU : kU ≤ 3:=by rw [hkU]; unfold cntU; have := List.length_filter_le (fun i => isU d (th d h i)) (List.range 1); simp at this ⊢; try omega
      clear hkO hkU
      obtain ⟨e0, e1, e2, e3, e4, e5, e6, e7, e8, e9, e10, e11, ef⟩ := box12 TB2.out.e
      by_cases q0 : e % 2 = 1 ∧ u % 2 = 1
      ·obtain ⟨qa, qb⟩ := q0
       have t1 : ((e : Int) % 2 == 1) = true:=by rw [beq_iff_eq]; omega
       have t2 : ((u : Int) % 2 == 1) = true:=by rw [beq_iff_eq]; omega
       have t3 : ((e : Int) % 2 == 0) = false:=by rw [beq_eq_false_iff_ne]; omega
       have t4 : ((u : Int) % 2 == 0) = false:=by rw [beq_eq_false_iff_ne]; omega
       have FO:=hide (show cntO d h (1 + 1) = kO + 1 by rw [CO.out, IO.out, qa, qb]; rfl)
       have FU:=hide (show cntU d h (1 + 1) = kU + 0 by rw [CU.out, IU.out, qa, qb]; rfl)
       clear qa qb
       go_wp2_with fail
       go_roundg (gk - 1)
       case measure => have := HKG.out; omega
       case rel =>
        refine ⟨1 + 1, by have := HKG.out; omega, by go_num, by rw [FO.out]; (try first | rfl | go_num), by rw [FU.out]; (try first | rfl | go_num), ?_⟩
        rw [EQ.out]
        exact (((TB2.out.set _ _).set _ _).set _ _).set _ _
      by_cases q1 : e % 2 = 1 ∧ u % 2 = 0
      ·obtain ⟨qa, qb⟩ := q1
       have t1 : ((e : Int) % 2 == 1) = true:=by rw [beq_iff_eq]; omega
       have t2 : ((u : Int) % 2 == 1) = false:=by rw [beq_eq_false_iff_ne]; omega
       have t3 : ((e : Int) % 2 == 0) = false:=by rw [beq_eq_false_iff_ne]; omega
       have t4 : ((u : Int) % 2 == 0) = true:=by rw [beq_iff_eq]; omega
       have FO:=hide (show cntO d h (1 + 1) = kO + 0 by rw [CO.out, IO.out, qa, qb]; rfl)
       have FU:=hide (show cntU d h (1 + 1) = kU + 0 by rw [CU.out, IU.out, qa, qb]; rfl)
       clear qa qb
       go_wp2_with fail
       go_roundg (gk - 1)
       case measure => have := HKG.out; omega
       case rel =>
        refine ⟨1 + 1, by have := HKG.out; omega, by go_num, by rw [FO.out]; (try first | rfl | go_num), by rw [FU.out]; (try first | rfl | go_num), ?_⟩
        rw [EQ.out]
        exact (((TB2.out.set _ _).set _ _).set _ _).set _ _
      by_cases q2 : e % 2 = 0 ∧ u % 2 = 1
      ·obtain ⟨qa, qb⟩ := q2
       have t1 : ((e : Int) % 2 == 1) = false:=by rw [beq_eq_false_iff_ne]; omega
       have t2 : ((u : Int) % 2 == 1) = true:=by rw [beq_iff_eq]; omega
       have t3 : ((e : Int) % 2 == 0) = true:=by rw [beq_iff_eq]; omega
       have t4 : ((u : Int) % 2 == 0) = false:=by rw [beq_eq_false_iff_ne]; omega
       have FO:=hide (show cntO d h (1 + 1) = kO + 0 by rw [CO.out, IO.out, qa, qb]; rfl)
       have FU:=hide (show cntU d h (1 + 1) = kU + 0 by rw [CU.out, IU.out, qa, qb]; rfl)
       clear qa qb
       go_wp2_with fail
       go_roundg (gk - 1)
       case measure => have := HKG.out; omega
       case rel =>
        refine ⟨1 + 1, by have := HKG.out; omega, by go_num, by rw [FO.out]; (try first | rfl | go_num), by rw [FU.out]; (try first | rfl | go_num), ?_⟩
        rw [EQ.out]
        exact (((TB2.out.set _ _).set _ _).set _ _).set _ _
      by_cases q3 : e % 2 = 0 ∧ u % 2 = 0
      ·obtain ⟨qa, qb⟩ := q3
       have t1 : ((e : Int) % 2 == 1) = false:=by rw [beq_eq_false_iff_ne]; omega
       have t2 : ((u : Int) % 2 == 1) = false:=by rw [beq_eq_false_iff_ne]; omega
       have t3 : ((e : Int) % 2 == 0) = true:=by rw [beq_iff_eq]; omega
       have t4 : ((u : Int) % 2 == 0) = true:=by rw [beq_iff_eq]; omega
       have FO:=hide (show cntO d h (1 + 1) = kO + 0 by rw [CO.out, IO.out, qa, qb]; rfl)
       have FU:=hide (show cntU d h (1 + 1) = kU + 1 by rw [CU.out, IU.out, qa, qb]; rfl)
       clear qa qb
       go_wp2_with fail
       go_roundg (gk - 1)
       case measure => have := HKG.out; omega
       case rel =>
        refine ⟨1 + 1, by have := HKG.out; omega, by go_num, by rw [FO.out]; (try first | rfl | go_num), by rw [FU.out]; (try first | rfl | go_num), ?_⟩
        rw [EQ.out]
        exact (((TB2.out.set _ _).set _ _).set _ _).set _ _
      exfalso; omega
    ·-- round 2
     have hO : j < 4 * d.n:=by first | exact hh | exact h1 | exact h2
     have EO:=hide (eo_lt hd hO)
     obtain ⟨d0, d1, d2, d3⟩ := box3 TBk.out.d
     go_wp2_with fail
     refine (out2_n d A B d.n cp m cq (.int .i64 (d.lp : Int)) j _ rfl hO (by omega) (HG.out.keep TBk.out.bel).s).mono ?_
     rintro e w1 ⟨rfl, hb1⟩
     have TB1:=hide (TBk.out.below hb1)
     clear hb1 d0 d1 d2 d3
     go_upto_if 61 with fail
     go_cut [12] (fun s12 wx => s12 = .int .i64 (eo d j : Nat) ∧ TB w [.slice A d.n cp, .slice B m cq, .int .i64 (d.lp : Int)] (edg d h 2) wx)
     case first =>
      cases ho : Pl.out d j with
      | true =>
        have E:=hide (show eo d j = j by unfold eo; rw [if_pos ho])
        clear ho
        go_wp2_with fail
        go_meet
        exact ⟨by rw [E.out], TB1.out⟩
      | false =>
        have E:=hide (show eo d j = d.m j by unfold eo; rw [if_neg (by rw [ho]; decide)])
        clear ho
        obtain ⟨d0, d1, d2, d3⟩ := box3 TB1.out.d
        obtain ⟨mb, mo, rfl, cm⟩ := mate_at (HG.out.keep TB1.out.bel).m hO
        have io0 : (0 : Int) ≤ (j : Int):=by omega
        have io1 : (j : Int) < (m : Int):=by have := HM.out; omega
        go_wp2_with fail
        go_meet
        exact ⟨by rw [E.out], TB1.out⟩
     case rest =>
      obtain ⟨rfl, htb⟩ := hcut
      have TB2:=hide htb
      clear htb TBk TB1
      have heo:=EO.out
      obtain ⟨e, he⟩ : ∃ e, e = eo d j := ⟨_, rfl⟩
      rw [← he] at heo ⊢
      have hei:=hd.lt e heo
      have HE:=hide he
      clear he
      obtain ⟨d0, d1, d2, d3⟩ := box3 TB2.out.d
      obtain ⟨mb, mo, rfl, cm⟩ := mate_at (HG.out.keep TB2.out.bel).m heo
      obtain ⟨u, hu⟩ : ∃ u, u = d.m e := ⟨_, rfl⟩
      rw [← hu] at cm hei
      have HU:=hide (show ei d j = u by unfold ei; rw [← HE.out, hu])
      clear hu
      have io0 : (0 : Int) ≤ (e : Int):=by omega
      have io1 : (e : Int) < (m : Int):=by have := HM.out; omega
      go_wp2_with fail
      refine (opp_i (e : Int) _ (by omega)).mono ?_
      rintro en w1 ⟨rfl, rfl⟩
      go_wp2_with fail
      refine (opp_i (u : Int) _ (by omega)).mono ?_
      rintro en w1 ⟨rfl, rfl⟩
      try rw [Int.toNat_natCast]
      have EQ:=hide (show edg d h (2 + 1) = ((((edg d h 2).set (4 * 2) (.int .i64 (Pl.tn e 2 : Nat))).set (4 * 2 + 1) (.int .i64 (e : Int))).set (4 * 2 + 2) (.int .i64 (u : Int))).set (4 * 2 + 3) (.int .i64 (Pl.tn u 2 : Nat)) by
       have hz : pz d j = [.int .i64 (Pl.tn e 2 : Nat), .int .i64 (e : Int), .int .i64 (u : Int), .int .i64 (Pl.tn u 2 : Nat)]:=by unfold pz; rw [HU.out, ← HE.out]
       simp only [edg, ← HTH0.out, ← HTI.out, ← HTJ.out, hz]
       rfl)
      have CO:=hide (show cntO d h (2 + 1) = cntO d h 2 + if isO d j then 1 else 0 by rw [cntO_s]; simp only [← HTH0.out, ← HTI.out, ← HTJ.out])
      have CU:=hide (show cntU d h (2 + 1) = cntU d h 2 + if isU d j then 1 else 0 by rw [cntU_s]; simp only [← HTH0.out, ← HTI.out, ← HTJ.out])
      have IO:=hide (show isO d j = (e % 2 == 1 && u % 2 == 1) by unfold isO; rw [HU.out, ← HE.out])
      have IU:=hide (show isU d j = (e % 2 == 0 && u % 2 == 0) by unfold isU; rw [HU.out, ← HE.out])
      obtain ⟨kO, hkO⟩ : ∃ c, c = cntO d h 2 := ⟨_, rfl⟩
      obtain ⟨kU, hkU⟩ : ∃ c, c = cntU d h 2 := ⟨_, rfl⟩
      rw [← hkO] at CO ⊢
      rw [← hkU] at CU ⊢
      have bO : kO ≤ 3:=by rw [hkO]; unfold cntO; have := List.length_filter_le (fun i => isO d (th d h i)) (List.range 2); simp at this ⊢; try omega
      have bU : kU ≤ 3:=by rw [hkU]; unfold cntU; have := List.length_filter_le (fun i => isU d (th d h i)) (List.range 2); simp at this ⊢; try omega
      clear hkO hkU
      obtain ⟨e0, e1, e2, e3, e4, e5, e6, e7, e8, e9, e10, e11, ef⟩ := box12 TB2.out.e
      by_cases q0 : e % 2 = 1 ∧ u % 2 = 1
      ·obtain ⟨qa, qb⟩ := q0
       have t1 : ((e : Int) % 2 == 1) = true:=by rw [beq_iff_eq]; omega
       have t2 : ((u : Int) % 2 == 1) = true:=by rw [beq_iff_eq]; omega
       have t3 : ((e : Int) % 2 == 0) = false:=by rw [beq_eq_false_iff_ne]; omega
       have t4 : ((u : Int) % 2 == 0) = false:=by rw [beq_eq_false_iff_ne]; omega
       have FO:=hide (show cntO d h (2 + 1) = kO + 1 by rw [CO.out, IO.out, qa, qb]; rfl)
       have FU:=hide (show cntU d h (2 + 1) = kU + 0 by rw [CU.out, IU.out, qa, qb]; rfl)
       clear qa qb
       go_wp2_with fail
       go_roundg (gk - 1)
       case measure => have := HKG.out; omega
       case rel =>
        refine ⟨2 + 1, by have := HKG.out; omega, by go_num, by rw [FO.out]; (try first | rfl | go_num), by rw [FU.out]; (try first | rfl | go_num), ?_⟩
        rw [EQ.out]
        exact (((TB2.out.set _ _).set _ _).set _ _).set _ _
      by_cases q1 : e % 2 = 1 ∧ u % 2 = 0
      ·obtain ⟨qa, qb⟩ := q1
       have t1 : ((e : Int) % 2 == 1) = true:=by rw [beq_iff_eq]; omega
       have t2 : ((u : Int) % 2 == 1) = false:=by rw [beq_eq_false_iff_ne]; omega
       have t3 : ((e : Int) % 2 == 0) = false:=by rw [beq_eq_false_iff_ne]; omega
       have t4 : ((u : Int) % 2 == 0) = true:=by rw [beq_iff_eq]; omega
       have FO:=hide (show cntO d h (2 + 1) = kO + 0 by rw [CO.out, IO.out, qa, qb]; rfl)
       have FU:=hide (show cntU d h (2 + 1) = kU + 0 by rw [CU.out, IU.out, qa, qb]; rfl)
       clear qa qb
       go_wp2_with fail
       go_roundg (gk - 1)
       case measure => have := HKG.out; omega
       case rel =>
        refine ⟨2 + 1, by have := HKG.out; omega, by go_num, by rw [FO.out]; (try first | rfl | go_num), by rw [FU.out]; (try first | rfl | go_num), ?_⟩
        rw [EQ.out]
        exact (((TB2.out.set _ _).set _ _).set _ _).set _ _
      by_cases q2 : e % 2 = 0 ∧ u % 2 = 1
      ·obtain ⟨qa, qb⟩ := q2
       have t1 : ((e : Int) % 2 == 1) = false:=by rw [beq_eq_false_iff_ne]; omega
       have t2 : ((u : Int) % 2 == 1) = true:=by rw [beq_iff_eq]; omega
       have t3 : ((e : Int) % 2 == 0) = true:=by rw [beq_iff_eq]; omega
       have t4 : ((u : Int) % 2 == 0) = false:=by rw [beq_eq_false_iff_ne]; omega
       have FO:=hide (show cntO d h (2 + 1) = kO + 0 by rw [CO.out, IO.out, qa, qb]; rfl)
       have FU:=hide (show cntU d h (2 + 1) = kU + 0 by rw [CU.out, IU.out, qa, qb]; rfl)
       clear qa qb
       go_wp2_with fail
       go_roundg (gk - 1)
       case measure => have := HKG.out; omega
       case rel =>
        refine ⟨2 + 1, by have := HKG.out; omega, by go_num, by rw [FO.out]; (try first | rfl | go_num), by rw [FU.out]; (try first | rfl | go_num), ?_⟩
        rw [EQ.out]
        exact (((TB2.out.set _ _).set _ _).set _ _).set _ _
      by_cases q3 : e % 2 = 0 ∧ u % 2 = 0
      ·obtain ⟨qa, qb⟩ := q3
       have t1 : ((e : Int) % 2 == 1) = false:=by rw [beq_eq_false_iff_ne]; omega
       have t2 : ((u : Int) % 2 == 1) = false:=by rw [beq_eq_false_iff_ne]; omega
       have t3 : ((e : Int) % 2 == 0) = true:=by rw [beq_iff_eq]; omega
       have t4 : ((u : Int) % 2 == 0) = true:=by rw [beq_iff_eq]; omega
       have FO:=hide (show cntO d h (2 + 1) = kO + 0 by rw [CO.out, IO.out, qa, qb]; rfl)
       have FU:=hide (show cntU d h (2 + 1) = kU + 1 by rw [CU.out, IU.out, qa, qb]; rfl)
       clear qa qb
       go_wp2_with fail
       go_roundg (gk - 1)
       case measure => have := HKG.out; omega
       case rel =>
        refine ⟨2 + 1, by have := HKG.out; omega, by go_num, by rw [FO.out]; (try first | rfl | go_num), by rw [FU.out]; (try first | rfl | go_num), ?_⟩
        rw [EQ.out]
        exact (((TB2.out.set _ _).set _ _).set _ _).set _ _
      exfalso; omega
    ·-- the end
     have E3:=hide (show Pl.vb (isT d h) = (decide (cntO d h 3 = 1) && decide (cntU d h 3 = 1)) by
      rw [Bool.eq_iff_iff, Pl.vb_iff]; unfold isT; simp [H3.out])
     obtain ⟨kO, hkO⟩ : ∃ c, c = cntO d h 3 := ⟨_, rfl⟩
     obtain ⟨kU, hkU⟩ : ∃ c, c = cntU d h 3 := ⟨_, rfl⟩
     rw [← hkO] at E3 ⊢
     rw [← hkU] at E3 ⊢
     clear hkO hkU
     have HTR:=hide (show ∃ a0 a1 a2 a3 a4 a5 a6 a7 a8 a9 a10 a11 : Nat, edg d h 3 = [.int .i64 (a0 : Int), .int .i64 (a1 : Int), .int .i64 (a2 : Int), .int .i64 (a3 : Int), .int .i64 (a4 : Int), .int .i64 (a5 : Int), .int .i64 (a6 : Int), .int .i64 (a7 : Int), .int .i64 (a8 : Int), .int .i64 (a9 : Int), .int .i64 (a10 : Int), .int .i64 (a11 : Int)] from ⟨_, _, _, _, _, _, _, _, _, _, _, _, rfl⟩)
     obtain ⟨a0, a1, a2, a3, a4, a5, a6, a7, a8, a9, a10, a11, hedg⟩ := HTR.out
     rw [hedg] at TBk
     have HEDG:=hide hedg
     clear hedg
     obtain ⟨r0, r1, r2, r3, r4, r5, r6, r7, r8, r9, r10, r11, rf⟩ := box12 TBk.out.r
     obtain ⟨e0, e1, e2, e3, e4, e5, e6, e7, e8, e9, e10, e11, ef⟩ := box12 TBk.out.e
     obtain ⟨bb, hbb⟩ : ∃ bb, bb = Pl.vb (isT d h) := ⟨_, rfl⟩
     rw [← hbb] at E3
     have HBB:=hide hbb
     clear hbb
     go_upto_region 19 with fail
     go_cut [5] (fun s5 wx => s5 = .bool bb ∧ ∃ W, TB w [.slice A d.n cp, .slice B m cq, .int .i64 (d.lp : Int)] [.int .i64 (a0 : Int), .int .i64 (a1 : Int), .int .i64 (a2 : Int), .int .i64 (a3 : Int), .int .i64 (a4 : Int), .int .i64 (a5 : Int), .int .i64 (a6 : Int), .int .i64 (a7 : Int), .int .i64 (a8 : Int), .int .i64 (a9 : Int), .int .i64 (a10 : Int), .int .i64 (a11 : Int)] W ∧ wx = (((((((((((((W.setCell ⟨w.heap.size + 1, 0, none⟩ (.int .i64 (a0 : Int))).setCell ⟨w.heap.size + 1, 1, none⟩ (.int .i64 (a1 : Int))).setCell ⟨w.heap.size + 1, 2, none⟩ (.int .i64 (a2 : Int))).setCell ⟨w.heap.size + 1, 3, none⟩ (.int .i64 (a3 : Int))).setCell ⟨w.heap.size + 1, 4, none⟩ (.int .i64 (a4 : Int))).setCell ⟨w.heap.size + 1, 5, none⟩ (.int .i64 (a5 : Int))).setCell ⟨w.heap.size + 1, 6, none⟩ (.int .i64 (a6 : Int))).setCell ⟨w.heap.size + 1, 7, none⟩ (.int .i64 (a7 : Int))).setCell ⟨w.heap.size + 1, 8, none⟩ (.int .i64 (a8 : Int))).setCell ⟨w.heap.size + 1, 9, none⟩ (.int .i64 (a9 : Int))).setCell ⟨w.heap.size + 1, 10, none⟩ (.int .i64 (a10 : Int))).setCell ⟨w.heap.size + 1, 11, none⟩ (.int .i64 (a11 : Int)))))
     case first =>
      by_cases c1 : kO = 1
      ·have t1 : ((kO : Int) == 1) = true:=by rw [beq_iff_eq]; omega
       by_cases c2 : kU = 1
       ·have t2 : ((kU : Int) == 1) = true:=by rw [beq_iff_eq]; omega
        have F:=hide (show bb = true by rw [E3.out]; simp [c1, c2])
        clear c1 c2
        go_wp2_with fail
        go_meet
        exact ⟨by rw [F.out], _, TBk.out, rfl⟩
       ·have t2 : ((kU : Int) == 1) = false:=by rw [beq_eq_false_iff_ne]; omega
        have F:=hide (show bb = false by rw [E3.out]; simp [c1, c2])
        clear c1 c2
        go_wp2_with fail
        go_meet
        exact ⟨by rw [F.out], _, TBk.out, rfl⟩
      ·have t1 : ((kO : Int) == 1) = false:=by rw [beq_eq_false_iff_ne]; omega
       have F:=hide (show bb = false by rw [E3.out]; simp [c1])
       clear c1
       go_wp2_with fail
       go_meet
       exact ⟨by rw [F.out], _, TBk.out, rfl⟩
     case rest =>
      obtain ⟨rfl, W, hT, rfl⟩ := hcut
      clear e0 e1 e2 e3 e4 e5 e6 e7 e8 e9 e10 e11 r0 r1 r2 r3 r4 r5 r6 r7 r8 r9 r10 r11
      go_wp2
      refine bodyPost_ret (v := .tuple #[.agg #[.int .i64 (a0 : Int), .int .i64 (a1 : Int), .int .i64 (a2 : Int), .int .i64 (a3 : Int), .int .i64 (a4 : Int), .int .i64 (a5 : Int), .int .i64 (a6 : Int), .int .i64 (a7 : Int), .int .i64 (a8 : Int), .int .i64 (a9 : Int), .int .i64 (a10 : Int), .int .i64 (a11 : Int)], .bool bb]) ?_ rfl ?_
      ·obtain ⟨r0, r1, r2, r3, r4, r5, r6, r7, r8, r9, r10, r11, rf⟩ := box12 (row12 hT.r rfl (.int .i64 (a0 : Int)) (.int .i64 (a1 : Int)) (.int .i64 (a2 : Int)) (.int .i64 (a3 : Int)) (.int .i64 (a4 : Int)) (.int .i64 (a5 : Int)) (.int .i64 (a6 : Int)) (.int .i64 (a7 : Int)) (.int .i64 (a8 : Int)) (.int .i64 (a9 : Int)) (.int .i64 (a10 : Int)) (.int .i64 (a11 : Int)))
       simp [results, Try.results94, go_sem, r0, r1, r2, r3, r4, r5, r6, r7, r8, r9, r10, r11]
      ·exact ⟨fun _ => by rw [HEDG.out, ← HBB.out], fun h => absurd H3.out h, below_set12 hT.bel (by omega) _ _ _ _ _ _ _ _ _ _ _ _⟩
  ·have H3:=hide h3
   rw [Pl.vb_false h3]
   clear h3
   obtain ⟨r0, r1, r2, r3, r4, r5, r6, r7, r8, r9, r10, r11, rf⟩ := box12 TB0.out.r
   obtain ⟨e0, e1, e2, e3, e4, e5, e6, e7, e8, e9, e10, e11, ef⟩ := box12 TB0.out.e
   go_wp2
   refine bodyPost_ret (v := .tuple #[.agg (edg d h 0).toArray, .bool false]) ?_ rfl ?_
   ·obtain ⟨r0, r1, r2, r3, r4, r5, r6, r7, r8, r9, r10, r11, rf⟩ := box12 (row12 TB0.out.r rfl (.int .i64 0) (.int .i64 0) (.int .i64 0) (.int .i64 0) (.int .i64 0) (.int .i64 0) (.int .i64 0) (.int .i64 0) (.int .i64 0) (.int .i64 0) (.int .i64 0) (.int .i64 0))
    clear e0 e1 e2 e3 e4 e5 e6 e7 e8 e9 e10 e11
    show _ = Result.ok (Value.tuple #[Value.agg #[.int .i64 0, .int .i64 0, .int .i64 0, .int .i64 0, .int .i64 0, .int .i64 0, .int .i64 0, .int .i64 0, .int .i64 0, .int .i64 0, .int .i64 0, .int .i64 0], .bool false]) _
    simp [results, Try.results94, go_sem, r0, r1, r2, r3, r4, r5, r6, r7, r8, r9, r10, r11]
   ·exact ⟨fun h => absurd h H3.out, fun _ => rfl, below_set12 TB0.out.bel (by omega) _ _ _ _ _ _ _ _ _ _ _ _⟩
end Go.Proofs.Ytobbepmlmbbamaa
end
