/-
 The texts Bf, Bg, Bh, Trf, Bi, Bm, Bmr, Open in one.
-/
import Derived.Test.YtcaoblilkgajoaaDoorG12
import Derived.Lib.SmallJoins
import Derived.Lib.AtoiAllCases
import Derived.Deep.DeepCutAuto
import Derived.Test.YtcaoblilkgajoaaDoorG14
import Derived.Deep.RegionHeld3
import Derived.Test.YtcaoblilkgajoaaDoorRows
import Derived.Stop.LaidErr
import Derived.Lib.LaidTab
import Derived.Test.YtcaoblilkgajoaaDoorG13
import Derived.Test.YtcaoblilkgajoaaDoorG00
import Derived.ProofKit
import Derived.OpenShut
import Derived.Deep.Slices
import Derived.Deep.Fields
import Derived.ChangeSame
set_option linter.unusedVariables false
set_option linter.unusedSimpArgs false
section
namespace Go.Proofs.YtcaoblilkgajoaaDoor
open Go Go.RowKit
attribute [local go_sem ↓] Go.wp_at_zero Go.wp_at_succ
theorem below_itoa (w : World) (k : Nat) (os : Array Obj) : Below w.heap.size w («Sort».grow (w.drewN k) os) := by
 refine ⟨rfl, rfl, rfl, ?_, fun j hj => ?_⟩
 ·show w.heap.size ≤ (w.heap ++ os).size
  rw [Array.size_append]; omega
 ·show (w.heap ++ os)[j]? = w.heap[j]?
  rw [Array.getElem?_append_left hj]
/-- What the library's variables hold. -/
structure GV (W : World) : Prop where
 m : ∃ m, W.cell? ⟨0, 0, none⟩ = some (.int .i64 m)
 tab : Lib.TabIs Tryd.prog W "internal/strconv.uint64pow10" .u64 Lib.pow10Tab
 e1 : ∃ ev, W.cell? ⟨1, 0, none⟩ = some ev ∧ (ev = .nilIface ∨ ∃ te pe, ev = .iface te pe)
 e2 : ∃ ev, W.cell? ⟨2, 0, none⟩ = some ev ∧ (ev = .nilIface ∨ ∃ te pe, ev = .iface te pe)
theorem GV.below {W W' : World} (h : GV W) (hb : Below W.heap.size W W') : GV W' := by
 obtain ⟨m, hm⟩ := h.m
 obtain ⟨v1, h1, h1'⟩ := h.e1
 obtain ⟨v2, h2, h2'⟩ := h.e2
 exact ⟨⟨m, cell_below hm hb⟩, Joins.tab_stays (g := 3) (by kernel_rfl) h.tab hb (Nat.le_refl _), ⟨v1, cell_below h1 hb, h1'⟩, ⟨v2, cell_below h2 hb, h2'⟩⟩
/-- The number that a text is read as, and whether it is that number's text. -/
def numV (l : List UInt8) : Int := match Lib.atoiAll l with
 | .ok v => v
 | .syntax => 0
 | .range => Lib.atoiSat l
def numB (l : List UInt8) : Bool := match Lib.atoiAll l with
 | .ok v => Lib.itoa v == l
 | _ => false
set_option maxRecDepth 100000 in
set_option maxHeartbeats 2000000 in
theorem bnum_any (s : ByteArray) (hs : s.size ≤ 100000) (w : World) (hg : GV w) :
 Calls Tryd.prog 45 #[.string s] w fun e w' => e = .returned (.tuple #[.int .i64 (numV s.data.toList), .bool (numB s.data.toList)]) ∧ Below w.heap.size w w' := by
 have HG := hide hg
 clear hg
 match he : Lib.atoiAll s.data.toList with
 | .ok v =>
   have HE := hide he
   have hb := Lib.atoiAll_bounds he
   obtain ⟨hb1, hb2⟩ := hb
   clear he
   go_enter Tryd.func45, Tryd.ntmps45
   go_wp2_with fail
   refine (Tryd.strconv_Atoi_ok s (by omega) v HE.out _).mono ?_
   rintro e w1 ⟨rfl, hw⟩
   have B1 := hide (show Below w.heap.size w w1 by
    rcases hw with rfl | ⟨t, rfl⟩
    ·exact Below.refl _ _
    ·exact Joins.below_bytesWorld _ _ _ _ (Nat.le_refl _))
   clear hw
   go_wp2_with fail
   refine (Tryd.strconv_Itoa v hb1 hb2 _ (HG.out.below B1.out).tab).mono ?_
   rintro e w2 ⟨rfl, k, os, rfl⟩
   have B2 := hide (B1.out.trans ((below_itoa w1 k os).mono B1.out.size))
   have HN := hide (show numV s.data.toList = v ∧ numB s.data.toList = (Lib.itoa v == s.data.toList) by unfold numV numB; rw [HE.out]; exact ⟨rfl, rfl⟩)
   go_wp2
   go_ret2
   exact ⟨by rw [HN.out.1, HN.out.2, ← ByteArray.toList_eq]; rfl, B2.out⟩
 | .syntax =>
   have HE := hide he
   have HN := hide (show numV s.data.toList = 0 ∧ numB s.data.toList = false by unfold numV numB; rw [he]; exact ⟨rfl, rfl⟩)
   clear he
   obtain ⟨ev, h1, h2⟩ := HG.out.e1
   go_enter Tryd.func45, Tryd.ntmps45
   go_wp2_with fail
   refine (Tryd.strconv_Atoi_syntax s (by omega) HE.out ev _ h1 h2).mono ?_
   rintro e w1 ⟨N, rfl, hN, hc, hb⟩
   have B1 := hide hb
   clear hN hc hb h1 h2
   go_wp2
   go_ret2
   exact ⟨by rw [HN.out.1, HN.out.2]; rfl, B1.out⟩
 | .range =>
   have HE := hide he
   have HN := hide (show numV s.data.toList = Lib.atoiSat s.data.toList ∧ numB s.data.toList = false by unfold numV numB; rw [he]; exact ⟨rfl, rfl⟩)
   clear he
   obtain ⟨ev, h1, h2⟩ := HG.out.e2
   go_enter Tryd.func45, Tryd.ntmps45
   go_wp2_with fail
   refine (Tryd.strconv_Atoi_range s (by omega) HE.out ev _ h1 h2).mono ?_
   rintro e w1 ⟨N, rfl, hN, hc, hb⟩
   have B1 := hide hb
   clear hN hc hb h1 h2
   go_wp2
   go_ret2
   exact ⟨by rw [HN.out.1, HN.out.2]; rfl, B1.out⟩
end Go.Proofs.YtcaoblilkgajoaaDoor
end
section
namespace Go.Proofs.YtcaoblilkgajoaaDoor
open Go Go.RowKit
attribute [local go_sem ↓] Go.wp_at_zero Go.wp_at_succ
/-- How long the first word is. -/
def tokN (r : List UInt8) : Nat := if Lib.indexByte r 32 < 0 then r.length else (Lib.indexByte r 32).toNat
def rdR (l : List UInt8) : List UInt8 := Lib.trimPrefix l [32]
def rdTok (l : List UInt8) : List UInt8 := (rdR l).take (tokN (rdR l))
def rdRest (l : List UInt8) : List UInt8 := (rdR l).drop (tokN (rdR l))
def rdOk (l : List UInt8) : Bool := Lib.hasPrefix l [32] && numB (rdTok l)
theorem indexByte_le (c : UInt8) : ∀ l : List UInt8, Lib.indexByte l c ≤ l.length
 | [] => by simp [Lib.indexByte]
 | b :: l => by
   have := indexByte_le c l
   unfold Lib.indexByte
   split
   ·simp; omega
   ·split <;> simp <;> omega
theorem tokN_le (r : List UInt8) : tokN r ≤ r.length := by
 unfold tokN
 have := indexByte_le 32 r
 split <;> omega
/-- The boxes of Parse. -/
structure PB (base : Nat) (w : World) (gt gb : Nat) (s : ByteArray) (st : Int) (vS : Value) (ws : List Int) (W : World) : Prop where
 t : Row W gt 9 [.string s]
 b : Row W gb 24 [.int .i64 st, vS]
 own : W.ownsRow base 3 1 vS ws.length (ws.map (.int .i64))
 lt : w.heap.size ≤ gt ∧ gt < base
 lb : w.heap.size ≤ gb ∧ gb < base
 ne : gt ≠ gb
 bel : Below w.heap.size w W
 big : base ≤ W.heap.size
section
variable {base : Nat} {w W W' : World} {gt gb : Nat} {s : ByteArray} {st : Int} {vS : Value} {ws : List Int}
theorem PB.below (h : PB base w gt gb s st vS ws W) (hb : Below W.heap.size W W') : PB base w gt gb s st vS ws W' :=
 ⟨h.t.below hb, h.b.below hb, own_below h.own hb, h.lt, h.lb, h.ne, h.bel.trans (hb.mono h.bel.size), Nat.le_trans h.big hb.size⟩
theorem PB.app (h : PB base w gt gb s st vS ws W) {g c : Nat} {x : Int} (own : W'.ownsRow base 3 1 (.slice (some ⟨g, 0, none⟩) (ws.length + 1) c) (ws.length + 1) (ws.map (.int .i64) ++ [.int .i64 x])) (gr : W.grownBy W' vS.ownBlock) :
 PB base w gt gb s st (.slice (some ⟨g, 0, none⟩) (ws.length + 1) c) (ws ++ [x]) (W'.setCell ⟨gb, 1, none⟩ (.slice (some ⟨g, 0, none⟩) (ws.length + 1) c)) := by
 have ne : ∀ k, k < base → some k ≠ vS.ownBlock := fun k hk e => by
  have h1 := (h.own.lt _ e.symm).1
  omega
 have h2 := h.lb
 have hb : Below w.heap.size w W' := h.bel.grown gr h.bel.size (fun k hk => by have := (h.own.lt k hk).1; omega)
 have hbig : base ≤ W'.heap.size := Nat.le_trans h.big gr.size
 refine ⟨(h.t.grown gr (ne _ h.lt.2)).other (show _ ≠ gb from h.ne) _, (h.b.grown gr (ne _ h.lb.2)).set 1 _, ?_, h.lt, h.lb, h.ne, hb.setCell (by show _ ≤ gb; omega) _, by simpa using hbig⟩
 have e1 : (ws ++ [x]).length = ws.length + 1 := by simp
 rw [e1, List.map_append]
 exact ownsRow_setCell_below own (by show gb < base; omega) _
theorem PB.tail (h : PB base w gt gb s st vS ws W) (s' : ByteArray) : PB base w gt gb s' st vS ws (W.setCell ⟨gt, 0, none⟩ (.string s')) := by
 have h2 := h.lt
 exact ⟨h.t.set 0 (.string s'), h.b.other (show _ ≠ gt from fun e => h.ne e.symm) _, ownsRow_setCell_below h.own (by show gt < base; omega) _, h.lt, h.lb, h.ne, h.bel.setCell (by show _ ≤ gt; omega) _, by simpa using h.big⟩
end
/-- What the closure answers. -/
def ReadPost (base : Nat) (w : World) (gt gb : Nat) (s : ByteArray) (st : Int) (ws : List Int) (e : Ending) (w' : World) : Prop :=
 e = .returned (.bool (rdOk s.data.toList)) ∧ ∃ (s' : ByteArray) (vS : Value), s'.data.toList = rdRest s.data.toList ∧ PB base w gt gb s' st vS (ws ++ [numV (rdTok s.data.toList)]) w'
set_option maxRecDepth 100000 in
set_option maxHeartbeats 2000000 in
theorem bread_any {base : Nat} {w W : World} {gt gb : Nat} {s : ByteArray} {st : Int} {vS : Value} {ws : List Int} (h : PB base w gt gb s st vS ws W) (hs : s.size ≤ 70000) (hl : ws.length ≤ 70000) (hg : GV w) :
 Calls Tryd.prog 46 #[.pointer (some ⟨gt, 0, none⟩), .pointer (some ⟨gb, 0, none⟩)] W (ReadPost base w gt gb s st ws) := by
 have H := hide h
 have HG := hide hg
 have t0 := h.t.cell (i := 0) (by simp)
 simp only [List.getElem_cons_zero] at t0
 clear h hg
 go_enter Tryd.func46, Tryd.ntmps46
 go_wp2_with fail
 refine (Tryd.strings_CutPrefix s ⟨#[32]⟩ _).mono ?_
 rintro e w1 ⟨rfl, rfl⟩
 obtain ⟨r, hr⟩ : ∃ r : ByteArray, r = ⟨(Lib.trimPrefix s.data.toList (⟨#[32]⟩ : ByteArray).data.toList).toArray⟩ := ⟨_, rfl⟩
 obtain ⟨sp, hsp⟩ : ∃ b : Bool, b = Lib.hasPrefix s.data.toList (⟨#[32]⟩ : ByteArray).data.toList := ⟨_, rfl⟩
 rw [← hr, ← hsp]
 have HR := hide (show r.data.toList = rdR s.data.toList by rw [hr]; rfl)
 have HSP := hide (show sp = Lib.hasPrefix s.data.toList [32] from hsp)
 have hrs : r.size ≤ 70000 := by
  have h1 : r.size = (rdR s.data.toList).length := by rw [Lib.size_eq, HR.out]
  have h2 : (rdR s.data.toList).length ≤ s.data.toList.length := by unfold rdR Lib.trimPrefix; split <;> simp
  have h3 := Lib.size_eq s
  omega
 clear hr hsp
 go_wp2_with fail
 refine (Tryd.strings_IndexByte r 32 _).mono ?_
 rintro e w2 ⟨rfl, rfl⟩
 obtain ⟨x, hx⟩ : ∃ x, x = Lib.indexByte r.data.toList (32 : Int).toNat.toUInt8 := ⟨_, rfl⟩
 rw [← hx]
 have HX := hide (show x = Lib.indexByte (rdR s.data.toList) 32 by rw [hx, HR.out]; rfl)
 have HSZ := hide (show r.size = (rdR s.data.toList).length by rw [Lib.size_eq, HR.out])
 clear hx
 have hrs0 : r.size ≤ 9223372036854775807 := by omega
 have hcase : (x < 0 ∧ r.size = tokN (rdR s.data.toList)) ∨ ∃ k : Nat, x = (k : Int) ∧ k = tokN (rdR s.data.toList) := by
  rcases Int.lt_or_le x 0 with hx0 | hx0
  ·exact .inl ⟨hx0, by unfold tokN; rw [if_pos (by rw [← HX.out]; exact hx0), HSZ.out]⟩
  ·obtain ⟨k, rfl⟩ := Int.eq_ofNat_of_zero_le hx0
   exact .inr ⟨k, rfl, by unfold tokN; rw [if_neg (by rw [← HX.out]; omega), ← HX.out]; rfl⟩
 rcases hcase with ⟨hx0, hF⟩ | ⟨n, rfl, hF⟩
 ·have HN := hide hF
  clear hF
  go_upto_region 5 with fail
  obtain ⟨n, hn⟩ : ∃ n, n = r.size := ⟨_, rfl⟩
  rw [← hn] at HN ⊢
  have hnr : n ≤ r.size := by omega
  clear hn hx0
  have hnr1 : (n : Int) ≤ (r.size : Int) := by omega
  have hn0 : (0 : Int) ≤ (n : Int) := by omega
  go_wp2_with fail
  have HT := hide (show (r.extract 0 n).data.toList = rdTok s.data.toList by
   rw [ByteArray.data_extract, Array.toList_extract, HR.out, HN.out]
   simp [rdTok])
  have HRE := hide (show (r.extract n r.size).data.toList = rdRest s.data.toList by
   rw [Lib.extract_to_end, HR.out, HN.out]
   rfl)
  refine (bnum_any (r.extract 0 n) (by simp; omega) _ (HG.out.below H.out.bel)).mono ?_
  rintro e w3 ⟨rfl, hb3⟩
  rw [HT.out]
  have K1 := hide (H.out.below hb3)
  obtain ⟨nv, hnv⟩ : ∃ x, x = numV (rdTok s.data.toList) := ⟨_, rfl⟩
  obtain ⟨nb, hnb⟩ : ∃ x, x = numB (rdTok s.data.toList) := ⟨_, rfl⟩
  rw [← hnv, ← hnb]
  have HNV := hide hnv
  have HNB := hide (show rdOk s.data.toList = (sp && nb) by rw [hnb, HSP.out]; rfl)
  clear hb3 hnv hnb t0
  obtain ⟨A4, c4, rfl⟩ := owns_slice K1.out.own
  obtain ⟨i0, hi0, hz0, hz1, hz2⟩ := info_parts intInfo
  have KA := hide (K1.out.below ((Below.refl w3.heap.size w3).alloc (Nat.le_refl _) (.cells #[.int .i64 nv] 3)))
  obtain ⟨b0, b1, b2⟩ := box2b K1.out.b
  have hgw : gb < w3.heap.size := K1.out.b.lt
  go_upto_region 7 with (at_builtin; refine wpList_append_lies _ (by rfl) _ _ 22 (by rfl) base 3 i0 (.int .i64 0) 1 8 Tryd.underlying22 hi0 hz0 hz1 hz2 rfl (by omega) _ ws.length _ (by rfl) KA.out.own ⟨w3.heap.size, 0, none⟩ 1 1 [.int .i64 nv] (by rfl) (by rfl) (one_news _ _) (by simp [Value.oneCell']) (by omega) (by unfold maxLen; omega) (by omega) KA.out.big (w3.heap.size + 1) (by simp) ?_; intro g3 c3 w4 own3 grow3 at3 lt3; obtain ⟨e0, e1, e2⟩ := box2b (KA.out.b.grown grow3 (fun e => by have h1 := (KA.out.own.lt _ e.symm).1; have h2 := KA.out.lb.2; omega)); have K2 := hide (KA.out.app own3 grow3); clear own3 grow3 at3)
  obtain ⟨V3, hV3⟩ : ∃ V, V = w4.setCell ⟨gb, 1, none⟩ (.slice (some ⟨g3, 0, none⟩) (ws.length + 1) c3) := ⟨_, rfl⟩
  rw [← hV3] at K2 ⊢
  clear hV3 KA lt3 b0 b1 b2 e0 e1 e2 hgw K1
  have t0 := K2.out.t.cell (i := 0) (by simp)
  have f0 := K2.out.t.free
  simp only [List.getElem_cons_zero] at t0
  have HF := hide (show ReadPost base w gt gb s st ws (.returned (.bool (sp && nb))) (V3.setCell ⟨gt, 0, none⟩ (.string (r.extract n r.size))) from
   ⟨by rw [HNB.out], r.extract n r.size, _, HRE.out, by rw [← HNV.out]; exact K2.out.tail _⟩)
  cases sp with
  | true =>
    go_wp2
    go_ret
    exact HF.out
  | false =>
    go_wp2
    go_ret
    exact HF.out
 ·have HN := hide hF
  have hnr : n ≤ r.size := by rw [hF, HSZ.out]; exact tokN_le _
  have hk0 : ¬ ((n : Int) < 0) := by omega
  clear hF
  go_upto_region 5 with fail
  clear hk0
  have hnr1 : (n : Int) ≤ (r.size : Int) := by omega
  have hn0 : (0 : Int) ≤ (n : Int) := by omega
  go_wp2_with fail
  have HT := hide (show (r.extract 0 n).data.toList = rdTok s.data.toList by
   rw [ByteArray.data_extract, Array.toList_extract, HR.out, HN.out]
   simp [rdTok])
  have HRE := hide (show (r.extract n r.size).data.toList = rdRest s.data.toList by
   rw [Lib.extract_to_end, HR.out, HN.out]
   rfl)
  refine (bnum_any (r.extract 0 n) (by simp; omega) _ (HG.out.below H.out.bel)).mono ?_
  rintro e w3 ⟨rfl, hb3⟩
  rw [HT.out]
  have K1 := hide (H.out.below hb3)
  obtain ⟨nv, hnv⟩ : ∃ x, x = numV (rdTok s.data.toList) := ⟨_, rfl⟩
  obtain ⟨nb, hnb⟩ : ∃ x, x = numB (rdTok s.data.toList) := ⟨_, rfl⟩
  rw [← hnv, ← hnb]
  have HNV := hide hnv
  have HNB := hide (show rdOk s.data.toList = (sp && nb) by rw [hnb, HSP.out]; rfl)
  clear hb3 hnv hnb t0
  obtain ⟨A4, c4, rfl⟩ := owns_slice K1.out.own
  obtain ⟨i0, hi0, hz0, hz1, hz2⟩ := info_parts intInfo
  have KA := hide (K1.out.below ((Below.refl w3.heap.size w3).alloc (Nat.le_refl _) (.cells #[.int .i64 nv] 3)))
  obtain ⟨b0, b1, b2⟩ := box2b K1.out.b
  have hgw : gb < w3.heap.size := K1.out.b.lt
  go_upto_region 7 with (at_builtin; refine wpList_append_lies _ (by rfl) _ _ 22 (by rfl) base 3 i0 (.int .i64 0) 1 8 Tryd.underlying22 hi0 hz0 hz1 hz2 rfl (by omega) _ ws.length _ (by rfl) KA.out.own ⟨w3.heap.size, 0, none⟩ 1 1 [.int .i64 nv] (by rfl) (by rfl) (one_news _ _) (by simp [Value.oneCell']) (by omega) (by unfold maxLen; omega) (by omega) KA.out.big (w3.heap.size + 1) (by simp) ?_; intro g3 c3 w4 own3 grow3 at3 lt3; obtain ⟨e0, e1, e2⟩ := box2b (KA.out.b.grown grow3 (fun e => by have h1 := (KA.out.own.lt _ e.symm).1; have h2 := KA.out.lb.2; omega)); have K2 := hide (KA.out.app own3 grow3); clear own3 grow3 at3)
  obtain ⟨V3, hV3⟩ : ∃ V, V = w4.setCell ⟨gb, 1, none⟩ (.slice (some ⟨g3, 0, none⟩) (ws.length + 1) c3) := ⟨_, rfl⟩
  rw [← hV3] at K2 ⊢
  clear hV3 KA lt3 b0 b1 b2 e0 e1 e2 hgw K1
  have t0 := K2.out.t.cell (i := 0) (by simp)
  have f0 := K2.out.t.free
  simp only [List.getElem_cons_zero] at t0
  have HF := hide (show ReadPost base w gt gb s st ws (.returned (.bool (sp && nb))) (V3.setCell ⟨gt, 0, none⟩ (.string (r.extract n r.size))) from
   ⟨by rw [HNB.out], r.extract n r.size, _, HRE.out, by rw [← HNV.out]; exact K2.out.tail _⟩)
  cases sp with
  | true =>
    go_wp2
    go_ret
    exact HF.out
  | false =>
    go_wp2
    go_ret
    exact HF.out
end Go.Proofs.YtcaoblilkgajoaaDoor
end
section
namespace Go.Proofs.YtcaoblilkgajoaaDoor
open Go Go.RowKit
attribute [local go_sem ↓] Go.wp_at_zero Go.wp_at_succ
theorem rdOk_form {l : List UInt8} (h : rdOk l = true) : ∃ r, l = 32 :: r ∧ rdR l = r := by
 unfold rdOk at h
 rw [Bool.and_eq_true] at h
 have h1 := h.1
 unfold Lib.hasPrefix at h1
 cases l with
 | nil => simp at h1
 | cons a r =>
   have ha : a = 32 := by
    simp [List.isPrefixOf] at h1
    exact h1.symm
   subst ha
   refine ⟨r, rfl, ?_⟩
   unfold rdR Lib.trimPrefix
   rw [if_pos h.1]
   rfl
theorem rdRest_lt {l : List UInt8} (h : rdOk l = true) : (rdRest l).length < l.length := by
 obtain ⟨r, e, e2⟩ := rdOk_form h
 unfold rdRest
 rw [e2, List.length_drop, e]
 simp
 omega
/-- The letters of a text. -/
def prW : Nat → List UInt8 → List Int → Option (List Int)
 | 0, _, _ => none
 | k + 1, l, ws => if l = [] then some ws else if rdOk l = true then prW k (rdRest l) (ws ++ [numV (rdTok l)]) else none
theorem prW_fuel : ∀ (k j : Nat) (l : List UInt8) (ws : List Int), l.length < k → l.length < j → prW k l ws = prW j l ws
 | 0, _, _, _, h, _ => by omega
 | _, 0, _, _, _, h => by omega
 | k + 1, j + 1, l, ws, h1, h2 => by
   unfold prW
   by_cases hl : l = []
   ·rw [if_pos hl, if_pos hl]
   ·rw [if_neg hl, if_neg hl]
    by_cases ho : rdOk l = true
    ·have := rdRest_lt ho
     rw [if_pos ho, if_pos ho]
     exact prW_fuel k j _ _ (by omega) (by omega)
    ·rw [if_neg ho, if_neg ho]
def prA (l : List UInt8) (ws : List Int) : Option (List Int) := prW (l.length + 1) l ws
theorem prA_nil (ws : List Int) : prA [] ws = some ws := rfl
theorem prA_step {l : List UInt8} {ws : List Int} (h : l ≠ []) (ho : rdOk l = true) : prA l ws = prA (rdRest l) (ws ++ [numV (rdTok l)]) := by
 have := rdRest_lt ho
 unfold prA
 rw [show prW (l.length + 1) l ws = prW l.length (rdRest l) (ws ++ [numV (rdTok l)]) by
  conv => lhs; unfold prW
  rw [if_neg h, if_pos ho]]
 exact prW_fuel _ _ _ _ (by omega) (by omega)
theorem prA_bad {l : List UInt8} {ws : List Int} (h : l ≠ []) (ho : ¬ rdOk l = true) : prA l ws = none := by
 unfold prA
 unfold prW
 rw [if_neg h, if_neg ho]
/-- The braid of a text. -/
def parseR (l : List UInt8) : Option (Int × List Int) :=
 if (Lib.cut l [58]).2.2 = true ∧ numB (Lib.cut l [58]).1 = true then (prA (Lib.cut l [58]).2.1 []).map (fun ws => (numV (Lib.cut l [58]).1, ws)) else none
def brErr (c : Int) : Ending := .returned (.tuple #[.agg #[.int .i64 0, .slice none 0 0], .int .i64 c])
def ParsePost (l : List UInt8) (w : World) (e : Ending) (w' : World) : Prop :=
 (parseR l = none → e = brErr 3) ∧ (∀ st ws, parseR l = some (st, ws) → (¬ Pl.BV st ws → e = brErr 1) ∧ (Pl.BV st ws → ∃ (A : Option Addr) (c : Nat), e = .returned (.tuple #[.agg #[.int .i64 st, .slice A ws.length c], .int .i64 0]) ∧ IntsAt w' A ws.length ws)) ∧ Below w.heap.size w w'
theorem cut_len (l : List UInt8) : (Lib.cut l [58]).1.length ≤ l.length ∧ (Lib.cut l [58]).2.1.length ≤ l.length := by
 unfold Lib.cut
 split
 ·refine ⟨?_, ?_⟩
  ·rw [List.length_take]; exact Nat.min_le_right _ _
  ·rw [List.length_drop]; omega
 ·simp
theorem parse_err3 {l : List UInt8} {w W' : World} (h : parseR l = none) (hb : Below w.heap.size w W') : ParsePost l w (brErr 3) W' :=
 ⟨fun _ => rfl, fun st ws e => (by rw [h] at e; cases e), hb⟩
set_option maxRecDepth 100000 in
set_option maxHeartbeats 4000000 in
theorem parse_any (s : ByteArray) (hs : s.size ≤ 65536) (w : World) (hg : GV w) (hw : 0 < w.heap.size) :
 Calls Tryd.prog 18 #[.string s] w (ParsePost s.data.toList w) := by
 have HG := hide hg
 have R0 := hide (row_at (W := w) (g := w.heap.size) (t := 24) (vs := [.int .i64 0, .slice none 0 0]) rfl)
 have B0 := hide (show Below w.heap.size w (w.alloc (.cells #[.int .i64 0, .slice none 0 0] 24)) from (Below.refl _ _).alloc (Nat.le_refl _) _)
 have hs1 : ¬ ((65536 : Int) < (s.size : Int)) := by omega
 obtain ⟨mv, hmv⟩ := (HG.out.below B0.out).m
 clear hg
 go_enter Tryd.func18, Tryd.ntmps18
 go_wp2_with fail
 refine (Tryd.strings_Cut s ⟨#[58]⟩ mv _ (by omega) hmv).mono ?_
 rintro e w1 ⟨rfl, nd, rfl⟩
 obtain ⟨cc, hcc⟩ : ∃ c, c = Lib.cut s.data.toList (⟨#[58]⟩ : ByteArray).data.toList := ⟨_, rfl⟩
 rw [← hcc]
 have HCC := hide (show cc = Lib.cut s.data.toList [58] from hcc)
 have hcl := cut_len s.data.toList
 rw [← HCC.out, ← Lib.size_eq] at hcl
 obtain ⟨hcl1, hcl2⟩ := hcl
 clear hcc hmv
 obtain ⟨hd, tl, fd⟩ := cc
 obtain ⟨hs, hhs⟩ : ∃ x : ByteArray, x = ⟨hd.toArray⟩ := ⟨_, rfl⟩
 obtain ⟨ts, hts⟩ : ∃ x : ByteArray, x = ⟨tl.toArray⟩ := ⟨_, rfl⟩
 have HHS := hide (show hs.data.toList = hd by rw [hhs])
 have HTS := hide (show ts.data.toList = tl by rw [hts])
 have hhs1 : hs.size ≤ 65536 := by rw [Lib.size_eq, HHS.out]; simp at hcl1; omega
 have hts1 : ts.size ≤ 65536 := by rw [Lib.size_eq, HTS.out]; simp at hcl2; omega
 simp only []
 rw [← hhs, ← hts]
 clear hhs hts
 obtain ⟨V1, hV1⟩ : ∃ V, V = (w.alloc (.cells #[.int .i64 0, .slice none 0 0] 24)).drewN nd := ⟨_, rfl⟩
 have R1 := hide (show Row V1 w.heap.size 24 [.int .i64 0, .slice none 0 0] by rw [hV1]; exact R0.out.below (below_drewN (Below.refl _ _) _))
 have B1 := hide (show Below w.heap.size w V1 by rw [hV1]; exact below_drewN B0.out _)
 rw [← hV1]
 clear hV1 R0 B0
 have T1 := hide (row_at (W := V1) (g := V1.heap.size) (t := 9) (vs := [.string ts]) rfl)
 have C1' := hide (show Below V1.heap.size V1 (V1.alloc (.cells #[.string ts] 9)) from (Below.refl _ _).alloc (Nat.le_refl _) _)
 have hV1w : w.heap.size < V1.heap.size := R1.out.lt
 go_wp2_with fail
 refine (bnum_any hs (by omega) _ (HG.out.below (B1.out.trans (C1'.out.mono B1.out.size)))).mono ?_
 rintro e w2 ⟨rfl, hb2⟩
 rw [HHS.out]
 have R2 := hide (R1.out.below (C1'.out.trans (hb2.mono C1'.out.size)))
 have T2 := hide (T1.out.below hb2)
 have B2 := hide (C1'.out.trans (hb2.mono C1'.out.size))
 obtain ⟨gt, hgt⟩ : ∃ g, g = V1.heap.size := ⟨_, rfl⟩
 rw [← hgt] at T2 ⊢
 have HGT := hide hgt
 obtain ⟨nv, hnv⟩ : ∃ x, x = numV hd := ⟨_, rfl⟩
 obtain ⟨nb, hnb⟩ : ∃ x, x = numB hd := ⟨_, rfl⟩
 rw [← hnv, ← hnb]
 have HPR := hide (show parseR s.data.toList = if fd = true ∧ nb = true then (prA tl []).map (fun ws => (nv, ws)) else none by
  unfold parseR
  rw [← HCC.out, hnb, hnv])
 have BW := hide (B1.out.trans (B2.out.mono B1.out.size))
 obtain ⟨t0, t1, t2⟩ := box2b ((R2.out.set 0 (.int .i64 0)).set 1 (.slice none 0 0))
 obtain ⟨r0, r1, r2⟩ := box2b R2.out
 clear hgt hnv hnb hb2 T1 C1'
 by_cases hok : fd = true ∧ nb = true
 ·obtain ⟨rfl, rfl⟩ := hok
  go_upto_region 8 with fail
  obtain ⟨gb, hgb⟩ : ∃ g, g = w2.heap.size := ⟨_, rfl⟩
  obtain ⟨base, hbase⟩ : ∃ g, g = w2.heap.size + 1 := ⟨_, rfl⟩
  obtain ⟨V3, hV3⟩ : ∃ V, V = w2.alloc (.cells #[.int .i64 nv, .slice none 0 0] 24) := ⟨_, rfl⟩
  have P0 := hide (show PB base V1 gt gb ts nv (.slice none 0 0) [] V3 from by
   have h1 := T2.out.lt
   have h2 := B2.out.size
   have h3 := HGT.out
   rw [hV3, hgb, hbase]
   exact ⟨T2.out.alloc _, row_at rfl, World.ownsRow_nil _ _ _ _, ⟨by omega, by omega⟩, ⟨by omega, by omega⟩, by omega, B2.out.alloc h2 _, by simp⟩)
  rw [← hgb, ← hV3]
  clear hgb hbase hV3 t0 t1 t2 r0 r1 r2 T2
  go_wp2_with fail
  go_loopg [3] tl.length (fun g s3 wx => s3 = .int .i64 0 ∧ ∃ (s' : ByteArray) (vS : Value) (ws : List Int), PB base V1 gt gb s' nv vS ws wx ∧ s'.data.toList.length ≤ g ∧ ws.length + s'.data.toList.length ≤ 65536 ∧ prA tl [] = prA s'.data.toList ws)
  case atStart => exact ⟨rfl, ts, _, [], P0.out, by rw [HTS.out]; exact Nat.le_refl _, by rw [HTS.out]; have := hcl2; simp at this ⊢; omega, by rw [HTS.out]⟩
  case round =>
   clear P0
   obtain ⟨rfl, s', vS, ws, hp, hlen, hlw, hpa⟩ := hrel
   have P1 := hide hp
   have HPA := hide hpa
   clear hp hpa
   have c0 := P1.out.t.cell (i := 0) (by simp)
   simp only [List.getElem_cons_zero] at c0
   have R3 := hide (R1.out.below P1.out.bel)
   have B3 := hide (B1.out.trans (P1.out.bel.mono B1.out.size))
   by_cases hl : s'.data.toList = []
   ·have hem : s'.toList.isEmpty = true := by rw [ByteArray.toList_eq, hl]; rfl
    have HRS := hide (show parseR s.data.toList = some (nv, ws) by rw [HPR.out, if_pos (by simp), HPA.out, hl, prA_nil]; rfl)
    clear hl
    obtain ⟨A4, c4, rfl⟩ := owns_slice P1.out.own
    obtain ⟨b0, b1, b2⟩ := box2b P1.out.b
    go_wp2_with fail
    refine (bvalid_any nv ws A4 ws.length c4 _ (own_rowT P1.out.own).row (by unfold maxLen; omega)).mono ?_
    rintro e w4 ⟨rfl, hb4⟩
    have P4 := hide (P1.out.below hb4)
    have R4 := hide (R3.out.below hb4)
    have B4 := hide (B3.out.trans (hb4.mono B3.out.size))
    clear hb4 c0 b0 b1 b2 P1 R3 B3
    obtain ⟨b0, b1, b2⟩ := box2b P4.out.b
    obtain ⟨r0, r1, r2⟩ := box2b R4.out
    by_cases hv : Pl.BV nv ws
    ·rw [Pl.vb_true hv]
     have HV := hide hv
     clear hv
     obtain ⟨t0, t1, t2⟩ := box2b ((R4.out.set 0 (.int .i64 nv)).set 1 (.slice A4 ws.length c4))
     have hgb1 : w.heap.size < base := by have h1 := P4.out.lb; omega
     go_wp2
     refine bodyPost_ret (v := .tuple #[.agg #[.int .i64 nv, .slice A4 ws.length c4], .int .i64 0]) (by simp [results, Tryd.results18, go_sem, t0, t1]) rfl ?_
     refine ⟨fun h => (by rw [HRS.out] at h; cases h), fun st ws' h => ?_, (B4.out.setCell (by show _ ≤ w.heap.size; omega) _).setCell (by show _ ≤ w.heap.size; omega) _⟩
     rw [HRS.out] at h
     obtain ⟨rfl, rfl⟩ : nv = st ∧ ws = ws' := by simpa using h
     exact ⟨fun h => absurd HV.out h, fun _ => ⟨A4, c4, rfl, (own_rowT (ownsRow_setCell_below (ownsRow_setCell_below P4.out.own (by show w.heap.size < base; omega) _) (by show w.heap.size < base; omega) _)).row⟩⟩
    ·rw [Pl.vb_false hv]
     have HV := hide hv
     clear hv
     obtain ⟨t0, t1, t2⟩ := box2b ((R4.out.set 0 (.int .i64 0)).set 1 (.slice none 0 0))
     go_wp2
     refine bodyPost_ret (v := .tuple #[.agg #[.int .i64 0, .slice none 0 0], .int .i64 1]) (by simp [results, Tryd.results18, go_sem, t0, t1]) rfl ?_
     refine ⟨fun h => (by rw [HRS.out] at h; cases h), fun st ws' h => ?_, (B4.out.setCell (by show _ ≤ w.heap.size; omega) _).setCell (by show _ ≤ w.heap.size; omega) _⟩
     rw [HRS.out] at h
     obtain ⟨rfl, rfl⟩ : nv = st ∧ ws = ws' := by simpa using h
     exact ⟨fun _ => rfl, fun h => absurd h HV.out⟩
   ·have hem : s'.toList.isEmpty = false := by
     rw [ByteArray.toList_eq]
     cases h : s'.data.toList with
     | nil => exact absurd h hl
     | cons a r => rfl
    have HLN := hide hl
    have hpos : 0 < s'.data.toList.length := List.length_pos_iff.2 hl
    have hsz : s'.size ≤ 70000 := by rw [Lib.size_eq]; omega
    clear hl
    go_wp2_with fail
    refine (bread_any P1.out hsz (by omega) (HG.out.below B1.out)).mono ?_
    rintro e w3 ⟨rfl, s2, vS2, hs2, hp2⟩
    have P2 := hide hp2
    have HS2 := hide hs2
    have R4 := hide (R1.out.below P2.out.bel)
    have B4 := hide (B1.out.trans (P2.out.bel.mono B1.out.size))
    clear hp2 hs2 c0 P1 R3 B3 hem
    obtain ⟨ok, hok⟩ : ∃ b, b = rdOk s'.data.toList := ⟨_, rfl⟩
    rw [← hok]
    have HOK := hide hok
    clear hok
    cases ok with
    | true =>
      have HLT := hide (rdRest_lt HOK.out.symm)
      have HST := hide (prA_step (ws := ws) HLN.out HOK.out.symm)
      go_wp2
      go_roundg (gk - 1)
      case measure => omega
      case rel => exact ⟨rfl, s2, vS2, _, P2.out, by rw [HS2.out]; have := HLT.out; omega, by rw [HS2.out]; have := HLT.out; simp; omega, by rw [HPA.out, HST.out, HS2.out]⟩
    | false =>
      have HRN := hide (show parseR s.data.toList = none by rw [HPR.out, if_pos (by simp), HPA.out, prA_bad HLN.out (by rw [← HOK.out]; decide)]; rfl)
      obtain ⟨r0, r1, r2⟩ := box2b R4.out
      obtain ⟨t0, t1, t2⟩ := box2b ((R4.out.set 0 (.int .i64 0)).set 1 (.slice none 0 0))
      go_wp2
      refine bodyPost_ret (v := .tuple #[.agg #[.int .i64 0, .slice none 0 0], .int .i64 3]) (by simp [results, Tryd.results18, go_sem, t0, t1]) rfl ?_
      exact parse_err3 HRN.out ((B4.out.setCell (by show _ ≤ w.heap.size; omega) _).setCell (by show _ ≤ w.heap.size; omega) _)
 ·have HN := hide (show parseR s.data.toList = none by rw [HPR.out, if_neg hok])
  have hfb : fd = false ∨ (fd = true ∧ nb = false) := by
   cases fd
   ·exact .inl rfl
   ·cases nb
    ·exact .inr ⟨rfl, rfl⟩
    ·exact absurd ⟨rfl, rfl⟩ hok
  clear hok
  rcases hfb with rfl | ⟨rfl, rfl⟩
  ·go_wp2
   refine bodyPost_ret (v := .tuple #[.agg #[.int .i64 0, .slice none 0 0], .int .i64 3]) (by simp [results, Tryd.results18, go_sem, t0, t1]) rfl ?_
   exact parse_err3 HN.out ((BW.out.setCell (by show _ ≤ w.heap.size; omega) _).setCell (by show _ ≤ w.heap.size; omega) _)
  ·go_wp2
   refine bodyPost_ret (v := .tuple #[.agg #[.int .i64 0, .slice none 0 0], .int .i64 3]) (by simp [results, Tryd.results18, go_sem, t0, t1]) rfl ?_
   exact parse_err3 HN.out ((BW.out.setCell (by show _ ≤ w.heap.size; omega) _).setCell (by show _ ≤ w.heap.size; omega) _)
end Go.Proofs.YtcaoblilkgajoaaDoor
end
section
namespace Go.Proofs.YtcaoblilkgajoaaDoor.Pl
def tref : Dg := ⟨[1, 1, 1], [9, 4, 7, 10, 1, 8, 11, 2, 5, 0, 3, 6], 0⟩
theorem tref_is : clD 2 [1, 1, 1] = tref := by decide
theorem tref_n : tref.n = 3 := rfl
theorem tref_wf : Wf tref := by
 refine ⟨by decide, by decide, by decide, ?_, ?_, ?_, ?_, ?_⟩
 ·show ∀ c, c < 3 → tref.s c = 1 ∨ tref.s c = -1
  decide
 ·show ∀ h, h < 12 → tref.m h < 12
  decide
 ·show ∀ h, h < 12 → tref.m h ≠ h
  decide
 ·show ∀ h, h < 12 → tref.m (tref.m h) = h
  decide
 ·show ∀ h, h < 12 → out tref h ≠ out tref (tref.m h)
  decide
theorem it_period {f : Nat → Nat} {h p : Nat} (hp : 0 < p) (e : it f p h = h) (hl : ∀ k, k < p → h ≤ it f k h) : ∀ k, h ≤ it f k h := by
 intro k
 induction k using Nat.strongRecOn with
 | _ k ih =>
   by_cases hk : k < p
   ·exact hl k hk
   ·have := ih (k - p) (by omega)
    rw [show k = (k - p) + p by omega, it_add, e]
    exact this
theorem tref_least : ∀ h, h < 12 → (Least (nx tref) h ↔ h = 0 ∨ h = 1 ∨ h = 2 ∨ h = 3 ∨ h = 5) := by
 intro h hh
 have yes3 : ∀ h, it (nx tref) 3 h = h → h ≤ it (nx tref) 1 h → h ≤ it (nx tref) 2 h → Least (nx tref) h := fun h e a b => it_period (by omega) e (fun k hk => by
  match k, hk with
  | 0, _ => exact Nat.le_refl _
  | 1, _ => exact a
  | 2, _ => exact b)
 have yes2 : ∀ h, it (nx tref) 2 h = h → h ≤ it (nx tref) 1 h → Least (nx tref) h := fun h e a => it_period (by omega) e (fun k hk => by
  match k, hk with
  | 0, _ => exact Nat.le_refl _
  | 1, _ => exact a)
 match h, hh with
 | 0, _ => exact ⟨fun _ => by omega, fun _ => yes3 0 (by decide) (by decide) (by decide)⟩
 | 1, _ => exact ⟨fun _ => by omega, fun _ => yes2 1 (by decide) (by decide)⟩
 | 2, _ => exact ⟨fun _ => by omega, fun _ => yes3 2 (by decide) (by decide) (by decide)⟩
 | 3, _ => exact ⟨fun _ => by omega, fun _ => yes2 3 (by decide) (by decide)⟩
 | 4, _ => exact ⟨fun l => absurd (l 1) (by decide), fun e => by omega⟩
 | 5, _ => exact ⟨fun _ => by omega, fun _ => yes2 5 (by decide) (by decide)⟩
 | 6, _ => exact ⟨fun l => absurd (l 2) (by decide), fun e => by omega⟩
 | 7, _ => exact ⟨fun l => absurd (l 1) (by decide), fun e => by omega⟩
 | 8, _ => exact ⟨fun l => absurd (l 1) (by decide), fun e => by omega⟩
 | 9, _ => exact ⟨fun l => absurd (l 1) (by decide), fun e => by omega⟩
 | 10, _ => exact ⟨fun l => absurd (l 1) (by decide), fun e => by omega⟩
 | 11, _ => exact ⟨fun l => absurd (l 1) (by decide), fun e => by omega⟩
 | n + 12, h => omega
theorem tref_nb {c : Nat} (hc : c < 3) : Comp tref c ((c + 1) % 3) := by
 have key : ∀ c, c < 3 → ∃ t, t < 12 ∧ t / 4 = c ∧ tref.m t / 4 = (c + 1) % 3 := by
  intro c hc
  match c, hc with
  | 0, _ => exact ⟨1, by decide, by decide, by decide⟩
  | 1, _ => exact ⟨5, by decide, by decide, by decide⟩
  | 2, _ => exact ⟨9, by decide, by decide, by decide⟩
 obtain ⟨t, h1, h2, h3⟩ := key c hc
 have h := (con_comp tref_wf (g := t) (h := tref.m t) (by rw [tref_n]; omega) (tref_wf.lt t (by rw [tref_n]; omega))).1 (Con.right Con.refl)
 rw [h2, h3] at h
 exact h
theorem tref_con {a b : Nat} (ha : a < 3) (hb : b < 3) : Comp tref a b := by
 have s : ∀ c, c < 3 → Comp tref c ((c + 1) % 3) := fun c hc => tref_nb hc
 have h01 : Comp tref 0 1 := s 0 (by omega)
 have h12 : Comp tref 1 2 := s 1 (by omega)
 have h20 : Comp tref 2 0 := s 2 (by omega)
 match a, b, ha, hb with
 | 0, 0, _, _ => exact h01.trans (h12.trans h20)
 | 0, 1, _, _ => exact h01
 | 0, 2, _, _ => exact h01.trans h12
 | 1, 0, _, _ => exact h12.trans h20
 | 1, 1, _, _ => exact h12.trans (h20.trans h01)
 | 1, 2, _, _ => exact h12
 | 2, 0, _, _ => exact h20
 | 2, 1, _, _ => exact h20.trans h01
 | 2, 2, _, _ => exact h20.trans (h01.trans h12)
theorem cnt_iff {p q : Nat → Prop} : ∀ n, (∀ h, h < n → (p h ↔ q h)) → cnt p n = cnt q n
 | 0, _ => rfl
 | n + 1, h => by
   have ih := cnt_iff (p := p) (q := q) n (fun k hk => h k (by omega))
   have e := h n (by omega)
   unfold cnt
   rw [ih]
   by_cases hq : q n
   ·rw [if_pos hq, if_pos (e.2 hq)]
   ·rw [if_neg hq, if_neg (fun hp => hq (e.1 hp))]
theorem tref_ok : Valid tref := by
 refine ⟨tref_wf, fun c hc => ?_⟩
 have hc3 : c < 3 := hc
 have e1 : cnt (fun h => Least (nx tref) h ∧ Comp tref c (h / 4)) (4 * tref.n) = cnt (fun h => h = 0 ∨ h = 1 ∨ h = 2 ∨ h = 3 ∨ h = 5) 12 :=
  cnt_iff 12 (fun h hh => ⟨fun e => (tref_least h hh).1 e.1, fun e => ⟨(tref_least h hh).2 e, tref_con hc3 (by omega)⟩⟩)
 have e2 : cnt (fun b => Comp tref c b) tref.n = cnt (fun _ => True) 3 := cnt_iff 3 (fun b hb => ⟨fun _ => trivial, fun _ => tref_con hc3 hb⟩)
 rw [e1, e2]
 simp [cnt]
end Go.Proofs.YtcaoblilkgajoaaDoor.Pl
end
section
namespace Go.Proofs.YtcaoblilkgajoaaDoor
open Go Go.RowKit
attribute [local go_sem ↓] Go.wp_at_zero Go.wp_at_succ
theorem two_rowsT (W : World) : let V := (W.alloc (.cells #[.int .i64 1, .int .i64 1, .int .i64 1] 3)).alloc (.cells #[.int .i64 9, .int .i64 4, .int .i64 7, .int .i64 10, .int .i64 1, .int .i64 8, .int .i64 11, .int .i64 2, .int .i64 5, .int .i64 0, .int .i64 3, .int .i64 6] 3); Row V W.heap.size 3 [.int .i64 1, .int .i64 1, .int .i64 1] ∧ Row V (W.heap.size + 1) 3 [.int .i64 9, .int .i64 4, .int .i64 7, .int .i64 10, .int .i64 1, .int .i64 8, .int .i64 11, .int .i64 2, .int .i64 5, .int .i64 0, .int .i64 3, .int .i64 6] := by
 refine ⟨(row_at (vs := [.int .i64 1, .int .i64 1, .int .i64 1]) rfl).alloc _, row_at (vs := [.int .i64 9, .int .i64 4, .int .i64 7, .int .i64 10, .int .i64 1, .int .i64 8, .int .i64 11, .int .i64 2, .int .i64 5, .int .i64 0, .int .i64 3, .int .i64 6]) (by simp)⟩
def TrefPost (w : World) (e : Ending) (w' : World) : Prop :=
 ∃ (A B : Option Addr) (c d : Nat), e = .returned (.agg #[.slice A Pl.tref.n c, .slice B 12 d, .int .i64 (Pl.tref.lp : Int)]) ∧ DgAt w' A B Pl.tref ∧ Below w.heap.size w w'
set_option maxRecDepth 100000 in
set_option maxHeartbeats 2000000 in
theorem trefoil_any (w : World) : Calls Tryd.prog 35 #[] w (TrefPost w) := by
 have R0 := hide (row_at (W := w) (g := w.heap.size) (t := 28) (vs := [.slice none 0 0, .slice none 0 0, .int .i64 0]) rfl)
 obtain ⟨d0, d1, d2, d3⟩ := box3 R0.out
 go_enter Tryd.func35, Tryd.ntmps35
 go_wp2
 obtain ⟨V, hV⟩ : ∃ V, V = w.alloc (.cells #[.slice (some ⟨w.heap.size + 1, 0, none⟩) 3 3, .slice (some ⟨w.heap.size + 1 + 1, 0, none⟩) 12 12, .int .i64 0] 28) := ⟨_, rfl⟩
 have hs : V.heap.size = w.heap.size + 1 := by rw [hV]; simp
 have hB : Below w.heap.size w V := by rw [hV]; exact (Below.refl _ _).alloc (Nat.le_refl _) _
 have hR : Row V w.heap.size 28 [.slice (some ⟨w.heap.size + 1, 0, none⟩) 3 3, .slice (some ⟨w.heap.size + 1 + 1, 0, none⟩) 12 12, .int .i64 0] := by rw [hV]; exact row_at rfl
 obtain ⟨h1, h2⟩ := two_rowsT V
 rw [hs] at h1 h2
 rw [← hV]
 obtain ⟨t0, t1, t2, _⟩ := box3 ((hR.alloc (.cells #[.int .i64 1, .int .i64 1, .int .i64 1] 3)).alloc (.cells #[.int .i64 9, .int .i64 4, .int .i64 7, .int .i64 10, .int .i64 1, .int .i64 8, .int .i64 11, .int .i64 2, .int .i64 5, .int .i64 0, .int .i64 3, .int .i64 6] 3))
 refine bodyPost_ret (v := .agg #[.slice (some ⟨w.heap.size + 1, 0, none⟩) 3 3, .slice (some ⟨w.heap.size + 1 + 1, 0, none⟩) 12 12, .int .i64 0]) (by simp [results, Tryd.results35, go_sem, t0, t1, t2]) rfl ?_
 refine ⟨some ⟨w.heap.size + 1, 0, none⟩, some ⟨w.heap.size + 1 + 1, 0, none⟩, 3, 12, rfl, ⟨?_, ?_⟩, (hB.alloc hB.size _).alloc (by simp; have := hB.size; omega) _⟩
 ·exact IRow.ints (zs := [1, 1, 1]) h1
 ·exact IRow.ints (zs := [9, 4, 7, 10, 1, 8, 11, 2, 5, 0, 3, 6]) h2
theorem parse_eg : parseR [50, 58, 32, 49, 32, 49, 32, 49] = some (2, [1, 1, 1]) := by decide +kernel
theorem bv_eg : Pl.BV 2 [1, 1, 1] := ⟨by decide, by decide, by decide, by decide⟩
theorem bv_eg2 : Pl.BV 3 [1, 2] := ⟨by decide, by decide, by decide, by decide⟩
theorem pm_eg : Pl.pmR 3 [1, 2] = [2, 0, 1] := by decide
set_option maxRecDepth 100000 in
set_option maxHeartbeats 4000000 in
theorem awake33 (w : World) (hg : GV w) (hw : 0 < w.heap.size) : Calls Tryd.prog 10 #[] w fun e w' => e = .returned (.bool true) ∧ Below w.heap.size w w' := by
 have HG := hide hg
 clear hg
 go_enter Tryd.func10, Tryd.ntmps10
 go_wp2_with fail
 refine (parse_any ⟨#[50, 58, 32, 49, 32, 49, 32, 49]⟩ (by decide) _ HG.out hw).mono ?_
 rintro e w1 ⟨_, hp, hb1⟩
 obtain ⟨A1, c1, rfl, hI1⟩ := (hp 2 [1, 1, 1] parse_eg).2 bv_eg
 have HI1 := hide hI1
 have B1 := hide hb1
 clear hp hI1 hb1
 have X1 := hide (row_at (W := w1) (g := w1.heap.size) (t := 24) (vs := [.int .i64 2, .slice A1 3 c1]) rfl)
 have C1' := hide (show Below w1.heap.size w1 (w1.alloc (.cells #[.int .i64 2, .slice A1 3 c1] 24)) from (Below.refl _ _).alloc (Nat.le_refl _) _)
 obtain ⟨d0, d1, d2⟩ := box2b X1.out
 go_wp2_with fail
 refine (closure_any 2 [1, 1, 1] A1 3 c1 _ (HI1.out.keep C1'.out) (by omega)).mono ?_
 rintro e w2 ⟨_, hp, hb2⟩
 obtain ⟨S2, M2, c2, rfl, hD2⟩ := hp bv_eg
 rw [show (2 : Int).toNat = 2 from rfl, Pl.tref_is] at hD2 ⊢
 have B2 := hide (B1.out.trans ((C1'.out.trans (hb2.mono C1'.out.size)).mono B1.out.size))
 have D2 := hide hD2
 clear hp hD2 hb2 d0 d1 d2 X1 C1' HI1
 go_wp2_with fail
 obtain ⟨V3, hV3⟩ : ∃ V, V = (w2.alloc (.cells #[.slice S2 3 c2, .slice M2 12 12, .int .i64 (Pl.tref.lp : Int)] 28)).alloc (.cells #[.int .i64 1, .int .i64 2] 3) := ⟨_, rfl⟩
 have X3 := hide (show Row V3 w2.heap.size 28 [.slice S2 3 c2, .slice M2 12 12, .int .i64 (Pl.tref.lp : Int)] by rw [hV3]; exact (row_at rfl).alloc _)
 have hI3r := hide (show IntsAt V3 (some ⟨w2.heap.size + 1, 0, none⟩) 2 [1, 2] by
  rw [hV3]
  exact IRow.ints (zs := [1, 2]) (row_at (vs := [.int .i64 1, .int .i64 2]) (by simp)))
 have C3 := hide (show Below w2.heap.size w2 V3 by rw [hV3]; exact ((Below.refl _ _).alloc (Nat.le_refl _) _).alloc (by simp) _)
 rw [← hV3]
 clear hV3
 refine (perm_any 3 [1, 2] (some ⟨w2.heap.size + 1, 0, none⟩) 2 2 _ hI3r.out (by unfold maxLen; omega)).mono ?_
 rintro e w4 ⟨_, hp, hb4⟩
 obtain ⟨g, hg, rfl, hr⟩ := hp bv_eg2
 rw [show (3 : Int).toNat = 3 from rfl] at hr ⊢
 rw [pm_eg] at hr
 have X4 := hide (X3.out.below hb4)
 have hP4r := hide hr
 have B4 := hide (B2.out.trans ((C3.out.trans (hb4.mono C3.out.size)).mono B2.out.size))
 have D4 := hide (D2.out.keep (C3.out.trans (hb4.mono C3.out.size)))
 clear hp hg hr hb4 X3 hI3r C3 B2 D2
 have hXDr := hide (X4.out.below (Below.refl w4.heap.size w4).drew)
 have hPDr := hide (show IRow w4.drew g (nats [2, 0, 1]) from Row.below hP4r.out (Below.refl w4.heap.size w4).drew)
 have hBDr := hide B4.out.drew
 have hDDr := hide (D4.out.keep (Below.refl w4.heap.size w4).drew)
 have q0 := IRow.cell hP4r.out (i := 0) (by decide)
 have q1 := IRow.cell hP4r.out (i := 1) (by decide)
 have q2 := IRow.cell hP4r.out (i := 2) (by decide)
 rw [show Pl.pv (nats [2, 0, 1]) 0 = 2 from rfl] at q0
 rw [show Pl.pv (nats [2, 0, 1]) 1 = 0 from rfl] at q1
 rw [show Pl.pv (nats [2, 0, 1]) 2 = 1 from rfl] at q2
 obtain ⟨d0, d1, d2, d3⟩ := box3 X4.out
 have HV := hide Pl.tref_ok
 have HVB := hide (show Pl.vb (∃ σ, Pl.Iso Pl.tref Pl.tref σ) = true from Pl.vb_true ⟨_, Pl.Iso.refl Pl.tref⟩)
 go_upto_region 4 with fail
 go_region_held3 (fun w' => w'.cell? ⟨w2.heap.size, 0, none⟩ = some (.slice S2 3 c2) ∧ w'.cell? ⟨w2.heap.size, 1, none⟩ = some (.slice M2 12 12) ∧ w'.cell? ⟨w2.heap.size, 2, none⟩ = some (.int .i64 (Pl.tref.lp : Int)) ∧ w'.cell? ⟨g, 0, none⟩ = some (.int .i64 2) ∧ w'.cell? ⟨g, 1, none⟩ = some (.int .i64 0) ∧ w'.cell? ⟨g, 2, none⟩ = some (.int .i64 1))
  (first | go_keep | assumption | (exact ⟨k0, k1, k2, p0, p1, p2⟩))
  (first
  | (go_at_call 17
     have hx := hb5
     refine Calls.mono (same_yes Pl.tref Pl.tref HV.out HV.out (by decide) (by decide) S2 M2 A5 B5 c2 12 12 c5 e5 12 _ rfl (hDDr.out.keep hx) rfl hD5) ?_
     rintro e w6 ⟨rfl, hb6⟩
     rw [HVB.out]
     obtain ⟨k0, k1, k2, k3⟩ := box3 ((hXDr.out.below hx).below hb6)
     have hP6 : IRow w6 g (nats [2, 0, 1]) := Row.below (Row.below hPDr.out hx) hb6
     have p0 := IRow.cell hP6 (i := 0) (by decide)
     have p1 := IRow.cell hP6 (i := 1) (by decide)
     have p2 := IRow.cell hP6 (i := 2) (by decide)
     rw [show Pl.pv (nats [2, 0, 1]) 0 = 2 from rfl] at p0
     rw [show Pl.pv (nats [2, 0, 1]) 1 = 0 from rfl] at p1
     rw [show Pl.pv (nats [2, 0, 1]) 2 = 1 from rfl] at p2
     have HF := hide (hBDr.out.trans ((hx.trans (hb6.mono hx.size)).mono hBDr.out.size)))
  | (go_at_call 35
     refine Calls.mono (trefoil_any _) ?_
     rintro e w5 ⟨A5, B5, c5, e5, rfl, hD5, hb5⟩
     obtain ⟨k0, k1, k2, k3⟩ := box3 (hXDr.out.below hb5)
     have hP5 : IRow w5 g (nats [2, 0, 1]) := Row.below hPDr.out hb5
     have p0 := IRow.cell hP5 (i := 0) (by decide)
     have p1 := IRow.cell hP5 (i := 1) (by decide)
     have p2 := IRow.cell hP5 (i := 2) (by decide)
     rw [show Pl.pv (nats [2, 0, 1]) 0 = 2 from rfl] at p0
     rw [show Pl.pv (nats [2, 0, 1]) 1 = 0 from rfl] at p1
     rw [show Pl.pv (nats [2, 0, 1]) 2 = 1 from rfl] at p2))
 all_goals (go_wp2_with fail)
 all_goals (go_ret; exact ⟨rfl, HF.out⟩)
end Go.Proofs.YtcaoblilkgajoaaDoor
end
section
namespace Go.Proofs.YtcaoblilkgajoaaDoor
open Go Go.RowKit
theorem star_err : "*" ++ "errors.errorString" = "*errors.errorString" := by decide
theorem row_err (u : TypeId) (h : Tryd.prog.typeName? 3 u = some "*errors.errorString") : u = 142 :=
 typeName_ptr_named (nm := "errors.errorString") (by rw [star_err]; kernel_rfl) (by kernel_rfl) (by decide) u (by rw [star_err]; exact h)
theorem gv_of {W : World} {t1 t2 : String × DataW Unit} (hm : ∃ m, W.cell? ⟨0, 0, none⟩ = some (.int .i64 m))
 (hL : laidMet Tryd.prog [t1, t2, ("internal/strconv.uint64pow10", Rows.laid_internal_strconv_uint64pow10), ("strconv.ErrRange", Rows.laid_strconv_ErrRange), ("strconv.ErrSyntax", Rows.laid_strconv_ErrSyntax)] W) : GV W := by
 have h3 := hL.tail.tail
 have h4 := h3.tail
 have h5 := h4.tail
 refine ⟨hm, ?_, ?_, ?_⟩
 ·exact Lib.tabIs_of_head (g := 3) (t := 137) (e := 120) (n := 20) (by kernel_rfl) (by kernel_rfl) (by kernel_rfl) (by kernel_rfl) (by kernel_rfl) (by kernel_rfl) (rest := _) h3
 ·obtain ⟨a1, s1, hv1, -, -, -⟩ := laid_sentinel h5 (g := 1) (ti := 92) (tp := 142) (te := 144) (ts := 9) (by kernel_rfl) (by kernel_rfl) Tryd.underlying92 row_err Tryd.underlying142 Tryd.underlying144 rfl rfl Tryd.underlying9 (by kernel_rfl) (by kernel_rfl)
  exact ⟨_, (by have h0 := World.var?_cell (P := Tryd.prog) (g := 1) (by kernel_rfl) hv1 0; simpa using h0), .inr ⟨_, _, rfl⟩⟩
 ·obtain ⟨a1, s1, hv1, -, -, -⟩ := laid_sentinel h4 (g := 2) (ti := 92) (tp := 142) (te := 144) (ts := 9) (by kernel_rfl) (by kernel_rfl) Tryd.underlying92 row_err Tryd.underlying142 Tryd.underlying144 rfl rfl Tryd.underlying9 (by kernel_rfl) (by kernel_rfl)
  exact ⟨_, (by have h0 := World.var?_cell (P := Tryd.prog) (g := 2) (by kernel_rfl) hv1 0; simpa using h0), .inr ⟨_, _, rfl⟩⟩
end Go.Proofs.YtcaoblilkgajoaaDoor
end
section
namespace Go.Proofs.YtcaoblilkgajoaaDoor.Pl
/-- A diagram's half-edges moved: mate by mate. -/
def mvK (tf : Nat → Nat) (M : List Nat) : Nat → List Nat
 | 0 => List.replicate M.length 0
 | k + 1 => (mvK tf M k).set (tf k) (tf (M.getD k 0))
theorem mvK_len (tf : Nat → Nat) (M : List Nat) : ∀ k, (mvK tf M k).length = M.length
 | 0 => by simp [mvK]
 | k + 1 => by show ((mvK tf M k).set _ _).length = _; rw [List.length_set, mvK_len tf M k]
theorem mvK_get {tf : Nat → Nat} {M : List Nat} (h1 : ∀ k, k < M.length → tf k < M.length) (h2 : ∀ j k, j < M.length → k < M.length → tf j = tf k → j = k) : ∀ k, k ≤ M.length → ∀ j, j < k → (mvK tf M k).getD (tf j) 0 = tf (M.getD j 0)
 | 0, _, j, hj => by omega
 | k + 1, hk, j, hj => by
   show ((mvK tf M k).set (tf k) (tf (M.getD k 0))).getD (tf j) 0 = _
   rw [List.getD_eq_getElem?_getD, List.getElem?_set]
   by_cases e : tf k = tf j
   ·rw [if_pos e, if_pos (by rw [mvK_len]; exact h1 k (by omega)), h2 k j (by omega) (by omega) e]
    rfl
   ·rw [if_neg e, ← List.getD_eq_getElem?_getD]
    refine mvK_get h1 h2 k (by omega) j ?_
    rcases Nat.lt_or_ge j k with h | h
    ·exact h
    ·exact absurd (by rw [show j = k by omega]) e
/-- The diagram with half-edges moved, and the other signs. -/
def mvD (tf : Nat → Nat) (d : Dg) : Dg := ⟨d.sg.map (fun s => -s), mvK tf d.mt d.mt.length, d.lp⟩
/-- All crossings switched. -/
def toM (d : Dg) (h : Nat) : Nat := tn h (if d.s (h / 4) = 1 then 1 else 3)
/-- Seen from behind. -/
def toR (h : Nat) : Nat := h / 4 * 4 + (4 - h % 4) % 4
def ngW (ws : List Int) : List Int := ws.map (fun x => -x)
def fl1 (s x : Int) : Int := if 0 < x then x - s else x + s
def flW (s : Int) (ws : List Int) : List Int := ws.map (fl1 s)
section
variable {n : Nat} {ws : List Int}
theorem map_getD0 {f : Int → Int} {i : Nat} (hi : i < ws.length) : (ws.map f).getD i 0 = f (ws.getD i 0) := by
 rw [List.getD_eq_getElem?_getD, List.getElem?_map, List.getD_eq_getElem?_getD, List.getElem?_eq_getElem hi]
 rfl
theorem rcL_cnt (ws : List Int) : ∀ m, rcL ws m = cnt (fun p => ¬ tchd ws p) m
 | 0 => rfl
 | m + 1 => by
   show rcL ws m + (if nxW ws 0 m < 0 then 1 else 0) = _
   rw [rcL_cnt ws m]
   by_cases c : tchd ws m
   ·rw [cnt_step_neg (fun e => e c), if_neg (fun e => by obtain ⟨i, h1, h2⟩ := c; exact nxW_neg.1 e i h1 h2)]
    rfl
   ·rw [cnt_step_pos c, if_pos (nxW_neg.2 (fun i hi ht => c ⟨i, hi, ht⟩))]
/-- A closure whose half-edges are moved is the closure of another word. -/
theorem mvD_clD {vs : List Int} {tf : Nat → Nat} (π : Nat → Nat) (hw : WOk n ws) (hv : WOk n vs) (hl : vs.length = ws.length) (hs : ∀ i, i < ws.length → (vs.getD i 0 < 0 ↔ ¬ ws.getD i 0 < 0))
 (h1 : ∀ k, k < 4 * ws.length → tf k < 4 * ws.length) (h2 : ∀ j k, j < 4 * ws.length → k < 4 * ws.length → tf j = tf k → j = k)
 (hπ : ∀ p, p < n → π p < n ∧ π (π p) = p) (hT : ∀ p i, p < n → i < ws.length → (TP vs p i ↔ TP ws (π p) i))
 (hO : ∀ i p, i < ws.length → TP ws p i → tf (dO ws i p) = dO vs i (π p) ∧ tf (dI ws i p) = dI vs i (π p)) : mvD tf (clD n ws) = clD n vs := by
 have hM := (clD_good hw).1
 have hg : CGood vs (mvK tf (clD n ws).mt (clD n ws).mt.length) := by
  refine ⟨by rw [mvK_len, hM, hl], fun p i j h => ?_⟩
  have hp : p < n := hv.lt h.2.2.1 h.1
  have hp2 := hπ p hp
  rw [hl] at h
  have hc : CN (TP ws (π p)) ws.length i j := by
   obtain ⟨a1, a2, a3, a4, a5⟩ := h
   refine ⟨(hT p i hp a3).1 a1, (hT p j hp a4).1 a2, a3, a4, ?_⟩
   rcases a5 with ⟨b1, b2⟩ | ⟨b1, b2, b3⟩
   ·exact .inl ⟨b1, fun k k1 k2 t => b2 k k1 k2 ((hT p k hp (by omega)).2 t)⟩
   ·exact .inr ⟨b1, fun k k1 k2 t => b2 k k1 k2 ((hT p k hp k2).2 t), fun k k1 t => b3 k k1 ((hT p k hp (by omega)).2 t)⟩
  obtain ⟨g1, g2⟩ := (clD_good hw).2 _ i j hc
  have e1 := (hO i _ hc.2.2.1 hc.1).1
  have e2 := (hO j _ hc.2.2.2.1 hc.2.1).2
  rw [hp2.2] at e1 e2
  have G := mvK_get (tf := tf) (M := (clD n ws).mt) (by rw [hM]; exact h1) (by rw [hM]; exact h2) _ (Nat.le_refl _)
  constructor
  ·rw [← e1, G _ (by rw [hM]; exact dO_lt hc.2.2.1), g1, e2]
  ·rw [← e2, G _ (by rw [hM]; exact dI_lt hc.2.2.2.1), g2, e1]
 have hmt : mvK tf (clD n ws).mt (clD n ws).mt.length = (clD n vs).mt := hg.uniq hv (clD_good hv)
 have hsg : (clD n ws).sg.map (fun s => -s) = (clD n vs).sg := by
  show (clSg ws).map _ = clSg vs
  unfold clSg
  refine List.ext_getElem (by simp [hl]) fun i i1 i2 => ?_
  have hi : i < ws.length := by simpa using i1
  have := hs i hi
  rw [List.getD_eq_getElem?_getD, List.getD_eq_getElem?_getD, List.getElem?_eq_getElem hi, List.getElem?_eq_getElem (by rw [hl]; exact hi)] at this
  have this : vs[i] < 0 ↔ ¬ ws[i] < 0 := this
  simp only [List.getElem_map]
  by_cases c : ws[i] < 0
  ·rw [if_pos c, if_neg (fun e => this.1 e c)]; rfl
  ·rw [if_neg c, if_pos (this.2 c)]
 have hlp : (clD n ws).lp = (clD n vs).lp := by
  rw [clD_lp hw, clD_lp hv, rcL_cnt, rcL_cnt]
  have tt : ∀ p, p < n → (tchd vs p ↔ tchd ws (π p)) := fun p hp =>
   ⟨fun ⟨i, i1, i2⟩ => ⟨i, by omega, (hT p i hp (by omega)).1 i2⟩, fun ⟨i, i1, i2⟩ => ⟨i, by omega, (hT p i hp i1).2 i2⟩⟩
  have c1 := Cls.card (S := fun p => p < n ∧ ¬ tchd ws p) n (fun _ h => h.1)
  have c2 := Cls.card (S := fun p => p < n ∧ ¬ tchd vs p) n (fun _ h => h.1)
  rw [cnt_congr (q := fun p => ¬ tchd ws p) n (fun x hx => ⟨fun h => h.2, fun h => ⟨hx, h⟩⟩)] at c1
  rw [cnt_congr (q := fun p => ¬ tchd vs p) n (fun x hx => ⟨fun h => h.2, fun h => ⟨hx, h⟩⟩)] at c2
  refine (c1.map π (fun p hp => ⟨(hπ p hp.1).1, fun t => hp.2 (by have := (tt _ (hπ p hp.1).1).1 t; rwa [(hπ p hp.1).2] at this)⟩) (fun p hp => ⟨π p, ⟨(hπ p hp.1).1, fun t => hp.2 ((tt p hp.1).2 t)⟩, (hπ p hp.1).2⟩) (fun x y hx hy => ⟨fun e => by rw [e], fun e => by rw [← (hπ x hx.1).2, e, (hπ y hy.1).2]⟩)).unique c2
 show Dg.mk _ _ _ = _
 rw [hmt, hsg, hlp]
theorem ngW_ok (hw : WOk n ws) : WOk n (ngW ws) := fun i hi => by
 have hi' : i < ws.length := by simpa [ngW] using hi
 have := hw i hi'
 unfold ngW
 rw [map_getD0 hi']
 unfold LetOk at *
 omega
theorem flW_ok (hw : WOk n ws) : WOk n (flW n ws) := fun i hi => by
 have hi' : i < ws.length := by simpa [flW] using hi
 have := hw i hi'
 unfold flW
 rw [map_getD0 hi']
 unfold LetOk fl1 at *
 split <;> omega
theorem BV.neg {s : Int} (h : BV s ws) : BV s (ngW ws) := ⟨h.1, h.2.1, by unfold ngW; simpa using h.2.2.1, fun x hx => by
 obtain ⟨y, hy, rfl⟩ := List.mem_map.1 hx
 have := h.2.2.2 y hy
 omega⟩
theorem BV.flip {s : Int} (h : BV s ws) : BV s (flW s ws) := ⟨h.1, h.2.1, by unfold flW; simpa using h.2.2.1, fun x hx => by
 obtain ⟨y, hy, rfl⟩ := List.mem_map.1 hx
 have := h.2.2.2 y hy
 unfold fl1
 split <;> omega⟩
theorem tn_slot (i s k : Nat) (hs : s < 4) : tn (4 * i + s) k = 4 * i + (s + k) % 4 := by unfold tn; omega
theorem toR_slot (i s : Nat) (hs : s < 4) : toR (4 * i + s) = 4 * i + (4 - s) % 4 := by unfold toR; omega
/-- THE MIRROR IMAGE. -/
theorem mirror_clD (hw : WOk n ws) : mvD (toM (clD n ws)) (clD n ws) = clD n (ngW ws) := by
 have hg : ∀ i, i < ws.length → (ngW ws).getD i 0 = - ws.getD i 0 := fun i hi => by unfold ngW; rw [map_getD0 hi]
 have h0 : ∀ i, i < ws.length → ws.getD i 0 ≠ 0 := fun i hi e => by have := (hw i hi).1; omega
 have ab : ∀ x : Int, (-x).natAbs = x.natAbs := fun x => by omega
 have at_ : ∀ i, i < ws.length → ∀ s, s < 4 → toM (clD n ws) (4 * i + s) = 4 * i + (s + (if ws.getD i 0 < 0 then 3 else 1)) % 4 := fun i hi s hs => by
  unfold toM
  rw [show (4 * i + s) / 4 = i by omega, clD_s n ws hi, tn_slot _ _ _ hs]
  by_cases c : ws.getD i 0 < 0
  ·rw [if_pos c, if_pos c]; rfl
  ·rw [if_neg c, if_neg c]; rfl
 have sw : ∀ x : Int, x ≠ 0 → ∀ o r, (slt x o r + (if x < 0 then 3 else 1)) % 4 = slt (-x) o r := fun x hx o r => by
  unfold slt
  by_cases c : x < 0
  ·simp only [if_pos c, if_neg (show ¬ -x < 0 by omega)]
   cases o <;> cases r <;> rfl
  ·simp only [if_neg c, if_pos (show -x < 0 by omega)]
   cases o <;> cases r <;> rfl
 refine mvD_clD (fun p => p) hw (ngW_ok hw) (by simp [ngW]) (fun i hi => ?_) (fun k hk => ?_) (fun j k hj hk e => ?_) (fun p hp => ⟨hp, rfl⟩) (fun p i hp hi => ?_) (fun i p hi ht => ?_)
 ·rw [hg i hi]
  have := h0 i hi
  omega
 ·unfold toM; exact tn_lt hk
 ·unfold toM at e
  have e1 := congrArg (· / 4) e
  simp only [tn_div] at e1
  rw [e1] at e
  exact tn_inj e
 ·unfold TP tcp
  rw [hg i hi, ab]
 ·constructor
  ·unfold dO
   rw [at_ i hi _ (slt_lt _ _ _), sw _ (h0 i hi), hg i hi, ab]
  ·unfold dI
   rw [at_ i hi _ (slt_lt _ _ _), sw _ (h0 i hi), hg i hi, ab]
/-- THE REFLECTION. -/
theorem reflect_clD (hw : WOk n ws) : mvD toR (clD n ws) = clD n (flW n ws) := by
 have hg : ∀ i, i < ws.length → (flW n ws).getD i 0 = fl1 n (ws.getD i 0) := fun i hi => by unfold flW; rw [map_getD0 hi]
 have hb : ∀ i, i < ws.length → 1 ≤ (ws.getD i 0).natAbs ∧ (ws.getD i 0).natAbs < n := fun i hi => hw i hi
 have ab : ∀ i, i < ws.length → (fl1 n (ws.getD i 0)).natAbs = n - (ws.getD i 0).natAbs := fun i hi => by
  have := hb i hi
  unfold fl1
  split <;> omega
 have sw : ∀ i, i < ws.length → ∀ o r, (4 - slt (ws.getD i 0) o r) % 4 = slt (fl1 n (ws.getD i 0)) o (!r) := fun i hi o r => by
  have := hb i hi
  unfold slt fl1
  by_cases c : 0 < ws.getD i 0
  ·simp only [if_pos c, if_neg (show ¬ ws.getD i 0 < 0 by omega), if_pos (show ws.getD i 0 - n < 0 by omega)]
   cases o <;> cases r <;> rfl
  ·simp only [if_neg c, if_pos (show ws.getD i 0 < 0 by omega), if_neg (show ¬ ws.getD i 0 + n < 0 by omega)]
   cases o <;> cases r <;> rfl
 have rr : ∀ i p, i < ws.length → TP ws p i → (n - 1 - p == (fl1 n (ws.getD i 0)).natAbs) = !(p == (ws.getD i 0).natAbs) := fun i p hi ht => by
  have := hb i hi
  have ht : (ws.getD i 0).natAbs = p + 1 ∨ (ws.getD i 0).natAbs = p := ht
  rw [ab i hi]
  rcases ht with e | e
  ·rw [show (p == (ws.getD i 0).natAbs) = false by rw [beq_eq_false_iff_ne]; omega]
   show _ = true
   rw [beq_iff_eq]
   omega
  ·rw [show (p == (ws.getD i 0).natAbs) = true by rw [beq_iff_eq]; omega]
   show _ = false
   rw [beq_eq_false_iff_ne]
   omega
 refine mvD_clD (fun p => n - 1 - p) hw (flW_ok hw) (by simp [flW]) (fun i hi => ?_) (fun k hk => ?_) (fun j k hj hk e => ?_) (fun p hp => ⟨by omega, by omega⟩) (fun p i hp hi => ?_) (fun i p hi ht => ?_)
 ·rw [hg i hi]
  have := hb i hi
  unfold fl1
  split <;> omega
 ·unfold toR; omega
 ·unfold toR at e; omega
 ·unfold TP tcp
  rw [hg i hi, ab i hi]
  have := hb i hi
  omega
 ·constructor
  ·unfold dO
   rw [toR_slot _ _ (slt_lt _ _ _), sw i hi, hg i hi, rr i p hi ht]
  ·unfold dI
   rw [toR_slot _ _ (slt_lt _ _ _), sw i hi, hg i hi, rr i p hi ht]
end
end Go.Proofs.YtcaoblilkgajoaaDoor.Pl
end
section
namespace Go.Proofs.YtcaoblilkgajoaaDoor
open Go.ChangeShapes Go.WideShapes Go.ChangeAt Go.RowKit Go.Deep
section
variable {H : Type} {enc : TypeId × Value → H} {P : Program} {w : World} {base : Nat} {spare : Nat → Bool} {held : Bool}
theorem post_of_below {f : Func} {s : ChangeSpec} {apart fresh handsOn again : Bool} {W W' : World} {args : Array Value} {v : Value} {ds gs : List (DataW H)} {before pa pv : List MemPlace}
 (hW : DataW.Whole enc P f.params.toList s.vars apart W args.toList ds gs before)
 (hres : ∀ (b : Nat) (sp : Nat → Bool) (hd : Bool), DataW.TrodAll enc P W' b sp hd f.resultTypes.toList (v.resultList f.resultTypes.size) (s.fn H (ds ++ gs)).results [])
 (hargs : ∀ sp : Nat → Bool, (∀ p ∈ before, sp p.block = true) → DataW.TrodAll enc P W' 0 sp true f.params.toList args.toList (s.fn H (ds ++ gs)).args pa)
 (hvars : ∀ sp : Nat → Bool, (∀ p ∈ before, sp p.block = true) → DataW.TrodVars enc P W' sp s.vars (s.fn H (ds ++ gs)).vars pv)
 (hps : before = pa ++ pv) (hb : Below W.heap.size W W')
 (hok : ∀ (j : Nat) (t : TypeId) (r : Value), f.resultTypes[j]? = some t → (v.resultList f.resultTypes.size)[j]? = some r → Value.okWide P W' .any 0 t r) :
 s.post enc P f apart fresh handsOn again W args v W' := by
 have hlt : ∀ p ∈ before, p.block < W.heap.size := fun p hp => hW.lt p hp
 have hold : ∀ p ∈ before, (fun b => decide (b < W.heap.size)) p.block = true := fun p hp => by simpa using hlt p hp
 refine ⟨ds, gs, before, [], pa, pv, hW, hres _ _ _, hargs _ hold, hvars _ hold, World.keptBut_mono (fun p hp => ⟨hp, ?_⟩) (hb.frame (· ∈ before)), fun _ => ?_⟩
 ·rw [hps, List.mem_append] at hp
  exact Or.inr hp
 ·obtain ⟨_, _, _, _, _, hz, hn⟩ := hW
  refine ⟨hok, _, _, ([] ++ pa) ++ pv, ⟨[] ++ pa, pv, trodAll_append (hargs _ (fun _ _ => rfl)) (hres _ _ _), hvars _ (fun _ _ => rfl), rfl, ?_, ?_⟩, ?_⟩
  ·intro b off hp
   have hin : MemPlace.cell b off ∈ before := by rw [hps]; simpa using hp
   rw [hb.frozen (hlt _ hin)]
   exact hz b off hin
  ·intro ha
   have := hn ha
   rw [hps] at this
   simpa using this
  ·intro p hp _
   rw [hps]
   simpa using hp
end
end Go.Proofs.YtcaoblilkgajoaaDoor
end
