/-
 The texts Nc in one.
-/
import Derived.Test.YtlffopdoeobgaaaGreatDoorS20
import Derived.Test.YtlffopdoeobgaaaGreatDoorS21
import Derived.Lib.SplitLaws
import Derived.Laws.EntriesVeiled
set_option linter.unusedVariables false
set_option linter.unusedSimpArgs false
section
namespace Go.Proofs.YtlffopdoeobgaaaGreatDoor
open Go Go.RowKit
attribute [local go_sem ↓] Go.wp_at_zero Go.wp_at_succ
theorem numV_bounds (l : List UInt8) : -9223372036854775808 ≤ numV l ∧ numV l ≤ 9223372036854775807 := by
 unfold numV
 match e : Lib.atoiAll l with
 | .ok v => exact Lib.atoiAll_bounds e
 | .syntax => exact ⟨show (-9223372036854775808 : Int) ≤ 0 by decide, show (0 : Int) ≤ 9223372036854775807 by decide⟩
 | .range => exact Lib.atoiSat_bounds l
def wsR (s : ByteArray) : List ByteArray := Lib.splitB ⟨#[32]⟩ 0 (Lib.countB s ⟨#[32]⟩) s
theorem wsR_len (s : ByteArray) : (wsR s).length = Lib.countB s ⟨#[32]⟩ + 1 := Lib.splitB_all ⟨#[32]⟩ (by decide) 0 _ s rfl
theorem splitB_sizes (sep : ByteArray) : ∀ (k : Nat) (s : ByteArray) (x : ByteArray), x ∈ Lib.splitB sep 0 k s → x.size ≤ s.size
 | 0, s, x, h => by simp only [Lib.splitB_zero, List.mem_singleton] at h; rw [h]; exact Nat.le_refl _
 | k + 1, s, x, h => by
   unfold Lib.splitB at h
   split at h
   ·simp only [List.mem_singleton] at h; rw [h]; exact Nat.le_refl _
   ·rw [List.mem_cons] at h
    rcases h with rfl | h
    ·rw [ByteArray.size_extract]; omega
    ·have := splitB_sizes sep k _ x h
     rw [ByteArray.size_extract] at this
     omega
theorem wsR_sizes {s : ByteArray} {n : Nat} (h : s.size ≤ n) : ∀ x, x ∈ wsR s → x.size ≤ n := fun x hx => Nat.le_trans (splitB_sizes _ _ _ x hx) h
theorem wsR_many (s : ByteArray) : (wsR s).length ≤ s.size + 1 := by
 rw [wsR_len]
 exact Nat.succ_le_succ (Lib.countB_le _ (by decide) _ _ (Nat.le_refl _))
def nv (ws : List ByteArray) (j : Nat) : Int := numV (wd ws j).data.toList
def nk (ws : List ByteArray) (j : Nat) : Bool := decide (j < ws.length) && numK (wd ws j).data.toList
def rdM (ws : List ByteArray) : Mv :=
 if wd ws 0 = ⟨#[99, 117, 114, 108]⟩ then ⟨1, nv ws 1, 0, nv ws 2, decide (wd ws 3 = ⟨#[111, 118, 101, 114]⟩)⟩
 else if wd ws 0 = ⟨#[117, 110, 99, 117, 114, 108]⟩ then ⟨2, nv ws 1, 0, 0, false⟩
 else if wd ws 0 = ⟨#[112, 111, 107, 101]⟩ then ⟨3, nv ws 1, nv ws 2, nv ws 3, decide (wd ws 4 = ⟨#[111, 118, 101, 114]⟩)⟩
 else if wd ws 0 = ⟨#[117, 110, 112, 111, 107, 101]⟩ then ⟨4, nv ws 1, nv ws 2, 0, false⟩
 else if wd ws 0 = ⟨#[115, 108, 105, 100, 101]⟩ then ⟨5, nv ws 1, 0, 0, false⟩
 else ⟨0, 0, 0, 0, false⟩
def rdK (ws : List ByteArray) : Bool :=
 if wd ws 0 = ⟨#[99, 117, 114, 108]⟩ then nk ws 1 && nk ws 2 && decide (3 < ws.length)
 else if wd ws 0 = ⟨#[117, 110, 99, 117, 114, 108]⟩ then nk ws 1
 else if wd ws 0 = ⟨#[112, 111, 107, 101]⟩ then nk ws 1 && nk ws 2 && nk ws 3 && decide (4 < ws.length)
 else if wd ws 0 = ⟨#[117, 110, 112, 111, 107, 101]⟩ then nk ws 1 && nk ws 2
 else if wd ws 0 = ⟨#[115, 108, 105, 100, 101]⟩ then nk ws 1
 else false
def rdB (s : ByteArray) : Bool := rdK (wsR s) && decide (lnT (rdM (wsR s)) = s)
theorem wd_min (ws : List ByteArray) (k : Nat) : wd ws (min k ws.length) = wd ws k := by
 unfold wd
 by_cases h : k < ws.length
 ·rw [Nat.min_eq_left (by omega)]
 ·rw [Nat.min_eq_right (by omega), List.getD_eq_getElem?_getD, List.getD_eq_getElem?_getD, List.getElem?_eq_none (by omega), List.getElem?_eq_none (by omega)]
section
variable {w W : World} {gr gw ga gk gf gm gs : Nat} {ws : List ByteArray} {ok : Bool} {mv : List Value}
theorem word_k (k : Nat) (h : RD w gr gw ga gk gf gm gs ws (min k ws.length) ok mv W) (hn : ws.length ≤ 100000) :
 Calls Tryz.prog 78 #[.pointer (some ⟨ga, 0, none⟩), .pointer (some ⟨gw, 0, none⟩), .pointer (some ⟨gk, 0, none⟩)] W fun e W' => e = .returned (.string (wd ws k)) ∧ RD w gr gw ga gk gf gm gs ws (min (k + 1) ws.length) (ok && decide (k < ws.length)) mv W' := by
 have h1 := word_any h (Nat.min_le_right _ _) hn
 rw [wd_min, show min (min k ws.length + 1) ws.length = min (k + 1) ws.length by omega, show decide (min k ws.length < ws.length) = decide (k < ws.length) by rw [decide_eq_decide]; omega] at h1
 exact h1
theorem num_k (k : Nat) (h : RD w gr gw ga gk gf gm gs ws (min k ws.length) ok mv W) (hn : ws.length ≤ 100000) (hs : ∀ x, x ∈ ws → x.size ≤ 100000) (hg : GV w) :
 Calls Tryz.prog 79 #[.pointer (some ⟨gf, 0, none⟩), .pointer (some ⟨gk, 0, none⟩)] W fun e W' => e = .returned (.int .i64 (nv ws k)) ∧ RD w gr gw ga gk gf gm gs ws (min (k + 1) ws.length) (ok && nk ws k) mv W' := by
 have h1 := num_any h (Nat.min_le_right _ _) hn hs hg
 rw [wd_min, show min (min k ws.length + 1) ws.length = min (k + 1) ws.length by omega, show decide (min k ws.length < ws.length) = decide (k < ws.length) by rw [decide_eq_decide]; omega, Bool.and_assoc] at h1
 exact h1
theorem RD.setM5 {k0 : Nat} (h : RD w gr gw ga gk gf gm gs ws k0 ok mv W) (hl : mv.length = 5) (a b c d e : Value) : RD w gr gw ga gk gf gm gs ws k0 ok [a, b, c, d, e] (((((W.setCell ⟨gm, 0, none⟩ a).setCell ⟨gm, 1, none⟩ b).setCell ⟨gm, 2, none⟩ c).setCell ⟨gm, 3, none⟩ d).setCell ⟨gm, 4, none⟩ e) := by
 have h5 := ((((h.setM 0 a).setM 1 b).setM 2 c).setM 3 d).setM 4 e
 match mv, hl, h5 with
 | [_, _, _, _, _], _, h5 => exact h5
end
theorem split_any (s : ByteArray) (hs : s.size ≤ 100000) (W : World) (hg : GV W) :
 Calls Tryz.prog 77 #[.string s, .string ⟨#[32]⟩] W fun e w' => (∃ gs, e = .returned (.slice (some ⟨gs, 0, none⟩) (wsR s).length (wsR s).length) ∧ Row w' gs 9 ((wsR s).map .string) ∧ W.heap.size ≤ gs) ∧ Below W.heap.size W w' := by
 obtain ⟨m, hm⟩ := hg.m
 refine (Tryz.strings_Split s ⟨#[32]⟩ m W (by omega) hm (by decide)).mono ?_
 rintro e w' ⟨he, rfl⟩
 exact ⟨⟨W.heap.size, by rw [he, wsR_len], row_at rfl, Nat.le_refl _⟩, (Below.refl _ _).alloc (Nat.le_refl _) _⟩
theorem line_m (k x y s : Int) (o : Bool) (w : World) (hg : GV w) (hx : -9223372036854775808 ≤ x ∧ x ≤ 9223372036854775807) (hy : -9223372036854775808 ≤ y ∧ y ≤ 9223372036854775807) (hs : -9223372036854775808 ≤ s ∧ s ≤ 9223372036854775807) :
 Calls Tryz.prog 53 #[.agg #[.int .i64 k, .int .i64 x, .int .i64 y, .int .i64 s, .bool o]] w fun e w' => e = .returned (.tuple #[.string (lnT ⟨k, x, y, s, o⟩), .bool (lnB ⟨k, x, y, s, o⟩)]) ∧ Below w.heap.size w w' := line_any ⟨k, x, y, s, o⟩ w hg hx hy hs
theorem nv_bounds (ws : List ByteArray) (j : Nat) : -9223372036854775808 ≤ nv ws j ∧ nv ws j ≤ 9223372036854775807 := numV_bounds _
theorem zero_bounds : (-9223372036854775808 : Int) ≤ 0 ∧ (0 : Int) ≤ 9223372036854775807 := by decide
theorem below5 {w W : World} (h : Below w.heap.size w W) {g : Nat} (hg : w.heap.size ≤ g) (a b c d e : Value) : Below w.heap.size w (((((W.setCell ⟨g, 0, none⟩ a).setCell ⟨g, 1, none⟩ b).setCell ⟨g, 2, none⟩ c).setCell ⟨g, 3, none⟩ d).setCell ⟨g, 4, none⟩ e) :=
 ((((h.setCell (by show _ ≤ g; omega) _).setCell (by show _ ≤ g; omega) _).setCell (by show _ ≤ g; omega) _).setCell (by show _ ≤ g; omega) _).setCell (by show _ ≤ g; omega) _
theorem row5set {W : World} {g : Nat} {t : TypeId} {p q r u v : Value} (h : Row W g t [p, q, r, u, v]) (a b c d e : Value) : Row (((((W.setCell ⟨g, 0, none⟩ a).setCell ⟨g, 1, none⟩ b).setCell ⟨g, 2, none⟩ c).setCell ⟨g, 3, none⟩ d).setCell ⟨g, 4, none⟩ e) g t [a, b, c, d, e] :=
 ((((h.set 0 a).set 1 b).set 2 c).set 3 d).set 4 e
theorem toList_ne {a b : ByteArray} (h : ¬ a = b) : ¬ a.toList = b.toList := fun e => h (by
 rw [ByteArray.toList_eq, ByteArray.toList_eq] at e
 obtain ⟨⟨l⟩⟩ := a
 obtain ⟨⟨r⟩⟩ := b
 simp at e
 rw [e])
theorem toList_lit {a : ByteArray} {l : List UInt8} (h : ¬ a = ⟨l.toArray⟩) : ¬ a.toList = l := fun e => h (by
 rw [ByteArray.toList_eq] at e
 obtain ⟨⟨r⟩⟩ := a
 simp at e
 rw [e])
theorem rd_start {w w1 : World} {gr gs : Nat} {ws : List ByteArray} (hr : Row w1 gr 36 [.int .i64 0, .int .i64 0, .int .i64 0, .int .i64 0, .bool false]) (hs : Row w1 gs 9 (ws.map .string)) (h1 : gr < gs) (h2 : w.heap.size ≤ gr) (hb : Below w.heap.size w w1) :
 RD w gr w1.heap.size (w1.heap.size + 1) (w1.heap.size + 1 + 1) (w1.heap.size + 1 + 1 + 1) (w1.heap.size + 1 + 1 + 1 + 1) gs ws (min 0 ws.length) true [.int .i64 0, .int .i64 0, .int .i64 0, .int .i64 0, .bool false]
  (((((w1.alloc (.cells #[.slice (some ⟨gs, 0, none⟩) ws.length ws.length] 102)).alloc (.cells #[.int .i64 0] 3)).alloc (.cells #[.bool true] 4)).alloc (.cells #[.func (.func 78) #[] #[.pointer (some ⟨w1.heap.size + 1, 0, none⟩), .pointer (some ⟨w1.heap.size, 0, none⟩), .pointer (some ⟨w1.heap.size + 1 + 1, 0, none⟩)]] 87)).alloc (.cells #[.int .i64 0, .int .i64 0, .int .i64 0, .int .i64 0, .bool false] 36)) := by
 have l1 := hr.lt
 have l2 := hs.lt
 rw [Nat.zero_min]
 refine ⟨((((hr.alloc _).alloc _).alloc _).alloc _).alloc _, ((((row_at (vs := [.slice (some ⟨gs, 0, none⟩) ws.length ws.length]) rfl).alloc _).alloc _).alloc _).alloc _, (((row_at (vs := [.int .i64 0]) (by simp)).alloc _).alloc _).alloc _, ((row_at (vs := [.bool true]) (by simp)).alloc _).alloc _, (row_at (vs := [.func (.func 78) #[] #[.pointer (some ⟨w1.heap.size + 1, 0, none⟩), .pointer (some ⟨w1.heap.size, 0, none⟩), .pointer (some ⟨w1.heap.size + 1 + 1, 0, none⟩)]]) (by simp)).alloc _, row_at (vs := [.int .i64 0, .int .i64 0, .int .i64 0, .int .i64 0, .bool false]) (by simp), ((((hs.alloc _).alloc _).alloc _).alloc _).alloc _, ?_, ?_, ?_⟩
 ·simp only [List.nodup_cons, List.mem_cons, not_or, List.not_mem_nil, not_false_iff, and_true, List.nodup_nil]
  refine ⟨⟨?_, ?_, ?_, ?_, ?_, ?_⟩, ⟨?_, ?_, ?_, ?_, ?_⟩, ⟨?_, ?_, ?_, ?_⟩, ⟨?_, ?_, ?_⟩, ⟨?_, ?_⟩, ?_⟩ <;> omega
 ·have := hb.size
  intro g hg
  simp only [List.mem_cons, List.not_mem_nil, or_false] at hg
  rcases hg with rfl | rfl | rfl | rfl | rfl | rfl | rfl <;> omega
 ·have := hb.size
  exact ((((hb.alloc hb.size _).alloc (by simp; omega) _).alloc (by simp; omega) _).alloc (by simp; omega) _).alloc (by simp; omega) _
set_option maxRecDepth 100000 in
set_option maxHeartbeats 4000000 in
theorem read_1 (s : ByteArray) (hk : wd (wsR s) 0 = ⟨#[99, 117, 114, 108]⟩) (hs : s.size ≤ 70000) (w : World) (hg : GV w) :
 Calls Tryz.prog 44 #[.string s] w fun e w' => e = .returned (.tuple #[(rdM (wsR s)).v, .bool (rdB s)]) ∧ Below w.heap.size w w' := by
 have HG := hide hg
 clear hg
 obtain ⟨ws, hws⟩ : ∃ ws, ws = wsR s := ⟨_, rfl⟩
 rw [← hws] at hk
 have HB := hide (show rdB s = (rdK ws && decide (lnT (rdM ws) = s)) by rw [hws]; rfl)
 have HMW := hide (show rdM (wsR s) = rdM ws by rw [hws])
 rw [HB.out, HMW.out]
 have hn : ws.length ≤ 100000 := by rw [hws]; have := wsR_many s; omega
 have hn1 : 1 ≤ ws.length := by rw [hws, wsR_len]; omega
 have HSZ := hide (show ∀ x, x ∈ ws → x.size ≤ 100000 by rw [hws]; exact wsR_sizes (by omega))
 have R0 := hide (row_at (W := w) (g := w.heap.size) (t := 36) (vs := [.int .i64 0, .int .i64 0, .int .i64 0, .int .i64 0, .bool false]) rfl)
 have B0 := hide (show Below w.heap.size w (w.alloc (.cells #[.int .i64 0, .int .i64 0, .int .i64 0, .int .i64 0, .bool false] 36)) from (Below.refl _ _).alloc (Nat.le_refl _) _)
 go_enter Tryz.func44, Tryz.ntmps44
 go_wp2_with fail
 refine (split_any s (by omega) _ (HG.out.below B0.out)).mono ?_
 rintro e w1 ⟨⟨gs, rfl, hrs, hgs⟩, hb1⟩
 have R1 := hide (R0.out.below hb1)
 have B1 := hide (B0.out.trans (hb1.mono B0.out.size))
 have S1 := hide hrs
 have hgs2 : w.heap.size < gs := by simp at hgs; omega
 rw [← hws] at S1 ⊢
 have H0 := hide (rd_start R1.out S1.out hgs2 (Nat.le_refl _) B1.out)
 clear hb1 hrs R0 B0 hws hgs R1 B1 S1 hgs2
 go_wp2_with fail
 refine (word_k 0 H0.out hn).mono ?_
 rintro e w2 ⟨rfl, h1⟩
 obtain ⟨gw, hgw⟩ : ∃ g, g = w1.heap.size := ⟨_, rfl⟩
 rw [← hgw] at h1 ⊢
 clear hgw H0
 obtain ⟨ga, hga⟩ : ∃ g, g = gw + 1 := ⟨_, rfl⟩
 rw [← hga] at h1 ⊢
 obtain ⟨gk, hgk⟩ : ∃ g, g = ga + 1 := ⟨_, rfl⟩
 rw [← hgk] at h1 ⊢
 obtain ⟨gf, hgf⟩ : ∃ g, g = gk + 1 := ⟨_, rfl⟩
 rw [← hgf] at h1 ⊢
 obtain ⟨gm, hgm⟩ : ∃ g, g = gf + 1 := ⟨_, rfl⟩
 rw [← hgm] at h1 ⊢
 obtain ⟨gr, hgr⟩ : ∃ g, g = w.heap.size := ⟨_, rfl⟩
 rw [← hgr] at h1 ⊢
 clear hga hgk hgf hgm hgr
 rw [show (true && decide (0 < ws.length)) = true by rw [decide_eq_true (by omega)]; rfl] at h1
 have H1 := hide h1
 clear h1
 obtain ⟨w0, hw0⟩ : ∃ x, x = wd ws 0 := ⟨_, rfl⟩
 have HW0 := hide hw0
 rw [← hw0] at hk ⊢
 clear hw0
 have c1 := hk
 clear hk
 subst c1
 have HM := hide (show rdM ws = ⟨1, (nv ws 1), 0, (nv ws 2), decide (wd ws 3 = ⟨#[111, 118, 101, 114]⟩)⟩ by unfold rdM; rw [← HW0.out, if_pos rfl])
 have HK := hide (show rdK ws = (nk ws 1 && nk ws 2 && decide (3 < ws.length)) by unfold rdK; rw [← HW0.out, if_pos rfl])
 go_wp2_with fail
 refine (num_k 1 H1.out hn HSZ.out HG.out).mono ?_
 rintro e w3 ⟨rfl, h3⟩
 have H3 := hide h3
 clear H1 h3
 go_wp2_with fail
 refine (num_k 2 H3.out hn HSZ.out HG.out).mono ?_
 rintro e w4 ⟨rfl, h4⟩
 have H4 := hide h4
 clear H3 h4
 obtain ⟨a0, a1, a2, a3, a4, a5⟩ := box5 H4.out.fm
 have HN := hide (H4.out.setM5 rfl (.int .i64 1) (.int .i64 (nv ws 1)) (.int .i64 0) (.int .i64 (nv ws 2)) (.bool false))
 obtain ⟨VV, hVV⟩ : ∃ V, V = (((((w4.setCell ⟨gm, 0, none⟩ (.int .i64 1)).setCell ⟨gm, 1, none⟩ (.int .i64 (nv ws 1))).setCell ⟨gm, 2, none⟩ (.int .i64 0)).setCell ⟨gm, 3, none⟩ (.int .i64 (nv ws 2))).setCell ⟨gm, 4, none⟩ (.bool false)) := ⟨_, rfl⟩
 rw [← hVV] at HN
 go_upto_region 10 with fail
 rw [← hVV]
 clear hVV a0 a1 a2 a3 a4 a5 H4
 obtain ⟨f0, f1⟩ := row1 HN.out.ff
 go_wp2_with fail
 refine (word_k 3 HN.out hn).mono ?_
 rintro e w8 ⟨rfl, h8⟩
 obtain ⟨wo, hwo⟩ : ∃ x, x = wd ws 3 := ⟨_, rfl⟩
 rw [← hwo] at HM ⊢
 clear hwo f0 f1 HN
 obtain ⟨a0, a1, a2, a3, a4, a5⟩ := box5 h8.fm
 by_cases ho : wo = ⟨#[111, 118, 101, 114]⟩
 ·subst ho
  have HMb := hide (show rdM ws = ⟨1, (nv ws 1), 0, (nv ws 2), true⟩ by rw [HM.out, decide_eq_true rfl])
  have HN := hide (h8.setM 4 (.bool true))
  obtain ⟨VV, hVV⟩ : ∃ V, V = w8.setCell ⟨gm, 4, none⟩ (.bool true) := ⟨_, rfl⟩
  rw [← hVV] at HN
  go_upto_region 20 with fail
  rw [← hVV]
  clear hVV a0 a1 a2 a3 a4 a5 h8
  obtain ⟨a0, a1, a2, a3, a4, a5⟩ := box5 (show Row VV gm 36 [.int .i64 1, .int .i64 (nv ws 1), .int .i64 0, .int .i64 (nv ws 2), .bool true] from HN.out.fm)
  go_wp2_with fail
  refine (line_m 1 (nv ws 1) 0 (nv ws 2) true _ (HG.out.below HN.out.bel) (nv_bounds _ _) (zero_bounds) (nv_bounds _ _)).mono ?_
  rintro e w9 ⟨rfl, h9⟩
  have H9 := hide (HN.out.below h9)
  clear h9 HN a0 a1 a2 a3 a4 a5
  obtain ⟨a0, a1, a2, a3, a4, a5⟩ := box5 (show Row w9 gm 36 [.int .i64 1, .int .i64 (nv ws 1), .int .i64 0, .int .i64 (nv ws 2), .bool true] from H9.out.fm)
  obtain ⟨r0, r1, r2, r3, r4, r5⟩ := box5 H9.out.fr
  have hrm : gr ≠ gm := H9.out.ne.2.2.1
  have hrk : gr ≠ gk := H9.out.ne.2.1.1
  have hlo := H9.out.lo gr (by simp)
  obtain ⟨q0, q1, q2, q3, q4, q5⟩ := box5 (row5set H9.out.fr (.int .i64 1) (.int .i64 (nv ws 1)) (.int .i64 0) (.int .i64 (nv ws 2)) (.bool true))
  have BF := hide (below5 H9.out.bel hlo (.int .i64 1) (.int .i64 (nv ws 1)) (.int .i64 0) (.int .i64 (nv ws 2)) (.bool true))
  obtain ⟨ct, hct⟩ : ∃ x, x = lnT ⟨1, (nv ws 1), 0, (nv ws 2), true⟩ := ⟨_, rfl⟩
  have HT := hide hct
  rw [← hct]
  clear hct
  have HKW := hide (show Row w9 gk 4 [.bool (rdK ws)] by have h := H9.out.fk; rw [HK.out]; simpa only [Bool.true_and, Bool.and_assoc] using h)
  cases hok : rdK ws with
  | false =>
    obtain ⟨k0, k1⟩ := row1 (show Row w9 gk 4 [.bool false] by have h := HKW.out; rw [hok] at h; exact h)
    have HR := hide (show (rdK ws && decide (lnT (rdM ws) = s)) = false by rw [hok]; rfl)
    go_wp2_with fail
    refine bodyPost_ret (v := .tuple #[.agg #[.int .i64 1, .int .i64 (nv ws 1), .int .i64 0, .int .i64 (nv ws 2), .bool true], .bool false]) (by simp [results, Tryz.results44, go_sem, q0, q1, q2, q3, q4]) rfl ?_
    exact ⟨by rw [HR.out, HMb.out]; rfl, BF.out⟩
  | true =>
    obtain ⟨k0, k1⟩ := row1 (show Row w9 gk 4 [.bool true] by have h := HKW.out; rw [hok] at h; exact h)
    by_cases hs : ct = s
    ·have HR := hide (show (rdK ws && decide (lnT (rdM ws) = s)) = true by rw [hok, HMb.out, ← HT.out, hs]; simp)
     subst hs
     go_wp2_with fail
     refine bodyPost_ret (v := .tuple #[.agg #[.int .i64 1, .int .i64 (nv ws 1), .int .i64 0, .int .i64 (nv ws 2), .bool true], .bool true]) (by simp [results, Tryz.results44, go_sem, q0, q1, q2, q3, q4]) rfl ?_
     exact ⟨by rw [HR.out, HMb.out]; rfl, BF.out⟩
    ·have HR := hide (show (rdK ws && decide (lnT (rdM ws) = s)) = false by rw [hok, HMb.out, ← HT.out, decide_eq_false hs]; rfl)
     have hsl := toList_ne hs
     have hsb : decide (ct.toList = s.toList) = false := decide_eq_false hsl
     have hsc : (ct.toList == s.toList) = false := by rw [beq_eq_false_iff_ne]; exact hsl
     go_wp2_with fail
     refine bodyPost_ret (v := .tuple #[.agg #[.int .i64 1, .int .i64 (nv ws 1), .int .i64 0, .int .i64 (nv ws 2), .bool true], .bool false]) (by simp [results, Tryz.results44, go_sem, q0, q1, q2, q3, q4, hsl]) rfl ?_
     exact ⟨by rw [HR.out, HMb.out]; rfl, BF.out⟩
 ·have hob2 : ¬ wo.toList = [111, 118, 101, 114] := toList_lit ho
  have hob : decide (wo.toList = [111, 118, 101, 114]) = false := decide_eq_false hob2
  have hob3 : (wo.toList == [111, 118, 101, 114]) = false := by rw [beq_eq_false_iff_ne]; exact hob2
  have HMb := hide (show rdM ws = ⟨1, (nv ws 1), 0, (nv ws 2), false⟩ by rw [HM.out, decide_eq_false ho])
  have HN := hide (h8.setM 4 (.bool false))
  obtain ⟨VV, hVV⟩ : ∃ V, V = w8.setCell ⟨gm, 4, none⟩ (.bool false) := ⟨_, rfl⟩
  rw [← hVV] at HN
  go_upto_region 20 with fail
  rw [← hVV]
  clear hVV a0 a1 a2 a3 a4 a5 h8
  obtain ⟨a0, a1, a2, a3, a4, a5⟩ := box5 (show Row VV gm 36 [.int .i64 1, .int .i64 (nv ws 1), .int .i64 0, .int .i64 (nv ws 2), .bool false] from HN.out.fm)
  go_wp2_with fail
  refine (line_m 1 (nv ws 1) 0 (nv ws 2) false _ (HG.out.below HN.out.bel) (nv_bounds _ _) (zero_bounds) (nv_bounds _ _)).mono ?_
  rintro e w9 ⟨rfl, h9⟩
  have H9 := hide (HN.out.below h9)
  clear h9 HN a0 a1 a2 a3 a4 a5
  obtain ⟨a0, a1, a2, a3, a4, a5⟩ := box5 (show Row w9 gm 36 [.int .i64 1, .int .i64 (nv ws 1), .int .i64 0, .int .i64 (nv ws 2), .bool false] from H9.out.fm)
  obtain ⟨r0, r1, r2, r3, r4, r5⟩ := box5 H9.out.fr
  have hrm : gr ≠ gm := H9.out.ne.2.2.1
  have hrk : gr ≠ gk := H9.out.ne.2.1.1
  have hlo := H9.out.lo gr (by simp)
  obtain ⟨q0, q1, q2, q3, q4, q5⟩ := box5 (row5set H9.out.fr (.int .i64 1) (.int .i64 (nv ws 1)) (.int .i64 0) (.int .i64 (nv ws 2)) (.bool false))
  have BF := hide (below5 H9.out.bel hlo (.int .i64 1) (.int .i64 (nv ws 1)) (.int .i64 0) (.int .i64 (nv ws 2)) (.bool false))
  obtain ⟨ct, hct⟩ : ∃ x, x = lnT ⟨1, (nv ws 1), 0, (nv ws 2), false⟩ := ⟨_, rfl⟩
  have HT := hide hct
  rw [← hct]
  clear hct
  have HKW := hide (show Row w9 gk 4 [.bool (rdK ws)] by have h := H9.out.fk; rw [HK.out]; simpa only [Bool.true_and, Bool.and_assoc] using h)
  cases hok : rdK ws with
  | false =>
    obtain ⟨k0, k1⟩ := row1 (show Row w9 gk 4 [.bool false] by have h := HKW.out; rw [hok] at h; exact h)
    have HR := hide (show (rdK ws && decide (lnT (rdM ws) = s)) = false by rw [hok]; rfl)
    go_wp2_with fail
    refine bodyPost_ret (v := .tuple #[.agg #[.int .i64 1, .int .i64 (nv ws 1), .int .i64 0, .int .i64 (nv ws 2), .bool false], .bool false]) (by simp [results, Tryz.results44, go_sem, q0, q1, q2, q3, q4]) rfl ?_
    exact ⟨by rw [HR.out, HMb.out]; rfl, BF.out⟩
  | true =>
    obtain ⟨k0, k1⟩ := row1 (show Row w9 gk 4 [.bool true] by have h := HKW.out; rw [hok] at h; exact h)
    by_cases hs : ct = s
    ·have HR := hide (show (rdK ws && decide (lnT (rdM ws) = s)) = true by rw [hok, HMb.out, ← HT.out, hs]; simp)
     subst hs
     go_wp2_with fail
     refine bodyPost_ret (v := .tuple #[.agg #[.int .i64 1, .int .i64 (nv ws 1), .int .i64 0, .int .i64 (nv ws 2), .bool false], .bool true]) (by simp [results, Tryz.results44, go_sem, q0, q1, q2, q3, q4]) rfl ?_
     exact ⟨by rw [HR.out, HMb.out]; rfl, BF.out⟩
    ·have HR := hide (show (rdK ws && decide (lnT (rdM ws) = s)) = false by rw [hok, HMb.out, ← HT.out, decide_eq_false hs]; rfl)
     have hsl := toList_ne hs
     have hsb : decide (ct.toList = s.toList) = false := decide_eq_false hsl
     have hsc : (ct.toList == s.toList) = false := by rw [beq_eq_false_iff_ne]; exact hsl
     go_wp2_with fail
     refine bodyPost_ret (v := .tuple #[.agg #[.int .i64 1, .int .i64 (nv ws 1), .int .i64 0, .int .i64 (nv ws 2), .bool false], .bool false]) (by simp [results, Tryz.results44, go_sem, q0, q1, q2, q3, q4, hsl]) rfl ?_
     exact ⟨by rw [HR.out, HMb.out]; rfl, BF.out⟩
set_option maxRecDepth 100000 in
set_option maxHeartbeats 4000000 in
theorem read_2 (s : ByteArray) (hk : wd (wsR s) 0 = ⟨#[117, 110, 99, 117, 114, 108]⟩) (hs : s.size ≤ 70000) (w : World) (hg : GV w) :
 Calls Tryz.prog 44 #[.string s] w fun e w' => e = .returned (.tuple #[(rdM (wsR s)).v, .bool (rdB s)]) ∧ Below w.heap.size w w' := by
 have HG := hide hg
 clear hg
 obtain ⟨ws, hws⟩ : ∃ ws, ws = wsR s := ⟨_, rfl⟩
 rw [← hws] at hk
 have HB := hide (show rdB s = (rdK ws && decide (lnT (rdM ws) = s)) by rw [hws]; rfl)
 have HMW := hide (show rdM (wsR s) = rdM ws by rw [hws])
 rw [HB.out, HMW.out]
 have hn : ws.length ≤ 100000 := by rw [hws]; have := wsR_many s; omega
 have hn1 : 1 ≤ ws.length := by rw [hws, wsR_len]; omega
 have HSZ := hide (show ∀ x, x ∈ ws → x.size ≤ 100000 by rw [hws]; exact wsR_sizes (by omega))
 have R0 := hide (row_at (W := w) (g := w.heap.size) (t := 36) (vs := [.int .i64 0, .int .i64 0, .int .i64 0, .int .i64 0, .bool false]) rfl)
 have B0 := hide (show Below w.heap.size w (w.alloc (.cells #[.int .i64 0, .int .i64 0, .int .i64 0, .int .i64 0, .bool false] 36)) from (Below.refl _ _).alloc (Nat.le_refl _) _)
 go_enter Tryz.func44, Tryz.ntmps44
 go_wp2_with fail
 refine (split_any s (by omega) _ (HG.out.below B0.out)).mono ?_
 rintro e w1 ⟨⟨gs, rfl, hrs, hgs⟩, hb1⟩
 have R1 := hide (R0.out.below hb1)
 have B1 := hide (B0.out.trans (hb1.mono B0.out.size))
 have S1 := hide hrs
 have hgs2 : w.heap.size < gs := by simp at hgs; omega
 rw [← hws] at S1 ⊢
 have H0 := hide (rd_start R1.out S1.out hgs2 (Nat.le_refl _) B1.out)
 clear hb1 hrs R0 B0 hws hgs R1 B1 S1 hgs2
 go_wp2_with fail
 refine (word_k 0 H0.out hn).mono ?_
 rintro e w2 ⟨rfl, h1⟩
 obtain ⟨gw, hgw⟩ : ∃ g, g = w1.heap.size := ⟨_, rfl⟩
 rw [← hgw] at h1 ⊢
 clear hgw H0
 obtain ⟨ga, hga⟩ : ∃ g, g = gw + 1 := ⟨_, rfl⟩
 rw [← hga] at h1 ⊢
 obtain ⟨gk, hgk⟩ : ∃ g, g = ga + 1 := ⟨_, rfl⟩
 rw [← hgk] at h1 ⊢
 obtain ⟨gf, hgf⟩ : ∃ g, g = gk + 1 := ⟨_, rfl⟩
 rw [← hgf] at h1 ⊢
 obtain ⟨gm, hgm⟩ : ∃ g, g = gf + 1 := ⟨_, rfl⟩
 rw [← hgm] at h1 ⊢
 obtain ⟨gr, hgr⟩ : ∃ g, g = w.heap.size := ⟨_, rfl⟩
 rw [← hgr] at h1 ⊢
 clear hga hgk hgf hgm hgr
 rw [show (true && decide (0 < ws.length)) = true by rw [decide_eq_true (by omega)]; rfl] at h1
 have H1 := hide h1
 clear h1
 obtain ⟨w0, hw0⟩ : ∃ x, x = wd ws 0 := ⟨_, rfl⟩
 have HW0 := hide hw0
 rw [← hw0] at hk ⊢
 clear hw0
 have c2 := hk
 clear hk
 subst c2
 have HM := hide (show rdM ws = ⟨2, (nv ws 1), 0, 0, false⟩ by unfold rdM; rw [← HW0.out, if_neg (by decide), if_pos rfl])
 have HK := hide (show rdK ws = (nk ws 1) by unfold rdK; rw [← HW0.out, if_neg (by decide), if_pos rfl])
 go_wp2_with fail
 refine (num_k 1 H1.out hn HSZ.out HG.out).mono ?_
 rintro e w3 ⟨rfl, h3⟩
 have H3 := hide h3
 clear H1 h3
 obtain ⟨a0, a1, a2, a3, a4, a5⟩ := box5 H3.out.fm
 have HN := hide (H3.out.setM5 rfl (.int .i64 2) (.int .i64 (nv ws 1)) (.int .i64 0) (.int .i64 0) (.bool false))
 obtain ⟨VV, hVV⟩ : ∃ V, V = (((((w3.setCell ⟨gm, 0, none⟩ (.int .i64 2)).setCell ⟨gm, 1, none⟩ (.int .i64 (nv ws 1))).setCell ⟨gm, 2, none⟩ (.int .i64 0)).setCell ⟨gm, 3, none⟩ (.int .i64 0)).setCell ⟨gm, 4, none⟩ (.bool false)) := ⟨_, rfl⟩
 rw [← hVV] at HN
 go_upto_region 20 with fail
 rw [← hVV]
 clear hVV a0 a1 a2 a3 a4 a5 H3
 have HMb := HM
 obtain ⟨a0, a1, a2, a3, a4, a5⟩ := box5 (show Row VV gm 36 [.int .i64 2, .int .i64 (nv ws 1), .int .i64 0, .int .i64 0, .bool false] from HN.out.fm)
 go_wp2_with fail
 refine (line_m 2 (nv ws 1) 0 0 false _ (HG.out.below HN.out.bel) (nv_bounds _ _) (zero_bounds) (zero_bounds)).mono ?_
 rintro e w9 ⟨rfl, h9⟩
 have H9 := hide (HN.out.below h9)
 clear h9 HN a0 a1 a2 a3 a4 a5
 obtain ⟨a0, a1, a2, a3, a4, a5⟩ := box5 (show Row w9 gm 36 [.int .i64 2, .int .i64 (nv ws 1), .int .i64 0, .int .i64 0, .bool false] from H9.out.fm)
 obtain ⟨r0, r1, r2, r3, r4, r5⟩ := box5 H9.out.fr
 have hrm : gr ≠ gm := H9.out.ne.2.2.1
 have hrk : gr ≠ gk := H9.out.ne.2.1.1
 have hlo := H9.out.lo gr (by simp)
 obtain ⟨q0, q1, q2, q3, q4, q5⟩ := box5 (row5set H9.out.fr (.int .i64 2) (.int .i64 (nv ws 1)) (.int .i64 0) (.int .i64 0) (.bool false))
 have BF := hide (below5 H9.out.bel hlo (.int .i64 2) (.int .i64 (nv ws 1)) (.int .i64 0) (.int .i64 0) (.bool false))
 obtain ⟨ct, hct⟩ : ∃ x, x = lnT ⟨2, (nv ws 1), 0, 0, false⟩ := ⟨_, rfl⟩
 have HT := hide hct
 rw [← hct]
 clear hct
 have HKW := hide (show Row w9 gk 4 [.bool (rdK ws)] by have h := H9.out.fk; rw [HK.out]; simpa only [Bool.true_and, Bool.and_assoc] using h)
 cases hok : rdK ws with
 | false =>
   obtain ⟨k0, k1⟩ := row1 (show Row w9 gk 4 [.bool false] by have h := HKW.out; rw [hok] at h; exact h)
   have HR := hide (show (rdK ws && decide (lnT (rdM ws) = s)) = false by rw [hok]; rfl)
   go_wp2_with fail
   refine bodyPost_ret (v := .tuple #[.agg #[.int .i64 2, .int .i64 (nv ws 1), .int .i64 0, .int .i64 0, .bool false], .bool false]) (by simp [results, Tryz.results44, go_sem, q0, q1, q2, q3, q4]) rfl ?_
   exact ⟨by rw [HR.out, HMb.out]; rfl, BF.out⟩
 | true =>
   obtain ⟨k0, k1⟩ := row1 (show Row w9 gk 4 [.bool true] by have h := HKW.out; rw [hok] at h; exact h)
   by_cases hs : ct = s
   ·have HR := hide (show (rdK ws && decide (lnT (rdM ws) = s)) = true by rw [hok, HMb.out, ← HT.out, hs]; simp)
    subst hs
    go_wp2_with fail
    refine bodyPost_ret (v := .tuple #[.agg #[.int .i64 2, .int .i64 (nv ws 1), .int .i64 0, .int .i64 0, .bool false], .bool true]) (by simp [results, Tryz.results44, go_sem, q0, q1, q2, q3, q4]) rfl ?_
    exact ⟨by rw [HR.out, HMb.out]; rfl, BF.out⟩
   ·have HR := hide (show (rdK ws && decide (lnT (rdM ws) = s)) = false by rw [hok, HMb.out, ← HT.out, decide_eq_false hs]; rfl)
    have hsl := toList_ne hs
    have hsb : decide (ct.toList = s.toList) = false := decide_eq_false hsl
    have hsc : (ct.toList == s.toList) = false := by rw [beq_eq_false_iff_ne]; exact hsl
    go_wp2_with fail
    refine bodyPost_ret (v := .tuple #[.agg #[.int .i64 2, .int .i64 (nv ws 1), .int .i64 0, .int .i64 0, .bool false], .bool false]) (by simp [results, Tryz.results44, go_sem, q0, q1, q2, q3, q4, hsl]) rfl ?_
    exact ⟨by rw [HR.out, HMb.out]; rfl, BF.out⟩
set_option maxRecDepth 100000 in
set_option maxHeartbeats 4000000 in
theorem read_3 (s : ByteArray) (hk : wd (wsR s) 0 = ⟨#[112, 111, 107, 101]⟩) (hs : s.size ≤ 70000) (w : World) (hg : GV w) :
 Calls Tryz.prog 44 #[.string s] w fun e w' => e = .returned (.tuple #[(rdM (wsR s)).v, .bool (rdB s)]) ∧ Below w.heap.size w w' := by
 have HG := hide hg
 clear hg
 obtain ⟨ws, hws⟩ : ∃ ws, ws = wsR s := ⟨_, rfl⟩
 rw [← hws] at hk
 have HB := hide (show rdB s = (rdK ws && decide (lnT (rdM ws) = s)) by rw [hws]; rfl)
 have HMW := hide (show rdM (wsR s) = rdM ws by rw [hws])
 rw [HB.out, HMW.out]
 have hn : ws.length ≤ 100000 := by rw [hws]; have := wsR_many s; omega
 have hn1 : 1 ≤ ws.length := by rw [hws, wsR_len]; omega
 have HSZ := hide (show ∀ x, x ∈ ws → x.size ≤ 100000 by rw [hws]; exact wsR_sizes (by omega))
 have R0 := hide (row_at (W := w) (g := w.heap.size) (t := 36) (vs := [.int .i64 0, .int .i64 0, .int .i64 0, .int .i64 0, .bool false]) rfl)
 have B0 := hide (show Below w.heap.size w (w.alloc (.cells #[.int .i64 0, .int .i64 0, .int .i64 0, .int .i64 0, .bool false] 36)) from (Below.refl _ _).alloc (Nat.le_refl _) _)
 go_enter Tryz.func44, Tryz.ntmps44
 go_wp2_with fail
 refine (split_any s (by omega) _ (HG.out.below B0.out)).mono ?_
 rintro e w1 ⟨⟨gs, rfl, hrs, hgs⟩, hb1⟩
 have R1 := hide (R0.out.below hb1)
 have B1 := hide (B0.out.trans (hb1.mono B0.out.size))
 have S1 := hide hrs
 have hgs2 : w.heap.size < gs := by simp at hgs; omega
 rw [← hws] at S1 ⊢
 have H0 := hide (rd_start R1.out S1.out hgs2 (Nat.le_refl _) B1.out)
 clear hb1 hrs R0 B0 hws hgs R1 B1 S1 hgs2
 go_wp2_with fail
 refine (word_k 0 H0.out hn).mono ?_
 rintro e w2 ⟨rfl, h1⟩
 obtain ⟨gw, hgw⟩ : ∃ g, g = w1.heap.size := ⟨_, rfl⟩
 rw [← hgw] at h1 ⊢
 clear hgw H0
 obtain ⟨ga, hga⟩ : ∃ g, g = gw + 1 := ⟨_, rfl⟩
 rw [← hga] at h1 ⊢
 obtain ⟨gk, hgk⟩ : ∃ g, g = ga + 1 := ⟨_, rfl⟩
 rw [← hgk] at h1 ⊢
 obtain ⟨gf, hgf⟩ : ∃ g, g = gk + 1 := ⟨_, rfl⟩
 rw [← hgf] at h1 ⊢
 obtain ⟨gm, hgm⟩ : ∃ g, g = gf + 1 := ⟨_, rfl⟩
 rw [← hgm] at h1 ⊢
 obtain ⟨gr, hgr⟩ : ∃ g, g = w.heap.size := ⟨_, rfl⟩
 rw [← hgr] at h1 ⊢
 clear hga hgk hgf hgm hgr
 rw [show (true && decide (0 < ws.length)) = true by rw [decide_eq_true (by omega)]; rfl] at h1
 have H1 := hide h1
 clear h1
 obtain ⟨w0, hw0⟩ : ∃ x, x = wd ws 0 := ⟨_, rfl⟩
 have HW0 := hide hw0
 rw [← hw0] at hk ⊢
 clear hw0
 have c3 := hk
 clear hk
 subst c3
 have HM := hide (show rdM ws = ⟨3, (nv ws 1), (nv ws 2), (nv ws 3), decide (wd ws 4 = ⟨#[111, 118, 101, 114]⟩)⟩ by unfold rdM; rw [← HW0.out, if_neg (by decide), if_neg (by decide), if_pos rfl])
 have HK := hide (show rdK ws = (nk ws 1 && nk ws 2 && nk ws 3 && decide (4 < ws.length)) by unfold rdK; rw [← HW0.out, if_neg (by decide), if_neg (by decide), if_pos rfl])
 go_wp2_with fail
 refine (num_k 1 H1.out hn HSZ.out HG.out).mono ?_
 rintro e w3 ⟨rfl, h3⟩
 have H3 := hide h3
 clear H1 h3
 go_wp2_with fail
 refine (num_k 2 H3.out hn HSZ.out HG.out).mono ?_
 rintro e w4 ⟨rfl, h4⟩
 have H4 := hide h4
 clear H3 h4
 go_wp2_with fail
 refine (num_k 3 H4.out hn HSZ.out HG.out).mono ?_
 rintro e w5 ⟨rfl, h5⟩
 have H5 := hide h5
 clear H4 h5
 obtain ⟨a0, a1, a2, a3, a4, a5⟩ := box5 H5.out.fm
 have HN := hide (H5.out.setM5 rfl (.int .i64 3) (.int .i64 (nv ws 1)) (.int .i64 (nv ws 2)) (.int .i64 (nv ws 3)) (.bool false))
 obtain ⟨VV, hVV⟩ : ∃ V, V = (((((w5.setCell ⟨gm, 0, none⟩ (.int .i64 3)).setCell ⟨gm, 1, none⟩ (.int .i64 (nv ws 1))).setCell ⟨gm, 2, none⟩ (.int .i64 (nv ws 2))).setCell ⟨gm, 3, none⟩ (.int .i64 (nv ws 3))).setCell ⟨gm, 4, none⟩ (.bool false)) := ⟨_, rfl⟩
 rw [← hVV] at HN
 go_upto_region 15 with fail
 rw [← hVV]
 clear hVV a0 a1 a2 a3 a4 a5 H5
 obtain ⟨f0, f1⟩ := row1 HN.out.ff
 go_wp2_with fail
 refine (word_k 4 HN.out hn).mono ?_
 rintro e w8 ⟨rfl, h8⟩
 obtain ⟨wo, hwo⟩ : ∃ x, x = wd ws 4 := ⟨_, rfl⟩
 rw [← hwo] at HM ⊢
 clear hwo f0 f1 HN
 obtain ⟨a0, a1, a2, a3, a4, a5⟩ := box5 h8.fm
 by_cases ho : wo = ⟨#[111, 118, 101, 114]⟩
 ·subst ho
  have HMb := hide (show rdM ws = ⟨3, (nv ws 1), (nv ws 2), (nv ws 3), true⟩ by rw [HM.out, decide_eq_true rfl])
  have HN := hide (h8.setM 4 (.bool true))
  obtain ⟨VV, hVV⟩ : ∃ V, V = w8.setCell ⟨gm, 4, none⟩ (.bool true) := ⟨_, rfl⟩
  rw [← hVV] at HN
  go_upto_region 20 with fail
  rw [← hVV]
  clear hVV a0 a1 a2 a3 a4 a5 h8
  obtain ⟨a0, a1, a2, a3, a4, a5⟩ := box5 (show Row VV gm 36 [.int .i64 3, .int .i64 (nv ws 1), .int .i64 (nv ws 2), .int .i64 (nv ws 3), .bool true] from HN.out.fm)
  go_wp2_with fail
  refine (line_m 3 (nv ws 1) (nv ws 2) (nv ws 3) true _ (HG.out.below HN.out.bel) (nv_bounds _ _) (nv_bounds _ _) (nv_bounds _ _)).mono ?_
  rintro e w9 ⟨rfl, h9⟩
  have H9 := hide (HN.out.below h9)
  clear h9 HN a0 a1 a2 a3 a4 a5
  obtain ⟨a0, a1, a2, a3, a4, a5⟩ := box5 (show Row w9 gm 36 [.int .i64 3, .int .i64 (nv ws 1), .int .i64 (nv ws 2), .int .i64 (nv ws 3), .bool true] from H9.out.fm)
  obtain ⟨r0, r1, r2, r3, r4, r5⟩ := box5 H9.out.fr
  have hrm : gr ≠ gm := H9.out.ne.2.2.1
  have hrk : gr ≠ gk := H9.out.ne.2.1.1
  have hlo := H9.out.lo gr (by simp)
  obtain ⟨q0, q1, q2, q3, q4, q5⟩ := box5 (row5set H9.out.fr (.int .i64 3) (.int .i64 (nv ws 1)) (.int .i64 (nv ws 2)) (.int .i64 (nv ws 3)) (.bool true))
  have BF := hide (below5 H9.out.bel hlo (.int .i64 3) (.int .i64 (nv ws 1)) (.int .i64 (nv ws 2)) (.int .i64 (nv ws 3)) (.bool true))
  obtain ⟨ct, hct⟩ : ∃ x, x = lnT ⟨3, (nv ws 1), (nv ws 2), (nv ws 3), true⟩ := ⟨_, rfl⟩
  have HT := hide hct
  rw [← hct]
  clear hct
  have HKW := hide (show Row w9 gk 4 [.bool (rdK ws)] by have h := H9.out.fk; rw [HK.out]; simpa only [Bool.true_and, Bool.and_assoc] using h)
  cases hok : rdK ws with
  | false =>
    obtain ⟨k0, k1⟩ := row1 (show Row w9 gk 4 [.bool false] by have h := HKW.out; rw [hok] at h; exact h)
    have HR := hide (show (rdK ws && decide (lnT (rdM ws) = s)) = false by rw [hok]; rfl)
    go_wp2_with fail
    refine bodyPost_ret (v := .tuple #[.agg #[.int .i64 3, .int .i64 (nv ws 1), .int .i64 (nv ws 2), .int .i64 (nv ws 3), .bool true], .bool false]) (by simp [results, Tryz.results44, go_sem, q0, q1, q2, q3, q4]) rfl ?_
    exact ⟨by rw [HR.out, HMb.out]; rfl, BF.out⟩
  | true =>
    obtain ⟨k0, k1⟩ := row1 (show Row w9 gk 4 [.bool true] by have h := HKW.out; rw [hok] at h; exact h)
    by_cases hs : ct = s
    ·have HR := hide (show (rdK ws && decide (lnT (rdM ws) = s)) = true by rw [hok, HMb.out, ← HT.out, hs]; simp)
     subst hs
     go_wp2_with fail
     refine bodyPost_ret (v := .tuple #[.agg #[.int .i64 3, .int .i64 (nv ws 1), .int .i64 (nv ws 2), .int .i64 (nv ws 3), .bool true], .bool true]) (by simp [results, Tryz.results44, go_sem, q0, q1, q2, q3, q4]) rfl ?_
     exact ⟨by rw [HR.out, HMb.out]; rfl, BF.out⟩
    ·have HR := hide (show (rdK ws && decide (lnT (rdM ws) = s)) = false by rw [hok, HMb.out, ← HT.out, decide_eq_false hs]; rfl)
     have hsl := toList_ne hs
     have hsb : decide (ct.toList = s.toList) = false := decide_eq_false hsl
     have hsc : (ct.toList == s.toList) = false := by rw [beq_eq_false_iff_ne]; exact hsl
     go_wp2_with fail
     refine bodyPost_ret (v := .tuple #[.agg #[.int .i64 3, .int .i64 (nv ws 1), .int .i64 (nv ws 2), .int .i64 (nv ws 3), .bool true], .bool false]) (by simp [results, Tryz.results44, go_sem, q0, q1, q2, q3, q4, hsl]) rfl ?_
     exact ⟨by rw [HR.out, HMb.out]; rfl, BF.out⟩
 ·have hob2 : ¬ wo.toList = [111, 118, 101, 114] := toList_lit ho
  have hob : decide (wo.toList = [111, 118, 101, 114]) = false := decide_eq_false hob2
  have hob3 : (wo.toList == [111, 118, 101, 114]) = false := by rw [beq_eq_false_iff_ne]; exact hob2
  have HMb := hide (show rdM ws = ⟨3, (nv ws 1), (nv ws 2), (nv ws 3), false⟩ by rw [HM.out, decide_eq_false ho])
  have HN := hide (h8.setM 4 (.bool false))
  obtain ⟨VV, hVV⟩ : ∃ V, V = w8.setCell ⟨gm, 4, none⟩ (.bool false) := ⟨_, rfl⟩
  rw [← hVV] at HN
  go_upto_region 20 with fail
  rw [← hVV]
  clear hVV a0 a1 a2 a3 a4 a5 h8
  obtain ⟨a0, a1, a2, a3, a4, a5⟩ := box5 (show Row VV gm 36 [.int .i64 3, .int .i64 (nv ws 1), .int .i64 (nv ws 2), .int .i64 (nv ws 3), .bool false] from HN.out.fm)
  go_wp2_with fail
  refine (line_m 3 (nv ws 1) (nv ws 2) (nv ws 3) false _ (HG.out.below HN.out.bel) (nv_bounds _ _) (nv_bounds _ _) (nv_bounds _ _)).mono ?_
  rintro e w9 ⟨rfl, h9⟩
  have H9 := hide (HN.out.below h9)
  clear h9 HN a0 a1 a2 a3 a4 a5
  obtain ⟨a0, a1, a2, a3, a4, a5⟩ := box5 (show Row w9 gm 36 [.int .i64 3, .int .i64 (nv ws 1), .int .i64 (nv ws 2), .int .i64 (nv ws 3), .bool false] from H9.out.fm)
  obtain ⟨r0, r1, r2, r3, r4, r5⟩ := box5 H9.out.fr
  have hrm : gr ≠ gm := H9.out.ne.2.2.1
  have hrk : gr ≠ gk := H9.out.ne.2.1.1
  have hlo := H9.out.lo gr (by simp)
  obtain ⟨q0, q1, q2, q3, q4, q5⟩ := box5 (row5set H9.out.fr (.int .i64 3) (.int .i64 (nv ws 1)) (.int .i64 (nv ws 2)) (.int .i64 (nv ws 3)) (.bool false))
  have BF := hide (below5 H9.out.bel hlo (.int .i64 3) (.int .i64 (nv ws 1)) (.int .i64 (nv ws 2)) (.int .i64 (nv ws 3)) (.bool false))
  obtain ⟨ct, hct⟩ : ∃ x, x = lnT ⟨3, (nv ws 1), (nv ws 2), (nv ws 3), false⟩ := ⟨_, rfl⟩
  have HT := hide hct
  rw [← hct]
  clear hct
  have HKW := hide (show Row w9 gk 4 [.bool (rdK ws)] by have h := H9.out.fk; rw [HK.out]; simpa only [Bool.true_and, Bool.and_assoc] using h)
  cases hok : rdK ws with
  | false =>
    obtain ⟨k0, k1⟩ := row1 (show Row w9 gk 4 [.bool false] by have h := HKW.out; rw [hok] at h; exact h)
    have HR := hide (show (rdK ws && decide (lnT (rdM ws) = s)) = false by rw [hok]; rfl)
    go_wp2_with fail
    refine bodyPost_ret (v := .tuple #[.agg #[.int .i64 3, .int .i64 (nv ws 1), .int .i64 (nv ws 2), .int .i64 (nv ws 3), .bool false], .bool false]) (by simp [results, Tryz.results44, go_sem, q0, q1, q2, q3, q4]) rfl ?_
    exact ⟨by rw [HR.out, HMb.out]; rfl, BF.out⟩
  | true =>
    obtain ⟨k0, k1⟩ := row1 (show Row w9 gk 4 [.bool true] by have h := HKW.out; rw [hok] at h; exact h)
    by_cases hs : ct = s
    ·have HR := hide (show (rdK ws && decide (lnT (rdM ws) = s)) = true by rw [hok, HMb.out, ← HT.out, hs]; simp)
     subst hs
     go_wp2_with fail
     refine bodyPost_ret (v := .tuple #[.agg #[.int .i64 3, .int .i64 (nv ws 1), .int .i64 (nv ws 2), .int .i64 (nv ws 3), .bool false], .bool true]) (by simp [results, Tryz.results44, go_sem, q0, q1, q2, q3, q4]) rfl ?_
     exact ⟨by rw [HR.out, HMb.out]; rfl, BF.out⟩
    ·have HR := hide (show (rdK ws && decide (lnT (rdM ws) = s)) = false by rw [hok, HMb.out, ← HT.out, decide_eq_false hs]; rfl)
     have hsl := toList_ne hs
     have hsb : decide (ct.toList = s.toList) = false := decide_eq_false hsl
     have hsc : (ct.toList == s.toList) = false := by rw [beq_eq_false_iff_ne]; exact hsl
     go_wp2_with fail
     refine bodyPost_ret (v := .tuple #[.agg #[.int .i64 3, .int .i64 (nv ws 1), .int .i64 (nv ws 2), .int .i64 (nv ws 3), .bool false], .bool false]) (by simp [results, Tryz.results44, go_sem, q0, q1, q2, q3, q4, hsl]) rfl ?_
     exact ⟨by rw [HR.out, HMb.out]; rfl, BF.out⟩
set_option maxRecDepth 100000 in
set_option maxHeartbeats 4000000 in
theorem read_4 (s : ByteArray) (hk : wd (wsR s) 0 = ⟨#[117, 110, 112, 111, 107, 101]⟩) (hs : s.size ≤ 70000) (w : World) (hg : GV w) :
 Calls Tryz.prog 44 #[.string s] w fun e w' => e = .returned (.tuple #[(rdM (wsR s)).v, .bool (rdB s)]) ∧ Below w.heap.size w w' := by
 have HG := hide hg
 clear hg
 obtain ⟨ws, hws⟩ : ∃ ws, ws = wsR s := ⟨_, rfl⟩
 rw [← hws] at hk
 have HB := hide (show rdB s = (rdK ws && decide (lnT (rdM ws) = s)) by rw [hws]; rfl)
 have HMW := hide (show rdM (wsR s) = rdM ws by rw [hws])
 rw [HB.out, HMW.out]
 have hn : ws.length ≤ 100000 := by rw [hws]; have := wsR_many s; omega
 have hn1 : 1 ≤ ws.length := by rw [hws, wsR_len]; omega
 have HSZ := hide (show ∀ x, x ∈ ws → x.size ≤ 100000 by rw [hws]; exact wsR_sizes (by omega))
 have R0 := hide (row_at (W := w) (g := w.heap.size) (t := 36) (vs := [.int .i64 0, .int .i64 0, .int .i64 0, .int .i64 0, .bool false]) rfl)
 have B0 := hide (show Below w.heap.size w (w.alloc (.cells #[.int .i64 0, .int .i64 0, .int .i64 0, .int .i64 0, .bool false] 36)) from (Below.refl _ _).alloc (Nat.le_refl _) _)
 go_enter Tryz.func44, Tryz.ntmps44
 go_wp2_with fail
 refine (split_any s (by omega) _ (HG.out.below B0.out)).mono ?_
 rintro e w1 ⟨⟨gs, rfl, hrs, hgs⟩, hb1⟩
 have R1 := hide (R0.out.below hb1)
 have B1 := hide (B0.out.trans (hb1.mono B0.out.size))
 have S1 := hide hrs
 have hgs2 : w.heap.size < gs := by simp at hgs; omega
 rw [← hws] at S1 ⊢
 have H0 := hide (rd_start R1.out S1.out hgs2 (Nat.le_refl _) B1.out)
 clear hb1 hrs R0 B0 hws hgs R1 B1 S1 hgs2
 go_wp2_with fail
 refine (word_k 0 H0.out hn).mono ?_
 rintro e w2 ⟨rfl, h1⟩
 obtain ⟨gw, hgw⟩ : ∃ g, g = w1.heap.size := ⟨_, rfl⟩
 rw [← hgw] at h1 ⊢
 clear hgw H0
 obtain ⟨ga, hga⟩ : ∃ g, g = gw + 1 := ⟨_, rfl⟩
 rw [← hga] at h1 ⊢
 obtain ⟨gk, hgk⟩ : ∃ g, g = ga + 1 := ⟨_, rfl⟩
 rw [← hgk] at h1 ⊢
 obtain ⟨gf, hgf⟩ : ∃ g, g = gk + 1 := ⟨_, rfl⟩
 rw [← hgf] at h1 ⊢
 obtain ⟨gm, hgm⟩ : ∃ g, g = gf + 1 := ⟨_, rfl⟩
 rw [← hgm] at h1 ⊢
 obtain ⟨gr, hgr⟩ : ∃ g, g = w.heap.size := ⟨_, rfl⟩
 rw [← hgr] at h1 ⊢
 clear hga hgk hgf hgm hgr
 rw [show (true && decide (0 < ws.length)) = true by rw [decide_eq_true (by omega)]; rfl] at h1
 have H1 := hide h1
 clear h1
 obtain ⟨w0, hw0⟩ : ∃ x, x = wd ws 0 := ⟨_, rfl⟩
 have HW0 := hide hw0
 rw [← hw0] at hk ⊢
 clear hw0
 have c4 := hk
 clear hk
 subst c4
 have HM := hide (show rdM ws = ⟨4, (nv ws 1), (nv ws 2), 0, false⟩ by unfold rdM; rw [← HW0.out, if_neg (by decide), if_neg (by decide), if_neg (by decide), if_pos rfl])
 have HK := hide (show rdK ws = (nk ws 1 && nk ws 2) by unfold rdK; rw [← HW0.out, if_neg (by decide), if_neg (by decide), if_neg (by decide), if_pos rfl])
 go_wp2_with fail
 refine (num_k 1 H1.out hn HSZ.out HG.out).mono ?_
 rintro e w3 ⟨rfl, h3⟩
 have H3 := hide h3
 clear H1 h3
 go_wp2_with fail
 refine (num_k 2 H3.out hn HSZ.out HG.out).mono ?_
 rintro e w4 ⟨rfl, h4⟩
 have H4 := hide h4
 clear H3 h4
 obtain ⟨a0, a1, a2, a3, a4, a5⟩ := box5 H4.out.fm
 have HN := hide (H4.out.setM5 rfl (.int .i64 4) (.int .i64 (nv ws 1)) (.int .i64 (nv ws 2)) (.int .i64 0) (.bool false))
 obtain ⟨VV, hVV⟩ : ∃ V, V = (((((w4.setCell ⟨gm, 0, none⟩ (.int .i64 4)).setCell ⟨gm, 1, none⟩ (.int .i64 (nv ws 1))).setCell ⟨gm, 2, none⟩ (.int .i64 (nv ws 2))).setCell ⟨gm, 3, none⟩ (.int .i64 0)).setCell ⟨gm, 4, none⟩ (.bool false)) := ⟨_, rfl⟩
 rw [← hVV] at HN
 go_upto_region 20 with fail
 rw [← hVV]
 clear hVV a0 a1 a2 a3 a4 a5 H4
 have HMb := HM
 obtain ⟨a0, a1, a2, a3, a4, a5⟩ := box5 (show Row VV gm 36 [.int .i64 4, .int .i64 (nv ws 1), .int .i64 (nv ws 2), .int .i64 0, .bool false] from HN.out.fm)
 go_wp2_with fail
 refine (line_m 4 (nv ws 1) (nv ws 2) 0 false _ (HG.out.below HN.out.bel) (nv_bounds _ _) (nv_bounds _ _) (zero_bounds)).mono ?_
 rintro e w9 ⟨rfl, h9⟩
 have H9 := hide (HN.out.below h9)
 clear h9 HN a0 a1 a2 a3 a4 a5
 obtain ⟨a0, a1, a2, a3, a4, a5⟩ := box5 (show Row w9 gm 36 [.int .i64 4, .int .i64 (nv ws 1), .int .i64 (nv ws 2), .int .i64 0, .bool false] from H9.out.fm)
 obtain ⟨r0, r1, r2, r3, r4, r5⟩ := box5 H9.out.fr
 have hrm : gr ≠ gm := H9.out.ne.2.2.1
 have hrk : gr ≠ gk := H9.out.ne.2.1.1
 have hlo := H9.out.lo gr (by simp)
 obtain ⟨q0, q1, q2, q3, q4, q5⟩ := box5 (row5set H9.out.fr (.int .i64 4) (.int .i64 (nv ws 1)) (.int .i64 (nv ws 2)) (.int .i64 0) (.bool false))
 have BF := hide (below5 H9.out.bel hlo (.int .i64 4) (.int .i64 (nv ws 1)) (.int .i64 (nv ws 2)) (.int .i64 0) (.bool false))
 obtain ⟨ct, hct⟩ : ∃ x, x = lnT ⟨4, (nv ws 1), (nv ws 2), 0, false⟩ := ⟨_, rfl⟩
 have HT := hide hct
 rw [← hct]
 clear hct
 have HKW := hide (show Row w9 gk 4 [.bool (rdK ws)] by have h := H9.out.fk; rw [HK.out]; simpa only [Bool.true_and, Bool.and_assoc] using h)
 cases hok : rdK ws with
 | false =>
   obtain ⟨k0, k1⟩ := row1 (show Row w9 gk 4 [.bool false] by have h := HKW.out; rw [hok] at h; exact h)
   have HR := hide (show (rdK ws && decide (lnT (rdM ws) = s)) = false by rw [hok]; rfl)
   go_wp2_with fail
   refine bodyPost_ret (v := .tuple #[.agg #[.int .i64 4, .int .i64 (nv ws 1), .int .i64 (nv ws 2), .int .i64 0, .bool false], .bool false]) (by simp [results, Tryz.results44, go_sem, q0, q1, q2, q3, q4]) rfl ?_
   exact ⟨by rw [HR.out, HMb.out]; rfl, BF.out⟩
 | true =>
   obtain ⟨k0, k1⟩ := row1 (show Row w9 gk 4 [.bool true] by have h := HKW.out; rw [hok] at h; exact h)
   by_cases hs : ct = s
   ·have HR := hide (show (rdK ws && decide (lnT (rdM ws) = s)) = true by rw [hok, HMb.out, ← HT.out, hs]; simp)
    subst hs
    go_wp2_with fail
    refine bodyPost_ret (v := .tuple #[.agg #[.int .i64 4, .int .i64 (nv ws 1), .int .i64 (nv ws 2), .int .i64 0, .bool false], .bool true]) (by simp [results, Tryz.results44, go_sem, q0, q1, q2, q3, q4]) rfl ?_
    exact ⟨by rw [HR.out, HMb.out]; rfl, BF.out⟩
   ·have HR := hide (show (rdK ws && decide (lnT (rdM ws) = s)) = false by rw [hok, HMb.out, ← HT.out, decide_eq_false hs]; rfl)
    have hsl := toList_ne hs
    have hsb : decide (ct.toList = s.toList) = false := decide_eq_false hsl
    have hsc : (ct.toList == s.toList) = false := by rw [beq_eq_false_iff_ne]; exact hsl
    go_wp2_with fail
    refine bodyPost_ret (v := .tuple #[.agg #[.int .i64 4, .int .i64 (nv ws 1), .int .i64 (nv ws 2), .int .i64 0, .bool false], .bool false]) (by simp [results, Tryz.results44, go_sem, q0, q1, q2, q3, q4, hsl]) rfl ?_
    exact ⟨by rw [HR.out, HMb.out]; rfl, BF.out⟩
set_option maxRecDepth 100000 in
set_option maxHeartbeats 4000000 in
theorem read_5 (s : ByteArray) (hk : wd (wsR s) 0 = ⟨#[115, 108, 105, 100, 101]⟩) (hs : s.size ≤ 70000) (w : World) (hg : GV w) :
 Calls Tryz.prog 44 #[.string s] w fun e w' => e = .returned (.tuple #[(rdM (wsR s)).v, .bool (rdB s)]) ∧ Below w.heap.size w w' := by
 have HG := hide hg
 clear hg
 obtain ⟨ws, hws⟩ : ∃ ws, ws = wsR s := ⟨_, rfl⟩
 rw [← hws] at hk
 have HB := hide (show rdB s = (rdK ws && decide (lnT (rdM ws) = s)) by rw [hws]; rfl)
 have HMW := hide (show rdM (wsR s) = rdM ws by rw [hws])
 rw [HB.out, HMW.out]
 have hn : ws.length ≤ 100000 := by rw [hws]; have := wsR_many s; omega
 have hn1 : 1 ≤ ws.length := by rw [hws, wsR_len]; omega
 have HSZ := hide (show ∀ x, x ∈ ws → x.size ≤ 100000 by rw [hws]; exact wsR_sizes (by omega))
 have R0 := hide (row_at (W := w) (g := w.heap.size) (t := 36) (vs := [.int .i64 0, .int .i64 0, .int .i64 0, .int .i64 0, .bool false]) rfl)
 have B0 := hide (show Below w.heap.size w (w.alloc (.cells #[.int .i64 0, .int .i64 0, .int .i64 0, .int .i64 0, .bool false] 36)) from (Below.refl _ _).alloc (Nat.le_refl _) _)
 go_enter Tryz.func44, Tryz.ntmps44
 go_wp2_with fail
 refine (split_any s (by omega) _ (HG.out.below B0.out)).mono ?_
 rintro e w1 ⟨⟨gs, rfl, hrs, hgs⟩, hb1⟩
 have R1 := hide (R0.out.below hb1)
 have B1 := hide (B0.out.trans (hb1.mono B0.out.size))
 have S1 := hide hrs
 have hgs2 : w.heap.size < gs := by simp at hgs; omega
 rw [← hws] at S1 ⊢
 have H0 := hide (rd_start R1.out S1.out hgs2 (Nat.le_refl _) B1.out)
 clear hb1 hrs R0 B0 hws hgs R1 B1 S1 hgs2
 go_wp2_with fail
 refine (word_k 0 H0.out hn).mono ?_
 rintro e w2 ⟨rfl, h1⟩
 obtain ⟨gw, hgw⟩ : ∃ g, g = w1.heap.size := ⟨_, rfl⟩
 rw [← hgw] at h1 ⊢
 clear hgw H0
 obtain ⟨ga, hga⟩ : ∃ g, g = gw + 1 := ⟨_, rfl⟩
 rw [← hga] at h1 ⊢
 obtain ⟨gk, hgk⟩ : ∃ g, g = ga + 1 := ⟨_, rfl⟩
 rw [← hgk] at h1 ⊢
 obtain ⟨gf, hgf⟩ : ∃ g, g = gk + 1 := ⟨_, rfl⟩
 rw [← hgf] at h1 ⊢
 obtain ⟨gm, hgm⟩ : ∃ g, g = gf + 1 := ⟨_, rfl⟩
 rw [← hgm] at h1 ⊢
 obtain ⟨gr, hgr⟩ : ∃ g, g = w.heap.size := ⟨_, rfl⟩
 rw [← hgr] at h1 ⊢
 clear hga hgk hgf hgm hgr
 rw [show (true && decide (0 < ws.length)) = true by rw [decide_eq_true (by omega)]; rfl] at h1
 have H1 := hide h1
 clear h1
 obtain ⟨w0, hw0⟩ : ∃ x, x = wd ws 0 := ⟨_, rfl⟩
 have HW0 := hide hw0
 rw [← hw0] at hk ⊢
 clear hw0
 have c5 := hk
 clear hk
 subst c5
 have HM := hide (show rdM ws = ⟨5, (nv ws 1), 0, 0, false⟩ by unfold rdM; rw [← HW0.out, if_neg (by decide), if_neg (by decide), if_neg (by decide), if_neg (by decide), if_pos rfl])
 have HK := hide (show rdK ws = (nk ws 1) by unfold rdK; rw [← HW0.out, if_neg (by decide), if_neg (by decide), if_neg (by decide), if_neg (by decide), if_pos rfl])
 go_wp2_with fail
 refine (num_k 1 H1.out hn HSZ.out HG.out).mono ?_
 rintro e w3 ⟨rfl, h3⟩
 have H3 := hide h3
 clear H1 h3
 obtain ⟨a0, a1, a2, a3, a4, a5⟩ := box5 H3.out.fm
 have HN := hide (H3.out.setM5 rfl (.int .i64 5) (.int .i64 (nv ws 1)) (.int .i64 0) (.int .i64 0) (.bool false))
 obtain ⟨VV, hVV⟩ : ∃ V, V = (((((w3.setCell ⟨gm, 0, none⟩ (.int .i64 5)).setCell ⟨gm, 1, none⟩ (.int .i64 (nv ws 1))).setCell ⟨gm, 2, none⟩ (.int .i64 0)).setCell ⟨gm, 3, none⟩ (.int .i64 0)).setCell ⟨gm, 4, none⟩ (.bool false)) := ⟨_, rfl⟩
 rw [← hVV] at HN
 go_upto_region 20 with fail
 rw [← hVV]
 clear hVV a0 a1 a2 a3 a4 a5 H3
 have HMb := HM
 obtain ⟨a0, a1, a2, a3, a4, a5⟩ := box5 (show Row VV gm 36 [.int .i64 5, .int .i64 (nv ws 1), .int .i64 0, .int .i64 0, .bool false] from HN.out.fm)
 go_wp2_with fail
 refine (line_m 5 (nv ws 1) 0 0 false _ (HG.out.below HN.out.bel) (nv_bounds _ _) (zero_bounds) (zero_bounds)).mono ?_
 rintro e w9 ⟨rfl, h9⟩
 have H9 := hide (HN.out.below h9)
 clear h9 HN a0 a1 a2 a3 a4 a5
 obtain ⟨a0, a1, a2, a3, a4, a5⟩ := box5 (show Row w9 gm 36 [.int .i64 5, .int .i64 (nv ws 1), .int .i64 0, .int .i64 0, .bool false] from H9.out.fm)
 obtain ⟨r0, r1, r2, r3, r4, r5⟩ := box5 H9.out.fr
 have hrm : gr ≠ gm := H9.out.ne.2.2.1
 have hrk : gr ≠ gk := H9.out.ne.2.1.1
 have hlo := H9.out.lo gr (by simp)
 obtain ⟨q0, q1, q2, q3, q4, q5⟩ := box5 (row5set H9.out.fr (.int .i64 5) (.int .i64 (nv ws 1)) (.int .i64 0) (.int .i64 0) (.bool false))
 have BF := hide (below5 H9.out.bel hlo (.int .i64 5) (.int .i64 (nv ws 1)) (.int .i64 0) (.int .i64 0) (.bool false))
 obtain ⟨ct, hct⟩ : ∃ x, x = lnT ⟨5, (nv ws 1), 0, 0, false⟩ := ⟨_, rfl⟩
 have HT := hide hct
 rw [← hct]
 clear hct
 have HKW := hide (show Row w9 gk 4 [.bool (rdK ws)] by have h := H9.out.fk; rw [HK.out]; simpa only [Bool.true_and, Bool.and_assoc] using h)
 cases hok : rdK ws with
 | false =>
   obtain ⟨k0, k1⟩ := row1 (show Row w9 gk 4 [.bool false] by have h := HKW.out; rw [hok] at h; exact h)
   have HR := hide (show (rdK ws && decide (lnT (rdM ws) = s)) = false by rw [hok]; rfl)
   go_wp2_with fail
   refine bodyPost_ret (v := .tuple #[.agg #[.int .i64 5, .int .i64 (nv ws 1), .int .i64 0, .int .i64 0, .bool false], .bool false]) (by simp [results, Tryz.results44, go_sem, q0, q1, q2, q3, q4]) rfl ?_
   exact ⟨by rw [HR.out, HMb.out]; rfl, BF.out⟩
 | true =>
   obtain ⟨k0, k1⟩ := row1 (show Row w9 gk 4 [.bool true] by have h := HKW.out; rw [hok] at h; exact h)
   by_cases hs : ct = s
   ·have HR := hide (show (rdK ws && decide (lnT (rdM ws) = s)) = true by rw [hok, HMb.out, ← HT.out, hs]; simp)
    subst hs
    go_wp2_with fail
    refine bodyPost_ret (v := .tuple #[.agg #[.int .i64 5, .int .i64 (nv ws 1), .int .i64 0, .int .i64 0, .bool false], .bool true]) (by simp [results, Tryz.results44, go_sem, q0, q1, q2, q3, q4]) rfl ?_
    exact ⟨by rw [HR.out, HMb.out]; rfl, BF.out⟩
   ·have HR := hide (show (rdK ws && decide (lnT (rdM ws) = s)) = false by rw [hok, HMb.out, ← HT.out, decide_eq_false hs]; rfl)
    have hsl := toList_ne hs
    have hsb : decide (ct.toList = s.toList) = false := decide_eq_false hsl
    have hsc : (ct.toList == s.toList) = false := by rw [beq_eq_false_iff_ne]; exact hsl
    go_wp2_with fail
    refine bodyPost_ret (v := .tuple #[.agg #[.int .i64 5, .int .i64 (nv ws 1), .int .i64 0, .int .i64 0, .bool false], .bool false]) (by simp [results, Tryz.results44, go_sem, q0, q1, q2, q3, q4, hsl]) rfl ?_
    exact ⟨by rw [HR.out, HMb.out]; rfl, BF.out⟩
set_option maxRecDepth 100000 in
set_option maxHeartbeats 4000000 in
theorem read_no (s : ByteArray) (hk : ¬ wd (wsR s) 0 = ⟨#[99, 117, 114, 108]⟩ ∧ ¬ wd (wsR s) 0 = ⟨#[117, 110, 99, 117, 114, 108]⟩ ∧ ¬ wd (wsR s) 0 = ⟨#[112, 111, 107, 101]⟩ ∧ ¬ wd (wsR s) 0 = ⟨#[117, 110, 112, 111, 107, 101]⟩ ∧ ¬ wd (wsR s) 0 = ⟨#[115, 108, 105, 100, 101]⟩) (hs : s.size ≤ 70000) (w : World) (hg : GV w) :
 Calls Tryz.prog 44 #[.string s] w fun e w' => e = .returned (.tuple #[(rdM (wsR s)).v, .bool (rdB s)]) ∧ Below w.heap.size w w' := by
 have HG := hide hg
 clear hg
 obtain ⟨ws, hws⟩ : ∃ ws, ws = wsR s := ⟨_, rfl⟩
 rw [← hws] at hk
 have HB := hide (show rdB s = (rdK ws && decide (lnT (rdM ws) = s)) by rw [hws]; rfl)
 have HMW := hide (show rdM (wsR s) = rdM ws by rw [hws])
 rw [HB.out, HMW.out]
 have hn : ws.length ≤ 100000 := by rw [hws]; have := wsR_many s; omega
 have hn1 : 1 ≤ ws.length := by rw [hws, wsR_len]; omega
 have HSZ := hide (show ∀ x, x ∈ ws → x.size ≤ 100000 by rw [hws]; exact wsR_sizes (by omega))
 have R0 := hide (row_at (W := w) (g := w.heap.size) (t := 36) (vs := [.int .i64 0, .int .i64 0, .int .i64 0, .int .i64 0, .bool false]) rfl)
 have B0 := hide (show Below w.heap.size w (w.alloc (.cells #[.int .i64 0, .int .i64 0, .int .i64 0, .int .i64 0, .bool false] 36)) from (Below.refl _ _).alloc (Nat.le_refl _) _)
 go_enter Tryz.func44, Tryz.ntmps44
 go_wp2_with fail
 refine (split_any s (by omega) _ (HG.out.below B0.out)).mono ?_
 rintro e w1 ⟨⟨gs, rfl, hrs, hgs⟩, hb1⟩
 have R1 := hide (R0.out.below hb1)
 have B1 := hide (B0.out.trans (hb1.mono B0.out.size))
 have S1 := hide hrs
 have hgs2 : w.heap.size < gs := by simp at hgs; omega
 rw [← hws] at S1 ⊢
 have H0 := hide (rd_start R1.out S1.out hgs2 (Nat.le_refl _) B1.out)
 clear hb1 hrs R0 B0 hws hgs R1 B1 S1 hgs2
 go_wp2_with fail
 refine (word_k 0 H0.out hn).mono ?_
 rintro e w2 ⟨rfl, h1⟩
 obtain ⟨gw, hgw⟩ : ∃ g, g = w1.heap.size := ⟨_, rfl⟩
 rw [← hgw] at h1 ⊢
 clear hgw H0
 obtain ⟨ga, hga⟩ : ∃ g, g = gw + 1 := ⟨_, rfl⟩
 rw [← hga] at h1 ⊢
 obtain ⟨gk, hgk⟩ : ∃ g, g = ga + 1 := ⟨_, rfl⟩
 rw [← hgk] at h1 ⊢
 obtain ⟨gf, hgf⟩ : ∃ g, g = gk + 1 := ⟨_, rfl⟩
 rw [← hgf] at h1 ⊢
 obtain ⟨gm, hgm⟩ : ∃ g, g = gf + 1 := ⟨_, rfl⟩
 rw [← hgm] at h1 ⊢
 obtain ⟨gr, hgr⟩ : ∃ g, g = w.heap.size := ⟨_, rfl⟩
 rw [← hgr] at h1 ⊢
 clear hga hgk hgf hgm hgr
 rw [show (true && decide (0 < ws.length)) = true by rw [decide_eq_true (by omega)]; rfl] at h1
 have H1 := hide h1
 clear h1
 obtain ⟨w0, hw0⟩ : ∃ x, x = wd ws 0 := ⟨_, rfl⟩
 have HW0 := hide hw0
 rw [← hw0] at hk ⊢
 clear hw0
 obtain ⟨c1, c2, c3, c4, c5⟩ := hk
 have n1 : ¬ w0.toList = [99, 117, 114, 108] := toList_lit c1
 have n2 : ¬ w0.toList = [117, 110, 99, 117, 114, 108] := toList_lit c2
 have n3 : ¬ w0.toList = [112, 111, 107, 101] := toList_lit c3
 have n4 : ¬ w0.toList = [117, 110, 112, 111, 107, 101] := toList_lit c4
 have n5 : ¬ w0.toList = [115, 108, 105, 100, 101] := toList_lit c5
 have m1 : decide (w0.toList = [99, 117, 114, 108]) = false := decide_eq_false n1
 have m2 : decide (w0.toList = [117, 110, 99, 117, 114, 108]) = false := decide_eq_false n2
 have m3 : decide (w0.toList = [112, 111, 107, 101]) = false := decide_eq_false n3
 have m4 : decide (w0.toList = [117, 110, 112, 111, 107, 101]) = false := decide_eq_false n4
 have m5 : decide (w0.toList = [115, 108, 105, 100, 101]) = false := decide_eq_false n5
 have b1 : (w0.toList == [99, 117, 114, 108]) = false := by rw [beq_eq_false_iff_ne]; exact n1
 have b2 : (w0.toList == [117, 110, 99, 117, 114, 108]) = false := by rw [beq_eq_false_iff_ne]; exact n2
 have b3 : (w0.toList == [112, 111, 107, 101]) = false := by rw [beq_eq_false_iff_ne]; exact n3
 have b4 : (w0.toList == [117, 110, 112, 111, 107, 101]) = false := by rw [beq_eq_false_iff_ne]; exact n4
 have b5 : (w0.toList == [115, 108, 105, 100, 101]) = false := by rw [beq_eq_false_iff_ne]; exact n5
 have HM := hide (show rdM ws = ⟨0, 0, 0, 0, false⟩ by unfold rdM; rw [← HW0.out, if_neg c1, if_neg c2, if_neg c3, if_neg c4, if_neg c5])
 have HR := hide (show (rdK ws && decide (lnT (rdM ws) = s)) = false by
  have h : rdK ws = false := by unfold rdK; rw [← HW0.out, if_neg c1, if_neg c2, if_neg c3, if_neg c4, if_neg c5]
  rw [h]; rfl)
 obtain ⟨r0, r1, r2, r3, r4, r5⟩ := box5 H1.out.fr
 obtain ⟨q0, q1, q2, q3, q4, q5⟩ := box5 (row5set H1.out.fr (.int .i64 0) (.int .i64 0) (.int .i64 0) (.int .i64 0) (.bool false))
 have hlo := H1.out.lo gr (by simp)
 have BF := hide (below5 H1.out.bel hlo (.int .i64 0) (.int .i64 0) (.int .i64 0) (.int .i64 0) (.bool false))
 go_wp2_with fail
 refine bodyPost_ret (v := .tuple #[.agg #[.int .i64 0, .int .i64 0, .int .i64 0, .int .i64 0, .bool false], .bool false]) (by simp [results, Tryz.results44, go_sem, q0, q1, q2, q3, q4]) rfl ?_
 exact ⟨by rw [HR.out, HM.out]; rfl, BF.out⟩
theorem read_any (s : ByteArray) (hs : s.size ≤ 70000) (w : World) (hg : GV w) :
 Calls Tryz.prog 44 #[.string s] w fun e w' => e = .returned (.tuple #[(rdM (wsR s)).v, .bool (rdB s)]) ∧ Below w.heap.size w w' := by
 by_cases c1 : wd (wsR s) 0 = ⟨#[99, 117, 114, 108]⟩
 ·exact read_1 s c1 hs w hg
 by_cases c2 : wd (wsR s) 0 = ⟨#[117, 110, 99, 117, 114, 108]⟩
 ·exact read_2 s c2 hs w hg
 by_cases c3 : wd (wsR s) 0 = ⟨#[112, 111, 107, 101]⟩
 ·exact read_3 s c3 hs w hg
 by_cases c4 : wd (wsR s) 0 = ⟨#[117, 110, 112, 111, 107, 101]⟩
 ·exact read_4 s c4 hs w hg
 by_cases c5 : wd (wsR s) 0 = ⟨#[115, 108, 105, 100, 101]⟩
 ·exact read_5 s c5 hs w hg
 exact read_no s ⟨c1, c2, c3, c4, c5⟩ hs w hg
end Go.Proofs.YtlffopdoeobgaaaGreatDoor
end
