/-
 The texts Vp, Vq, Vr, Brd, Brc, Ba, Bb in one.
-/
import Derived.Test.YtcaoblilkgajoaaDoorF05
import Derived.Test.YtcaoblilkgajoaaDoorF04
import Derived.Test.YtcaoblilkgajoaaDoorF01
set_option linter.unusedVariables false
set_option linter.unusedSimpArgs false
section
namespace Go.Proofs.YtcaoblilkgajoaaDoor
open Go Go.RowKit
attribute [local go_sem ↓] Go.wp_at_zero Go.wp_at_succ
set_option maxRecDepth 100000 in
set_option maxHeartbeats 8000000 in
theorem pieces_any (d : Pl.Dg) (hd : Pl.Valid d) (A B : Option Addr) (cp cq m : Nat) (w : World) (hm : m = 4 * d.n) (hg : DgAt w A B d) (h20 : d.n ≤ 20) :
 Calls Tryd.prog 61 #[.agg #[.slice A d.n cp, .slice B m cq, .int .i64 d.lp]] w fun e w' => ∃ (A' : Option Addr) (n c : Nat) (cs : List Value) (ps : List Pl.Pc), e = .returned (.slice A' n c) ∧ w'.ownsRow (w.heap.size + 1) 90 3 (.slice A' n c) n cs ∧ PcsV w' cs ps ∧ ps.length = n ∧ n ≤ d.n ∧ Pl.Pcs d ps ∧ Pl.Srt ps ∧ Below w.heap.size w w' := by
 have hn := hd.wf.few
 have HM := hide hm
 have HG := hide hg
 have HD := hide hd
 clear hm hg
 have X0 := hide (row_at (W := w) (g := w.heap.size) (t := 28) (vs := [.slice A d.n cp, .slice B m cq, .int .i64 d.lp]) rfl)
 have B0 := hide (show Below w.heap.size w (w.alloc (.cells #[.slice A d.n cp, .slice B m cq, .int .i64 d.lp] 28)) from (Below.refl _ _).alloc (Nat.le_refl _) _)
 go_enter Tryd.func61, Tryd.ntmps61
 obtain ⟨d0, d1, d2, d3⟩ := box3 X0.out
 go_wp2_with fail
 refine (graph_any d hd A B cp cq m _ HM.out (HG.out.keep B0.out)).mono ?_
 rintro e w1 ⟨AG, cG, P, ls, vs, rfl, hP, hLB, hpos, hrow, hvs, hb1, _⟩
 have HLB := hide hLB
 have HPOS := hide hpos
 have L0 := hide (show PL w d ls P AG vs [.slice A d.n cp, .slice B m cq, .int .i64 d.lp] 0 (.slice none 0 0) [] [] w1 from
  ⟨X0.out.below hb1, ⟨hrow, hvs⟩, World.ownsRow_nil _ _ _ _, trivial, rfl, fun i p h => by simp at h, B0.out.trans (hb1.mono B0.out.size)⟩)
 clear hLB hpos hrow hvs hb1 X0 B0 d0 d1 d2 d3
 go_wp2_with fail
 go_loopg [3, 5, 6, 8, 9, 10, 11, 15, 34, 40] P (fun g s3 s5 s6 s8 s9 s10 s11 s15 s34 s40 wx => ∃ (j : Nat) (cs : List Value) (ps : List Pl.Pc), j + g = P ∧ s15 = .int .i64 (j : Int) ∧ PL w d ls P AG vs [.slice A d.n cp, .slice B m cq, .int .i64 d.lp] j s3 cs ps wx)
 case atStart => exact ⟨0, _, _, by omega, rfl, L0.out⟩
 case round =>
  clear L0
  obtain ⟨j, cs, ps, hjg, rfl, hk⟩ := hrel
  have HJG := hide hjg
  have K0 := hide hk
  have hjP : j ≤ P := by omega
  clear hk
  obtain ⟨go, rfl⟩ : ∃ go, go = gk := ⟨_, rfl⟩
  by_cases hj : j < P
  ·have hji : (j : Int) < (P : Int) := by omega
   have j0 : (0 : Int) ≤ (j : Int) := by omega
   obtain ⟨v, hvj, AF, cF, rfl, hF⟩ := K0.out.gr.v.2 j _ (gl_at ls d.n hj)
   have hvl := (List.getElem?_eq_some_iff.1 hvj).1
   obtain ⟨bG, oG, rfl, x1⟩ := RowAt.at_ K0.out.gr.r.row hj
   rw [(List.getElem?_eq_some_iff.1 hvj).2] at x1
   have HVJ := hide hvj
   obtain ⟨l, hl⟩ : ∃ l, l = Gl ls d.n j := ⟨_, rfl⟩
   rw [← hl] at x1 hF
   obtain ⟨nl, hnl⟩ : ∃ n, n = l.length := ⟨_, rfl⟩
   have HNL := hide hnl
   rw [← hnl] at x1
   have HLL := hide hl
   have hnl64 : nl ≤ 64 := by rw [hnl, hl]; have := Gl_len ls d.n j; omega
   obtain ⟨aLst, cL, rfl⟩ := owns_slice K0.out.own
   have hng : (Value.slice aLst j cL).ownBlock ≠ some wr.heap.size := fun e => by have := (K0.out.own.lt _ e).2; omega
   have P0 := hide (show PI w d ls P (some ⟨bG, oG, none⟩) vs [.slice A d.n cp, .slice B m cq, .int .i64 d.lp] j (.slice aLst j cL) cs ps wr.heap.size 0 (.slice none 0 0) (.slice none 0 0) 0 (wr.alloc (.cells #[.slice none 0 0, .slice none 0 0, .int .i64 0] 90)) from
    ⟨K0.out.alloc _, row_at (vs := [.slice none 0 0, .slice none 0 0, .int .i64 0]) rfl, .inl ⟨rfl, rfl, rfl, rfl⟩, by have := K0.out.big; omega, hng⟩)
   have hlo : w.heap.size < wr.heap.size := by have := K0.out.big; omega
   clear hvj hl hnl hF hjg hng
   obtain ⟨d0, d1, d2, d3⟩ := box3 K0.out.bx
   obtain ⟨g6, hg6⟩ : ∃ g, g = wr.heap.size := ⟨_, rfl⟩
   go_upto_region 6 with fail
   rw [← hg6] at P0 hlo ⊢
   clear hg6 d0 d1 d2 d3 x1 K0
   go_wp2_with fail
   go_loopg [8, 9, 10, 11, 21, 34, 40] nl (fun g s8 s9 s10 s11 s21 s34 s40 wx => ∃ (k : Nat) (vC vO : Value) (x : Int), k + g = nl ∧ s21 = .int .i64 (k : Int) ∧ PI w d ls P (some ⟨bG, oG, none⟩) vs [.slice A d.n cp, .slice B m cq, .int .i64 d.lp] j (.slice aLst j cL) cs ps g6 k vC vO x wx)
   case atStart => exact ⟨0, _, _, _, by omega, rfl, P0.out⟩
   case round =>
    clear P0
    obtain ⟨k, vC, vO, x, hkg, rfl, hk⟩ := hrel
    have HKG := hide hkg
    have K0 := hide hk
    have hkn : k ≤ nl := by omega
    clear hk
    obtain ⟨gi, rfl⟩ : ∃ gi, gi = gk := ⟨_, rfl⟩
    by_cases hk : k < nl
    ·have hki : (k : Int) < (nl : Int) := by omega
     have k0 : (0 : Int) ≤ (k : Int) := by omega
     obtain ⟨v', e', hF⟩ := K0.out.p.gr.v.2 j _ (gl_at ls d.n hj)
     rw [HVJ.out] at e'
     injection e' with e'
     subst e'
     have hF2 := hF.ints.2
     rw [← HLL.out, ← HNL.out] at hF2
     obtain ⟨b8, o8, rfl, x8⟩ := nats_at hF2 hk
     obtain ⟨q, hq⟩ : ∃ q, q = l.getD k 0 := ⟨_, rfl⟩
     rw [← hq] at x8
     have hql : l[k]? = some q := by rw [hq, List.getD_eq_getElem?_getD, List.getElem?_eq_getElem (by rw [← HNL.out]; exact hk)]; rfl
     have hqm : q ∈ Gl ls d.n j := by rw [← HLL.out]; exact List.mem_of_getElem? hql
     have hqn : q < d.n := (mem_Gl.1 hqm).1
     have HTK := hide (show (Gl ls d.n j).take (k + 1) = (Gl ls d.n j).take k ++ [q] from Pl.take_one (by rw [← HLL.out]; exact hql))
     have hcc := fun c (hc : c ∈ Gl ls d.n j) => gl_comp HLB.out HPOS.out hc hqm
     have hq0 : (0 : Int) ≤ (q : Int) := by omega
     have hbest := K0.out.b.best HD.out.wf hqn hcc
     clear hF hF2 hq hql hqm hcc hkg
     obtain ⟨d0, d1, d2, d3⟩ := box3 K0.out.p.bx
     obtain ⟨f0, f1, f2, f3⟩ := box3 K0.out.r
     rcases hbest with ⟨hk0, hb⟩ | ⟨p, hpv, hl5, hx0, hxk, hb⟩
     ·have HB := hide hb
      have hvn : vC = .slice none 0 0 := hb
      subst hvn
      have HK0 := hide hk0
      clear hb hk0
      go_wp2_with fail
      refine (number_any d HD.out.wf A B cp cq m q _ none _ HM.out (HG.out.keep K0.out.p.bel) hqn HB.out).mono ?_
      intro e w2 hres
      obtain ⟨vC', vO', rfl, own1, own2⟩ := hres.2.1 (by rw [Pl.vall_none]; omega)
      have K2 := hide (K0.out.below hres.2.2)
      obtain ⟨A1, e1, rfl⟩ := owns_slice own1
      obtain ⟨A2, e2, rfl⟩ := owns_slice own2
      have HP := hide (show PcV w2 (.slice A1 (Pl.code d q).length e1) (.slice A2 (Pl.ord d q).length e2) 1 ⟨Pl.code d q, Pl.ord d q, 1⟩ from ⟨own_intT own1, own_natT own2, rfl⟩)
      rw [show Pl.vall none (Pl.code d q) = -1 from Pl.vall_none _]
      clear hres own1 own2 d0 d1 d2 d3 f0 f1 f2 f3 x8 K0
      obtain ⟨f0, f1, f2, f3⟩ := box3 K2.out.r
      go_wp2
      go_roundg (gi - 1)
      case measure => have := HKG.out; omega
      case rel => exact ⟨k + 1, _, _, 1, by have := HKG.out; omega, by go_num, K2.out.put HP.out (by rw [HTK.out, HK0.out]; exact Pl.Lst5.one q 1)⟩
     ·have HB := hide hb
      obtain ⟨bb, bo, bc, rfl, hrest⟩ := hb
      clear hrest
      have HPV := hide hpv
      have HL5 := hide hl5
      clear hpv hl5
      go_wp2_with fail
      refine (number_any d HD.out.wf A B cp cq m q _ (some p.code) _ HM.out (HG.out.keep K0.out.p.bel) hqn HB.out).mono ?_
      intro e w2 hres
      have K2 := hide (K0.out.below hres.2.2)
      have HPV2 := hide (HPV.out.below hres.2.2)
      clear d0 d1 d2 d3 f0 f1 f2 f3 x8 K0 HPV HB
      obtain ⟨f0, f1, f2, f3⟩ := box3 K2.out.r
      obtain ⟨v, hv⟩ : ∃ v, v = Pl.vall (some p.code) (Pl.code d q) := ⟨_, rfl⟩
      have HV := hide (show v = Pl.lx (Pl.code d q) p.code from hv.trans (Pl.vall_some _ _))
      by_cases hv0 : 0 < v
      ·obtain rfl := hres.1 (by rw [← hv]; exact hv0)
       clear hres hv
       have HLS := hide (HL5.out.more (q := q) (by rw [← HV.out]; omega) x)
       go_wp2
       go_roundg (gi - 1)
       case measure => have := HKG.out; omega
       case rel => exact ⟨k + 1, _, _, x, by have := HKG.out; omega, by go_num, K2.out.skip HPV2.out (by rw [HTK.out]; exact HLS.out) hx0 hxk⟩
      ·obtain ⟨vC', vO', rfl, own1, own2⟩ := hres.2.1 (by rw [← hv]; exact hv0)
       obtain ⟨A1, e1, rfl⟩ := owns_slice own1
       obtain ⟨A2, e2, rfl⟩ := owns_slice own2
       have HP := hide (show PcV w2 (.slice A1 (Pl.code d q).length e1) (.slice A2 (Pl.ord d q).length e2) 1 ⟨Pl.code d q, Pl.ord d q, 1⟩ from ⟨own_intT own1, own_natT own2, rfl⟩)
       rw [← hv]
       clear hres hv own1 own2
       by_cases hvz : v = 0
       ·have HLS := hide (HL5.out.more (q := q) (by rw [← HV.out]; omega) (x + 1))
        subst hvz
        have hx64 : x ≤ 64 := by omega
        go_wp2
        go_roundg (gi - 1)
        case measure => have := HKG.out; omega
        case rel => exact ⟨k + 1, _, _, x + 1, by have := HKG.out; omega, by go_num, K2.out.more HPV2.out (by rw [HTK.out]; exact HLS.out) hx0 hxk⟩
       ·have hvn : v < 0 := by omega
        have HLS := hide (HL5.out.less (q := q) (by rw [← HV.out]; exact hvn) 1)
        clear hvz hv0
        go_wp2
        go_roundg (gi - 1)
        case measure => have := HKG.out; omega
        case rel => exact ⟨k + 1, _, _, 1, by have := HKG.out; omega, by go_num, K2.out.put HP.out (by rw [HTK.out]; exact HLS.out)⟩
    ·have hki : ¬ ((k : Int) < (nl : Int)) := by omega
     have hnl0 : 0 < nl := by
      obtain ⟨a, ha, he⟩ := HLB.out.all j hj
      rw [HNL.out, HLL.out]
      exact List.length_pos_of_mem (mem_Gl.2 ⟨ha, he⟩)
     rcases K0.out.b with ⟨h0, _⟩ | ⟨p, hp, hl5, hx0, hxk⟩
     ·omega
     ·have HP := hide hp
      have HL5 := hide (show Pl.Lst5 d (Gl ls d.n j) p by
       have h : (Gl ls d.n j).take k = Gl ls d.n j := List.take_of_length_le (by rw [← HLL.out, ← HNL.out]; omega)
       rw [h] at hl5
       exact hl5)
      clear hp hl5
      obtain ⟨A1, e1, h1, h1b⟩ := HP.out.c
      obtain ⟨A2, e2, h2, h2b⟩ := HP.out.o
      subst h1
      subst h2
      clear h1b h2b hkg hnl0
      have hj64 : j ≤ 64 := by omega
      obtain ⟨f0, f1, f2, f3⟩ := box3 K0.out.r
      have KA := hide (K0.out.p.alloc (.cells #[.slice A1 p.code.length e1, .slice A2 (nats p.order).length e2, .int .i64 x] 90))
      have HPA := hide (HP.out.below ((Below.refl wr.heap.size wr).alloc (Nat.le_refl _) (.cells #[.slice A1 p.code.length e1, .slice A2 (nats p.order).length e2, .int .i64 x] 90)))
      obtain ⟨i0, hi0, hz0, hz1, hz2⟩ := info_parts pieceInfo
      have P1 : ∀ u ∈ [Value.slice A1 p.code.length e1, .slice A2 (nats p.order).length e2, .int .i64 x], u.oneCell' = true := by simp [Value.oneCell']
      go_wp2_with (at_builtin; refine wpList_append_lies _ (by rfl) _ _ 87 (by rfl) (w.heap.size + 1) 90 i0 (.agg #[.slice none 0 0, .slice none 0 0, .int .i64 0]) 3 56 Tryd.underlying87 hi0 hz0 hz1 hz2 rfl (by omega) _ j cs (by rfl) KA.out.own ⟨wr.heap.size, 0, none⟩ 1 1 [.slice A1 p.code.length e1, .slice A2 (nats p.order).length e2, .int .i64 x] (by rfl) (by rfl) (three_news wr _ rfl _ _ _) P1 (by omega) (by unfold maxLen; omega) (by omega) KA.out.big (wr.heap.size + 1) (by simp) ?_; intro g3 c3 w3 own3 grow3 at3 lt3; have OWN3 := hide own3; have GR3 := hide grow3; clear own3 grow3 at3)
      go_roundg (go - 1)
      case measure => have := HJG.out; omega
      case rel => exact ⟨j + 1, _, _, by have := HJG.out; omega, by go_num, KA.out.app OWN3.out GR3.out rfl HPA.out HL5.out⟩
  ·have hji : ¬ ((j : Int) < (P : Int)) := by omega
   obtain ⟨aLst, cL, rfl⟩ := owns_slice K0.out.own
   have hjP' : j = P := by omega
   have hPd := HLB.out.le
   have HPCS := hide (pcs_groups HD.out.wf HLB.out HPOS.out (by rw [K0.out.len]; exact hjP') K0.out.is)
   have S0 := hide (show SI (w.heap.size + 1) wr aLst j cL cs ps wr from ⟨K0.out.own, K0.out.pv, K0.out.len, Below.refl _ _, K0.out.big⟩)
   have BW := hide K0.out.bel
   clear K0 hjP'
   go_wp2_with fail
   refine (sort_any (w.heap.size + 1) aLst j cL cs ps _ S0.out (pcs_sz HD.out.wf HPCS.out) (by omega)).mono ?_
   rintro e w1 ⟨⟨v, rfl⟩, cs', ps', hS, hP, hW⟩
   have HR := hide (show ∃ (A' : Option Addr) (n c : Nat) (cs : List Value) (ps : List Pl.Pc), Ending.returned (.slice aLst j cL) = .returned (.slice A' n c) ∧ w1.ownsRow (w.heap.size + 1) 90 3 (.slice A' n c) n cs ∧ PcsV w1 cs ps ∧ ps.length = n ∧ n ≤ d.n ∧ Pl.Pcs d ps ∧ Pl.Srt ps ∧ Below w.heap.size w w1 from
    ⟨aLst, j, cL, cs', ps', rfl, hS.own, hS.pv, hS.len, by omega, pcs_perm HPCS.out hP, hW, BW.out.trans (hS.bel.mono (Nat.le_succ _))⟩)
   clear hS hP hW
   go_wp2
   go_ret
   exact HR.out
end Go.Proofs.YtcaoblilkgajoaaDoor
end
section
namespace Go.Proofs.YtcaoblilkgajoaaDoor
open Go Go.RowKit
attribute [local go_sem ↓] Go.wp_at_zero Go.wp_at_succ
def pcJ (lp : Nat) (ps : List Pl.Pc) (j : Nat) : List Int := (lp : Int) :: (ps.length : Int) :: (ps.take j).flatMap (fun p => (p.order.length : Int) :: p.code)
theorem pcJ_zero (lp : Nat) (ps : List Pl.Pc) : pcJ lp ps 0 = [(lp : Int), (ps.length : Int)] := by unfold pcJ; simp
theorem pcJ_succ (lp : Nat) {ps : List Pl.Pc} {j : Nat} {p : Pl.Pc} (h : ps[j]? = some p) : pcJ lp ps (j + 1) = (pcJ lp ps j ++ [(p.order.length : Int)]) ++ p.code := by
 unfold pcJ
 rw [Pl.take_one h, List.flatMap_append]
 simp
theorem pcJ_all (lp : Nat) {ps : List Pl.Pc} {j : Nat} (h : ps.length ≤ j) : pcJ lp ps j = Pl.pcode lp ps := by
 unfold pcJ Pl.pcode
 rw [List.take_of_length_le h]
theorem pcJ_len (lp : Nat) {ps : List Pl.Pc} (hs : ∀ p, p ∈ ps → PcSz p) : ∀ j, (pcJ lp ps j).length ≤ 2 + 400 * j
 | 0 => by rw [pcJ_zero]; simp
 | j + 1 => by
   by_cases h : j < ps.length
   ·have e : ps[j]? = some ps[j] := List.getElem?_eq_getElem h
    have h1 := hs _ (List.getElem_mem h)
    have h2 := h1.1
    have h3 := h1.2
    have ih := pcJ_len lp hs j
    rw [pcJ_succ lp e]
    simp only [List.length_append, List.length_cons, List.length_nil]
    omega
   ·have ih := pcJ_len lp hs j
    rw [pcJ_all lp (by omega)] at ih
    rw [pcJ_all lp (by omega)]
    omega
structure CL (w1 : World) (xs : List Int) (m : Nat) (vL : Value) (W : World) : Prop where
 own : W.ownsRow w1.heap.size 3 1 vL m (xs.map (.int .i64))
 len : xs.length = m
 bel : Below w1.heap.size w1 W
theorem CL.alloc {w1 W : World} {xs : List Int} {m : Nat} {vL : Value} (h : CL w1 xs m vL W) (o : Obj) : CL w1 xs m vL (W.alloc o) :=
 ⟨own_below h.own ((Below.refl _ _).alloc (Nat.le_refl _) o), h.len, h.bel.trans (((Below.refl _ _).alloc (Nat.le_refl _) o).mono h.bel.size)⟩
theorem CL.app {w1 W W' : World} {xs ys : List Int} {m n : Nat} {vL vL' : Value} (h : CL w1 xs m vL W) (own : W'.ownsRow w1.heap.size 3 1 vL' n (xs.map (.int .i64) ++ ys.map (.int .i64))) (gr : W.grownBy W' vL.ownBlock) (hn : n = m + ys.length) : CL w1 (xs ++ ys) n vL' W' :=
 ⟨by rw [List.map_append]; exact own, by rw [List.length_append, h.len, hn], h.bel.grown gr h.bel.size (fun k hk => (h.own.lt k hk).1)⟩
theorem own_two (w : World) (x y : Int) : (w.alloc (.cells #[.int .i64 x, .int .i64 y] 3)).ownsRow w.heap.size 3 1 (.slice (some ⟨w.heap.size, 0, none⟩) 2 2) 2 ([x, y].map (.int .i64)) :=
 ⟨rfl, .inr ⟨w.heap.size, 2, #[.int .i64 x, .int .i64 y], rfl, Nat.le_refl _, heap_alloc_new w _, Nat.le_refl _, by unfold maxLen; omega, rfl, rfl⟩⟩
def CodePost (d : Pl.Dg) (w : World) (e : Ending) (w' : World) : Prop :=
 ∃ (A' : Option Addr) (n c : Nat) (ps : List Pl.Pc), e = .returned (.slice A' n c) ∧ Pl.Pcs d ps ∧ Pl.Srt ps ∧ n ≤ 8100 ∧ IntsAt w' A' n (Pl.pcode d.lp ps) ∧ Below w.heap.size w w'
set_option maxRecDepth 100000 in
set_option maxHeartbeats 8100000 in
theorem code_yes (d : Pl.Dg) (hd : Pl.Valid d) (h20 : d.n ≤ 20) (A B : Option Addr) (cp cq m : Nat) (w : World) (hm : m = 4 * d.n) (hg : DgAt w A B d) :
 Calls Tryd.prog 43 #[.agg #[.slice A d.n cp, .slice B m cq, .int .i64 d.lp]] w (CodePost d w) := by
 have hlp := hd.wf.lp
 have HM := hide hm
 have HG := hide hg
 have HD := hide hd
 clear hm hg
 have X0 := hide (row_at (W := w) (g := w.heap.size) (t := 28) (vs := [.slice A d.n cp, .slice B m cq, .int .i64 d.lp]) rfl)
 have B0 := hide (show Below w.heap.size w (w.alloc (.cells #[.slice A d.n cp, .slice B m cq, .int .i64 d.lp] 28)) from (Below.refl _ _).alloc (Nat.le_refl _) _)
 go_enter Tryd.func43, Tryd.ntmps43
 obtain ⟨d0, d1, d2, d3⟩ := box3 X0.out
 go_wp2_with fail
 refine (valid_yes d HD.out A B cp cq m _ HM.out (HG.out.keep B0.out)).mono ?_
 rintro e w1 ⟨rfl, hb1⟩
 have Y0 := hide (X0.out.below hb1)
 have B1 := hide (B0.out.trans (hb1.mono B0.out.size))
 clear X0 B0 hb1 d0 d1 d2 d3
 obtain ⟨d0, d1, d2, d3⟩ := box3 Y0.out
 go_wp2_with fail
 refine (pieces_any d HD.out A B cp cq m _ HM.out (HG.out.keep B1.out) h20).mono ?_
 rintro e w2 ⟨aLst, n, cL, cs, ps, rfl, hown, hpv, hlen, hnd, hpcs, hsrt, hb2⟩
 have Z0 := hide (Y0.out.below hb2)
 have B2 := hide (B1.out.trans (hb2.mono B1.out.size))
 have OW := hide hown
 have HPV := hide hpv
 have HLEN := hide hlen
 have HPS := hide (show Pl.Pcs d ps ∧ Pl.Srt ps from ⟨hpcs, hsrt⟩)
 have HSZ := hide (pcs_sz HD.out.wf hpcs)
 have hn20 : n ≤ 20 := by omega
 clear hown hpv hlen hpcs hsrt hb2 d0 d1 d2 d3 Y0 B1 hnd
 obtain ⟨d0, d1, d2, d3⟩ := box3 Z0.out
 go_upto_region 5 with fail
 have L0 := hide (show CL w2 (pcJ d.lp ps 0) 2 (.slice (some ⟨w2.heap.size, 0, none⟩) 2 2) (w2.alloc (.cells #[.int .i64 d.lp, .int .i64 n] 3)) from by
  rw [pcJ_zero, HLEN.out]
  exact ⟨own_two _ _ _, rfl, (Below.refl _ _).alloc (Nat.le_refl _) _⟩)
 clear d0 d1 d2 d3
 go_wp2_with fail
 go_loopg [4, 6, 19] n (fun g s4 s6 s19 wx => ∃ (j m : Nat) (xs : List Int), j + g = n ∧ s19 = .int .i64 (j : Int) ∧ xs = pcJ d.lp ps j ∧ CL w2 xs m s4 wx)
 case atStart => exact ⟨0, _, _, by omega, rfl, rfl, L0.out⟩
 case round =>
  clear L0
  obtain ⟨j, k, xs, hjg, rfl, hxs, hk⟩ := hrel
  have HJG := hide hjg
  have K0 := hide hk
  have HXS := hide hxs
  have hjn : j ≤ n := by omega
  have hkl : k ≤ 2 + 400 * j := by
   rw [← hk.len, hxs]
   exact pcJ_len d.lp HSZ.out j
  clear hk hxs
  obtain ⟨A4, c4, rfl⟩ := owns_slice K0.out.own
  by_cases hj : j < n
  ·have hji : (j : Int) < (n : Int) := by omega
   have j0 : (0 : Int) ≤ (j : Int) := by omega
   have hnA : 0 < n := by omega
   obtain ⟨g, cap, hA, hcap, hgl⟩ := World.ownsRow.form OW.out hnA
   injection hA with hA _ hcc
   subst hA
   subst hcc
   obtain ⟨p, hp⟩ : ∃ p, ps[j]? = some p := ⟨_, List.getElem?_eq_getElem (by rw [HLEN.out]; exact hj)⟩
   have HXN := hide (pcJ_succ d.lp hp)
   have hpsz := HSZ.out p (List.mem_of_getElem? hp)
   obtain ⟨a0, a1, a2, hpx, ca0, ca1, ca2⟩ := HPV.out.at_ hp
   have CA := fun (t : Nat) (u : Value) (ht : j * 3 + t < n * 3) (e : cs[j * 3 + t]? = some u) => (show wr.cell? ⟨g, j * 3 + t, none⟩ = some u by exact cell_below (by rw [World.ownsRow.cellAt OW.out _ ht]; exact e) K0.out.bel)
   have x0 := CA 0 a0 (by omega) ca0
   have x1 := CA 1 a1 (by omega) ca1
   have x2 := CA 2 _ (by omega) ca2
   rw [Nat.add_zero] at x0
   clear CA ca0 ca1 ca2 hp hjg
   obtain ⟨A1, e1, h1, h1b⟩ := hpx.c
   obtain ⟨A2, e2, h2, h2b⟩ := hpx.o
   have HC1 := hide (show IntsAt w2 A1 p.code.length p.code from h1b.2.row)
   subst h1
   subst h2
   clear h1b h2b hpx
   rw [nats_len] at x1
   obtain ⟨L1, hL1⟩ : ∃ n, n = p.code.length := ⟨_, rfl⟩
   obtain ⟨L2, hL2⟩ : ∃ n, n = p.order.length := ⟨_, rfl⟩
   rw [← hL1] at x0 HC1
   rw [← hL2] at x1
   have HL2 := hide hL2
   have HL1 := hide hL1
   have hL2b : L2 ≤ 64 := by rw [hL2]; exact hpsz.1
   have hL1b : L1 ≤ 320 := by rw [hL1, hpsz.2]; have := hpsz.1; omega
   clear hpsz hL1 hL2
   have KA := hide (K0.out.alloc (.cells #[.slice A1 L1 e1, .slice A2 L2 e2, .int .i64 a2] 90))
   have XB := hide (row_at (W := wr) (g := wr.heap.size) (t := 90) (vs := [.slice A1 L1 e1, .slice A2 L2 e2, .int .i64 a2]) rfl)
   obtain ⟨f0, f1, f2, f3⟩ := box3 XB.out
   go_upto_region 8 with fail
   obtain ⟨V, hV⟩ : ∃ V, V = wr.alloc (.cells #[.slice A1 L1 e1, .slice A2 L2 e2, .int .i64 a2] 90) := ⟨_, rfl⟩
   obtain ⟨gb, hgb⟩ : ∃ g, g = wr.heap.size := ⟨_, rfl⟩
   have hgV : w2.heap.size ≤ gb := by rw [hgb]; exact K0.out.bel.size
   rw [← hV] at KA XB f0 f1 f2 f3 ⊢
   rw [← hgb] at XB f0 f1 f2 f3 ⊢
   have HUB := hide (show ∀ b, (Value.slice A4 k c4).ownBlock = some b → b < gb from fun b h => by rw [hgb]; exact (K0.out.own.lt b h).2)
   clear hV hgb x0 x1 x2 K0
   have KB := hide (KA.out.alloc (.cells #[.int .i64 L2] 3))
   have hVs := KA.out.bel.size
   obtain ⟨i0, hi0, hz0, hz1, hz2⟩ := info_parts intInfo
   go_upto_region 9 with (at_builtin; refine wpList_append_lies _ (by rfl) _ _ 22 (by rfl) w2.heap.size 3 i0 (.int .i64 0) 1 8 Tryd.underlying22 hi0 hz0 hz1 hz2 rfl (by omega) _ k _ (by rfl) KB.out.own ⟨V.heap.size, 0, none⟩ 1 1 [.int .i64 L2] (by rfl) (by rfl) (one_newsG _ _ rfl) (by simp [Value.oneCell']) (by omega) (by unfold maxLen; omega) (by omega) (by have := KB.out.bel.size; omega) (V.heap.size + 1) (by simp) ?_; intro g3 c3 w3 own3 grow3 at3 lt3; have OWN3 := hide own3; have GR3 := hide grow3; clear own3 grow3 at3)
   have K3 := hide (KB.out.app (ys := [(L2 : Int)]) OWN3.out GR3.out rfl)
   have X3 := hide ((XB.out.below ((Below.refl V.heap.size V).alloc (Nat.le_refl _) (.cells #[.int .i64 L2] 3))).grown GR3.out (fun e => by have := HUB.out _ e.symm; omega))
   clear f0 f1 f2 f3 KA KB XB OWN3 GR3 lt3
   obtain ⟨f0, f1, f2, f3⟩ := box3 X3.out
   go_wp2_with (at_builtin; refine wpList_append_int _ (by rfl) _ _ 22 (by rfl) w2.heap.size 3 i0 (.int .i64 0) 8 Tryd.underlying22 hi0 hz0 hz1 hz2 rfl _ (k + 1) _ (by rfl) K3.out.own A1 L1 e1 p.code (by rfl) (HC1.out.keep K3.out.bel) (by unfold maxLen; omega) (by omega) K3.out.bel.size ?_; intro v4 w4 own4 gr4; have OWN4 := hide own4; have GR4 := hide gr4; clear own4 gr4)
   go_roundg (gk - 1)
   case measure => have := HJG.out; omega
   case rel => exact ⟨j + 1, _, _, by have := HJG.out; omega, by go_num, rfl, by
    rw [HXN.out, ← HXS.out, ← HL2.out]
    exact K3.out.app OWN4.out GR4.out (by rw [HL1.out])⟩
  ·have hji : ¬ ((j : Int) < (n : Int)) := by omega
   have HIA := hide (show IntsAt wr A4 k (Pl.pcode d.lp ps) by
    rw [← pcJ_all d.lp (j := j) (by rw [HLEN.out]; omega), ← HXS.out]
    exact (own_rowT K0.out.own).row)
   have HBE := hide (B2.out.trans (K0.out.bel.mono B2.out.size))
   go_wp2
   go_ret
   exact ⟨A4, k, c4, ps, rfl, HPS.out.1, HPS.out.2, by omega, HIA.out, HBE.out⟩
end Go.Proofs.YtcaoblilkgajoaaDoor
end
section
namespace Go.Proofs.YtcaoblilkgajoaaDoor
open Go Go.RowKit
attribute [local go_sem ↓] Go.wp_at_zero Go.wp_at_succ
theorem eq_ints (A B : Option Addr) (n m c e : Nat) (xs ys : List Int) (w : World) (ha : IntsAt w A n xs) (hb : IntsAt w B m ys) (hn0 : 0 < n) (hm0 : 0 < m) (hn : n ≤ 100000) (hm : m ≤ 100000) :
 Calls Tryd.prog 42 #[.slice A n c, .slice B m e] w fun r w' => r = .returned (.bool (Pl.vb (xs = ys))) ∧ Below w.heap.size w w' := by
 have hl := ha.len
 have hl2 := hb.len
 obtain ⟨b, o, rfl, _⟩ := ha.at_ (k := 0) hn0
 obtain ⟨b2, o2, rfl, _⟩ := hb.at_ (k := 0) hm0
 refine (Tryd.slices_Equal_int b o n c b2 o2 m e xs ys w (by omega) (by omega) (by omega) (by omega) (fun j hj => ?_) (fun j hj => ?_)).mono ?_
 ·obtain ⟨b', o', e1, hc⟩ := ha.at_ (k := j) (by omega)
  injection e1 with e1
  injection e1 with e1 e2
  subst e1
  subst e2
  exact hc
 ·obtain ⟨b', o', e1, hc⟩ := hb.at_ (k := j) (by omega)
  injection e1 with e1
  injection e1 with e1 e2
  subst e1
  subst e2
  exact hc
 ·rintro r w' ⟨rfl, q, rfl⟩
  refine ⟨ret_bool ?_, below_drewN (Below.refl _ _) q⟩
  rw [List.take_of_length_le (by omega), List.take_of_length_le (by omega), Bool.eq_iff_iff, Pl.vb_iff]
  simp
theorem same_vb {a b : Pl.Dg} (ha : Pl.Wf a) (hb : Pl.Wf b) {ps qs : List Pl.Pc} (hp : Pl.Pcs a ps) (hq : Pl.Pcs b qs) (sp : Pl.Srt ps) (sq : Pl.Srt qs) : Pl.vb (Pl.pcode a.lp ps = Pl.pcode b.lp qs) = Pl.vb (∃ σ, Pl.Iso a b σ) := by
 rw [Bool.eq_iff_iff, Pl.vb_iff, Pl.vb_iff]
 exact ⟨fun h => Pl.iso_of_code ha hb hp hq h, fun ⟨σ, I⟩ => I.pcode ha hb hp hq sp sq⟩
theorem pcode_pos {w : World} {A : Option Addr} {n lp : Nat} {ps : List Pl.Pc} (h : IntsAt w A n (Pl.pcode lp ps)) : 0 < n := by
 have := h.len
 unfold Pl.pcode at this
 simp only [List.length_cons] at this
 omega
set_option maxRecDepth 100000 in
set_option maxHeartbeats 8000000 in
theorem same_yes20 (a b : Pl.Dg) (ha : Pl.Valid a) (hb : Pl.Valid b) (ha20 : a.n ≤ 20) (hb20 : b.n ≤ 20) (A B C D : Option Addr) (cp cq m cp' cq' m' : Nat) (w : World) (hm : m = 4 * a.n) (hg : DgAt w A B a) (hm' : m' = 4 * b.n) (hg' : DgAt w C D b) :
 Calls Tryd.prog 17 #[.agg #[.slice A a.n cp, .slice B m cq, .int .i64 a.lp], .agg #[.slice C b.n cp', .slice D m' cq', .int .i64 b.lp]] w fun e w' => e = .returned (.bool (Pl.vb (∃ σ, Pl.Iso a b σ))) ∧ Below w.heap.size w w' := by
 have hlp := ha.wf.lp
 have hlp' := hb.wf.lp
 have HM := hide hm
 have HG := hide hg
 have HA := hide ha
 have HM' := hide hm'
 have HG' := hide hg'
 have HB := hide hb
 clear hm hg hm' hg'
 have X0 := hide (row_at (W := w) (g := w.heap.size) (t := 28) (vs := [.slice A a.n cp, .slice B m cq, .int .i64 a.lp]) rfl)
 have X1 := hide (X0.out.below ((Below.refl _ _).alloc (Nat.le_refl _) (.cells #[.slice C b.n cp', .slice D m' cq', .int .i64 b.lp] 28)))
 have Y1 := hide (row_at (W := w.alloc (.cells #[.slice A a.n cp, .slice B m cq, .int .i64 a.lp] 28)) (g := w.heap.size + 1) (t := 28) (vs := [.slice C b.n cp', .slice D m' cq', .int .i64 b.lp]) (by simp))
 have B0 := hide (show Below w.heap.size w ((w.alloc (.cells #[.slice A a.n cp, .slice B m cq, .int .i64 a.lp] 28)).alloc (.cells #[.slice C b.n cp', .slice D m' cq', .int .i64 b.lp] 28)) from ((Below.refl _ _).alloc (Nat.le_refl _) _).alloc (by simp) _)
 clear X0
 go_enter Tryd.func17, Tryd.ntmps17
 obtain ⟨d0, d1, d2, d3⟩ := box3 X1.out
 obtain ⟨e0, e1, e2, e3⟩ := box3 Y1.out
 go_wp2_with fail
 refine (valid_yes a HA.out A B cp cq m _ HM.out (HG.out.keep B0.out)).mono ?_
 rintro e w1 ⟨rfl, hb1⟩
 have X2 := hide (X1.out.below hb1)
 have Y2 := hide (Y1.out.below hb1)
 have B1 := hide (B0.out.trans (hb1.mono B0.out.size))
 clear X1 Y1 B0 hb1 d0 d1 d2 d3 e0 e1 e2 e3
 obtain ⟨d0, d1, d2, d3⟩ := box3 X2.out
 obtain ⟨e0, e1, e2, e3⟩ := box3 Y2.out
 go_wp2_with fail
 refine (valid_yes b HB.out C D cp' cq' m' _ HM'.out (HG'.out.keep B1.out)).mono ?_
 rintro e w2 ⟨rfl, hb2⟩
 have X3 := hide (X2.out.below hb2)
 have Y3 := hide (Y2.out.below hb2)
 have B2 := hide (B1.out.trans (hb2.mono B1.out.size))
 clear X2 Y2 B1 hb2 d0 d1 d2 d3 e0 e1 e2 e3
 obtain ⟨d0, d1, d2, d3⟩ := box3 X3.out
 obtain ⟨e0, e1, e2, e3⟩ := box3 Y3.out
 go_upto_region 3 with fail
 have BD := hide (show Below w.heap.size w w2.drew from B2.out.drew)
 have DA := hide (HG.out.keep BD.out)
 have XD := hide (X3.out.below (Below.refl w2.heap.size w2).drew)
 have YD := hide (Y3.out.below (Below.refl w2.heap.size w2).drew)
 have DB := hide (HG'.out.keep BD.out)
 go_region_with (first
  | (go_at_call 43
     have hx := hba
     refine (code_yes b HB.out hb20 C D cp' cq' m' _ HM'.out (DB.out.keep hx)).mono ?_
     rintro e wb ⟨A8, n8, c8, qs, rfl, q1, q2, q3, q4, hbc⟩)
  | (go_at_call 43
     have hx := hbb
     refine (code_yes a HA.out ha20 A B cp cq m _ HM.out (DA.out.keep hx)).mono ?_
     rintro e wa ⟨A7, n7, c7, ps, rfl, p1, p2, p3, p4, hbc⟩)
  | (go_at_call 43
     refine (code_yes a HA.out ha20 A B cp cq m _ HM.out DA.out).mono ?_
     rintro e wa ⟨A7, n7, c7, ps, rfl, p1, p2, p3, p4, hba⟩
     obtain ⟨k0, k1, k2, k3⟩ := box3 (YD.out.below hba))
  | (go_at_call 43
     refine (code_yes b HB.out hb20 C D cp' cq' m' _ HM'.out DB.out).mono ?_
     rintro e wb ⟨A8, n8, c8, qs, rfl, q1, q2, q3, q4, hbb⟩
     obtain ⟨k0, k1, k2, k3⟩ := box3 (XD.out.below hbb))
  | (go_at_call 42
     have hx := hba
     have p4' := p4.keep hbc
     refine (eq_ints A7 A8 n7 n8 c7 c8 _ _ _ p4' q4 (pcode_pos p4') (pcode_pos q4) (by omega) (by omega)).mono ?_
     rintro e w9 ⟨rfl, hb9⟩
     rw [same_vb HA.out.wf HB.out.wf p1 q1 p2 q2]
     have HF := hide (BD.out.trans ((hx.trans ((hbc.trans (hb9.mono hbc.size)).mono hx.size)).mono BD.out.size)))
  | (go_at_call 42
     have hx := hbb
     have q4' := q4.keep hbc
     refine (eq_ints A7 A8 n7 n8 c7 c8 _ _ _ p4 q4' (pcode_pos p4) (pcode_pos q4') (by omega) (by omega)).mono ?_
     rintro e w9 ⟨rfl, hb9⟩
     rw [same_vb HA.out.wf HB.out.wf p1 q1 p2 q2]
     have HF := hide (BD.out.trans ((hx.trans ((hbc.trans (hb9.mono hbc.size)).mono hx.size)).mono BD.out.size))))
 all_goals (go_wp2_with fail)
 all_goals (go_ret; exact ⟨rfl, HF.out⟩)
theorem same_yes (a b : Pl.Dg) (ha : Pl.Valid a) (hb : Pl.Valid b) (ha20 : a.n < 20) (hb20 : b.n < 20) (A B C D : Option Addr) (cp cq m cp' cq' m' : Nat) (w : World) (hm : m = 4 * a.n) (hg : DgAt w A B a) (hm' : m' = 4 * b.n) (hg' : DgAt w C D b) :
 Calls Tryd.prog 17 #[.agg #[.slice A a.n cp, .slice B m cq, .int .i64 a.lp], .agg #[.slice C b.n cp', .slice D m' cq', .int .i64 b.lp]] w fun e w' => e = .returned (.bool (Pl.vb (∃ σ, Pl.Iso a b σ))) ∧ Below w.heap.size w w' :=
 same_yes20 a b ha hb (Nat.le_of_lt ha20) (Nat.le_of_lt hb20) A B C D cp cq m cp' cq' m' w hm hg hm' hg'
end Go.Proofs.YtcaoblilkgajoaaDoor
end
section
namespace Go.Proofs.YtcaoblilkgajoaaDoor.Pl
def BV (s : Int) (ws : List Int) : Prop := 1 ≤ s ∧ s ≤ 10 ∧ ws.length ≤ 200 ∧ ∀ x, x ∈ ws → x ≠ 0 ∧ -s < x ∧ x < s
def swp (l : List Nat) (i : Nat) : List Nat := (l.set (i - 1) (l.getD i 0)).set i (l.getD (i - 1) 0)
def pmA (n : Nat) (ws : List Int) : List Nat := ws.foldl (fun l x => swp l x.natAbs) (List.range n)
def tr1 (at_ : Nat) (x : Int) : Nat := if at_ = x.natAbs - 1 then x.natAbs else if at_ = x.natAbs then x.natAbs - 1 else at_
def trk (p : Nat) (ws : List Int) : Nat := ws.foldl tr1 p
def pmR (n : Nat) (ws : List Int) : List Nat := (List.range n).map (fun p => trk p ws)
theorem pmA_snoc (n : Nat) (ws : List Int) (x : Int) : pmA n (ws ++ [x]) = swp (pmA n ws) x.natAbs := by unfold pmA; rw [List.foldl_append]; rfl
theorem trk_snoc (p : Nat) (ws : List Int) (x : Int) : trk p (ws ++ [x]) = tr1 (trk p ws) x := by unfold trk; rw [List.foldl_append]; rfl
theorem swp_len (l : List Nat) (i : Nat) : (swp l i).length = l.length := by unfold swp; simp
theorem pmA_len (n : Nat) (ws : List Int) : (pmA n ws).length = n := by
 have key : ∀ (ws : List Int) (l : List Nat), (ws.foldl (fun l x => swp l x.natAbs) l).length = l.length := by
  intro ws
  induction ws with
  | nil => intro l; rfl
  | cons x ws ih => intro l; rw [List.foldl_cons, ih, swp_len]
 unfold pmA
 rw [key, List.length_range]
theorem pmR_len (n : Nat) (ws : List Int) : (pmR n ws).length = n := by unfold pmR; simp
def LetOk (n : Nat) (x : Int) : Prop := 1 ≤ x.natAbs ∧ x.natAbs < n
theorem BV.ok {s : Int} {ws : List Int} (h : BV s ws) : ∀ x, x ∈ ws → LetOk s.toNat x := fun x hx => by
 have h1 := h.2.2.2 x hx
 have h2 := h.1
 constructor
 ·omega
 ·omega
theorem swp_get {l : List Nat} {x : Int} {n : Nat} (hl : l.length = n) (hx : LetOk n x) {i : Nat} (hi : i < n) : (swp l x.natAbs).getD i 0 = l.getD (tr1 i x) 0 := by
 have h1 := hx.1
 have h2 := hx.2
 unfold swp tr1
 rw [List.getD_eq_getElem?_getD, List.getElem?_set, List.getElem?_set, List.length_set]
 by_cases e1 : x.natAbs = i
 ·subst e1
  rw [if_pos rfl, if_pos (by omega), if_neg (by omega), if_pos rfl]
  rfl
 ·rw [if_neg e1]
  by_cases e2 : x.natAbs - 1 = i
  ·rw [if_pos e2, if_pos (by omega), if_pos e2.symm]
   rfl
  ·rw [if_neg e2, if_neg (fun e => e2 e.symm), if_neg (fun e => e1 e.symm), ← List.getD_eq_getElem?_getD]
theorem tr1_lt {n i : Nat} {x : Int} (hx : LetOk n x) (hi : i < n) : tr1 i x < n := by
 have h1 := hx.1
 have h2 := hx.2
 unfold tr1
 split
 ·omega
 ·split <;> omega
theorem tr1_tr1 {n : Nat} {x : Int} (hx : LetOk n x) (i : Nat) : tr1 (tr1 i x) x = i := by
 have h1 := hx.1
 unfold tr1
 by_cases e1 : i = x.natAbs - 1
 ·rw [if_pos e1, if_neg (by omega), if_pos rfl, e1]
 ·rw [if_neg e1]
  by_cases e2 : i = x.natAbs
  ·rw [if_pos e2, if_pos rfl, e2]
  ·rw [if_neg e2, if_neg e1, if_neg e2]
theorem pm_fit (n : Nat) : ∀ (k : Nat) (ws : List Int), ws.length = k → (∀ x, x ∈ ws → LetOk n x) → (∀ p, p < n → trk p ws < n ∧ (pmA n ws).getD (trk p ws) 0 = p) ∧ ∀ i, i < n → (pmA n ws).getD i 0 < n ∧ trk ((pmA n ws).getD i 0) ws = i := by
 intro k
 induction k with
 | zero =>
   intro ws hl _
   obtain rfl := List.eq_nil_of_length_eq_zero hl
   have e : ∀ i, i < n → (pmA n []).getD i 0 = i := fun i hi => by
    show (List.range n).getD i 0 = i
    rw [List.getD_eq_getElem?_getD, List.getElem?_range hi]; rfl
   exact ⟨fun p hp => ⟨hp, e p hp⟩, fun i hi => ⟨by rw [e i hi]; exact hi, e i hi⟩⟩
 | succ k ih =>
   intro ws hl hok
   have hne : ws ≠ [] := by intro e; rw [e] at hl; simp at hl
   obtain ⟨vs, x, rfl⟩ : ∃ vs x, ws = vs ++ [x] := ⟨ws.dropLast, ws.getLast hne, (List.dropLast_concat_getLast hne).symm⟩
   obtain ⟨h1, h2⟩ := ih vs (by simpa using hl) (fun y hy => hok y (by simp [hy]))
   have hx : LetOk n x := hok x (by simp)
   have hlen := pmA_len n vs
   refine ⟨fun p hp => ?_, fun i hi => ?_⟩
   ·obtain ⟨a1, a2⟩ := h1 p hp
    rw [trk_snoc, pmA_snoc]
    refine ⟨tr1_lt hx a1, ?_⟩
    rw [swp_get hlen hx (tr1_lt hx a1), tr1_tr1 hx, a2]
   ·obtain ⟨a1, a2⟩ := h2 (tr1 i x) (tr1_lt hx hi)
    rw [pmA_snoc, swp_get hlen hx hi]
    refine ⟨a1, ?_⟩
    rw [trk_snoc, a2, tr1_tr1 hx]
def ivL (A : List Nat) (n : Nat) : Nat → List Nat
 | 0 => List.replicate n 0
 | k + 1 => (ivL A n k).set (A.getD k 0) k
theorem ivL_len (A : List Nat) (n : Nat) : ∀ k, (ivL A n k).length = n
 | 0 => by simp [ivL]
 | k + 1 => by simp [ivL, ivL_len A n k]
theorem ivL_at {A : List Nat} {n : Nat} {f : Nat → Nat} (hA : ∀ i, i < n → A.getD i 0 < n ∧ f (A.getD i 0) = i) : ∀ k, k ≤ n → ∀ i, i < k → (ivL A n k).getD (A.getD i 0) 0 = i
 | 0, _, i, hi => by omega
 | k + 1, hk, i, hi => by
   have h0 := hA k (by omega)
   have h1 := hA i (by omega)
   show ((ivL A n k).set (A.getD k 0) k).getD (A.getD i 0) 0 = i
   rw [List.getD_eq_getElem?_getD, List.getElem?_set]
   by_cases e : A.getD k 0 = A.getD i 0
   ·rw [if_pos e, if_pos (by rw [ivL_len]; exact h0.1)]
    rw [e, h1.2] at h0
    exact h0.2.symm
   ·rw [if_neg e, ← List.getD_eq_getElem?_getD]
    refine ivL_at hA k (by omega) i ?_
    rcases Nat.lt_or_ge i k with h | h
    ·exact h
    ·exact absurd (show A.getD k 0 = A.getD i 0 by rw [show i = k by omega]) e
theorem perm_eq {n : Nat} {ws : List Int} (hok : ∀ x, x ∈ ws → LetOk n x) : ivL (pmA n ws) n n = pmR n ws := by
 obtain ⟨h1, h2⟩ := pm_fit n _ ws rfl hok
 refine List.ext_getElem? fun p => ?_
 rcases Nat.lt_or_ge p n with hp | hp
 ·obtain ⟨a1, a2⟩ := h1 p hp
  have := ivL_at (A := pmA n ws) (f := fun x => trk x ws) h2 n (Nat.le_refl _) _ a1
  rw [a2] at this
  unfold pmR
  rw [List.getElem?_map, List.getElem?_range hp]
  have hl : p < (ivL (pmA n ws) n n).length := by rw [ivL_len]; exact hp
  rw [List.getD_eq_getElem?_getD, List.getElem?_eq_getElem hl] at this
  rw [List.getElem?_eq_getElem hl]
  exact congrArg some this
 ·rw [List.getElem?_eq_none (by rw [ivL_len]; exact hp), List.getElem?_eq_none (by rw [pmR_len]; exact hp)]
end Go.Proofs.YtcaoblilkgajoaaDoor.Pl
end
section
namespace Go.Proofs.YtcaoblilkgajoaaDoor.Pl
def jnn (l : List Nat) (a b : Nat) : List Nat := (l.set a b).set b a
structure ClS where
 mt : List Nat
 fi : List Int
 la : List Int
deriving DecidableEq
def clPass (q : ClS) (p i o : Nat) : ClS :=
 if q.la.getD p (-1) < 0 then ⟨q.mt, q.fi.set p (i : Int), q.la.set p (o : Int)⟩ else ⟨jnn q.mt (q.la.getD p (-1)).toNat i, q.fi, q.la.set p (o : Int)⟩
def clStep (q : ClS) (k : Nat) (x : Int) : ClS :=
 if x < 0 then clPass (clPass q (x.natAbs - 1) (4 * k) (4 * k + 3)) x.natAbs (4 * k + 1) (4 * k + 2)
 else clPass (clPass q (x.natAbs - 1) (4 * k + 3) (4 * k + 2)) x.natAbs (4 * k) (4 * k + 1)
def clK (n : Nat) (ws : List Int) : Nat → ClS
 | 0 => ⟨List.replicate (4 * ws.length) 0, List.replicate n (-1), List.replicate n (-1)⟩
 | k + 1 => clStep (clK n ws k) k (ws.getD k 0)
def clEnd (q : ClS) : Nat → List Nat × Nat
 | 0 => (q.mt, 0)
 | p + 1 => if q.la.getD p (-1) < 0 then ((clEnd q p).1, (clEnd q p).2 + 1) else (jnn (clEnd q p).1 (q.la.getD p (-1)).toNat (q.fi.getD p (-1)).toNat, (clEnd q p).2)
def clSg (ws : List Int) : List Int := ws.map (fun x => if x < 0 then -1 else 1)
def clD (n : Nat) (ws : List Int) : Dg := ⟨clSg ws, (clEnd (clK n ws ws.length) n).1, (clEnd (clK n ws ws.length) n).2⟩
theorem jnn_len (l : List Nat) (a b : Nat) : (jnn l a b).length = l.length := by unfold jnn; simp
theorem clPass_len (q : ClS) (p i o : Nat) : (clPass q p i o).mt.length = q.mt.length ∧ (clPass q p i o).fi.length = q.fi.length ∧ (clPass q p i o).la.length = q.la.length := by
 unfold clPass
 split
 ·simp
 ·simp [jnn_len]
theorem clStep_len (q : ClS) (k : Nat) (x : Int) : (clStep q k x).mt.length = q.mt.length ∧ (clStep q k x).fi.length = q.fi.length ∧ (clStep q k x).la.length = q.la.length := by
 unfold clStep
 split <;> simp [clPass_len]
theorem clK_len (n : Nat) (ws : List Int) : ∀ k, (clK n ws k).mt.length = 4 * ws.length ∧ (clK n ws k).fi.length = n ∧ (clK n ws k).la.length = n
 | 0 => by simp [clK]
 | k + 1 => by
   have := clK_len n ws k
   have := clStep_len (clK n ws k) k (ws.getD k 0)
   unfold clK
   omega
theorem clEnd_cnt (q : ClS) : ∀ k, (clEnd q k).2 ≤ k
 | 0 => Nat.le_refl _
 | k + 1 => by
   have := clEnd_cnt q k
   unfold clEnd
   split
   ·show (clEnd q k).2 + 1 ≤ k + 1
    omega
   ·show (clEnd q k).2 ≤ k + 1
    omega
def ClB (q : ClS) (K : Nat) : Prop := (∀ p, q.la.getD p (-1) < K ∧ -1 ≤ q.la.getD p (-1)) ∧ ∀ p, q.fi.getD p (-1) < K ∧ -1 ≤ q.fi.getD p (-1) ∧ (0 ≤ q.la.getD p (-1) → 0 ≤ q.fi.getD p (-1))
theorem getD_setI (l : List Int) (a b : Nat) (x : Int) : (l.set a x).getD b (-1) = if a = b ∧ a < l.length then x else l.getD b (-1) := by
 rw [List.getD_eq_getElem?_getD, List.getElem?_set]
 by_cases e : a = b
 ·subst e
  by_cases h : a < l.length
  ·rw [if_pos rfl, if_pos h, if_pos ⟨rfl, h⟩]; rfl
  ·rw [if_pos rfl, if_neg h, if_neg (fun e => h e.2), List.getD_eq_getElem?_getD, List.getElem?_eq_none (by omega)]
 ·rw [if_neg e, if_neg (fun h => e h.1), ← List.getD_eq_getElem?_getD]
theorem clPass_b {q : ClS} {K p i o : Nat} (h : ClB q K) (hi : i < K) (ho : o < K) (hl : q.fi.length = q.la.length) : ClB (clPass q p i o) K := by
 unfold clPass
 split
 ·refine ⟨fun r => ?_, fun r => ?_⟩
  ·have := h.1 r
   show ((q.la.set p (o : Int)).getD r (-1) < K ∧ -1 ≤ (q.la.set p (o : Int)).getD r (-1))
   rw [getD_setI]
   split <;> omega
  ·have h1 := h.1 r
   have h2 := h.2 r
   show ((q.fi.set p (i : Int)).getD r (-1) < K ∧ -1 ≤ (q.fi.set p (i : Int)).getD r (-1) ∧ (0 ≤ (q.la.set p (o : Int)).getD r (-1) → 0 ≤ (q.fi.set p (i : Int)).getD r (-1)))
   rw [getD_setI, getD_setI, hl]
   split <;> omega
 ·refine ⟨fun r => ?_, fun r => ?_⟩
  ·have := h.1 r
   show ((q.la.set p (o : Int)).getD r (-1) < K ∧ -1 ≤ (q.la.set p (o : Int)).getD r (-1))
   rw [getD_setI]
   split <;> omega
  ·have h1 := h.1 r
   have h2 := h.2 r
   show (q.fi.getD r (-1) < K ∧ -1 ≤ q.fi.getD r (-1) ∧ (0 ≤ (q.la.set p (o : Int)).getD r (-1) → 0 ≤ q.fi.getD r (-1)))
   rw [getD_setI]
   rename_i hn
   refine ⟨h2.1, h2.2.1, fun hh => ?_⟩
   split at hh
   ·rename_i e
    obtain ⟨e, _⟩ := e
    subst e
    exact h2.2.2 (by omega)
   ·exact h2.2.2 hh
theorem ClB.mono {q : ClS} {K L : Nat} (h : ClB q K) (hl : K ≤ L) : ClB q L := ⟨fun p => by have := h.1 p; omega, fun p => by have := h.2 p; omega⟩
theorem clK_b (n : Nat) (ws : List Int) : ∀ k, ClB (clK n ws k) (4 * k)
 | 0 => by
   have e : ∀ p, (List.replicate n (-1 : Int)).getD p (-1) = -1 := fun p => by
    rw [List.getD_eq_getElem?_getD, List.getElem?_replicate]
    split <;> rfl
   refine ⟨fun p => ?_, fun p => ?_⟩
   ·show (List.replicate n (-1 : Int)).getD p (-1) < ((4 * 0 : Nat) : Int) ∧ -1 ≤ (List.replicate n (-1 : Int)).getD p (-1)
    rw [e]; omega
   ·show (List.replicate n (-1 : Int)).getD p (-1) < ((4 * 0 : Nat) : Int) ∧ -1 ≤ (List.replicate n (-1 : Int)).getD p (-1) ∧ (0 ≤ (List.replicate n (-1 : Int)).getD p (-1) → 0 ≤ (List.replicate n (-1 : Int)).getD p (-1))
    rw [e]; omega
 | k + 1 => by
   have h := (clK_b n ws k).mono (show 4 * k ≤ 4 * (k + 1) by omega)
   have hl := clK_len n ws k
   unfold clK clStep
   split
   ·refine clPass_b (clPass_b h (by omega) (by omega) (by omega)) (by omega) (by omega) ?_
    have := clPass_len (clK n ws k) ((ws.getD k 0).natAbs - 1) (4 * k) (4 * k + 3)
    omega
   ·refine clPass_b (clPass_b h (by omega) (by omega) (by omega)) (by omega) (by omega) ?_
    have := clPass_len (clK n ws k) ((ws.getD k 0).natAbs - 1) (4 * k + 3) (4 * k + 2)
    omega
end Go.Proofs.YtcaoblilkgajoaaDoor.Pl
end
section
namespace Go.Proofs.YtcaoblilkgajoaaDoor
open Go Go.RowKit
attribute [local go_sem ↓] Go.wp_at_zero Go.wp_at_succ
theorem box2b {W : World} {g : Nat} {t : TypeId} {a b : Value} (h : Row W g t [a, b]) : W.cell? ⟨g, 0, none⟩ = some a ∧ W.cell? ⟨g, 1, none⟩ = some b ∧ ∀ o, W.frozen? ⟨g, o, none⟩ = false :=
 ⟨h.cell (i := 0) (by simp), h.cell (i := 1) (by simp), h.free⟩
theorem generator_any (x : Int) (w : World) (h : -1000000 ≤ x ∧ x ≤ 1000000) :
 Calls Tryd.prog 38 #[.int .i64 x] w fun e w' => e = .returned (.int .i64 (x.natAbs : Int)) ∧ w' = w := by
 go_enter Tryd.func38, Tryd.ntmps38
 go_wp2
 go_ret
 refine ⟨ret_int ?_, rfl⟩
 omega
set_option maxRecDepth 100000 in
set_option maxHeartbeats 2000000 in
theorem bvalid_any (s : Int) (ws : List Int) (A : Option Addr) (n c : Nat) (w : World) (hw : IntsAt w A n ws) (hn : n ≤ maxLen) :
 Calls Tryd.prog 16 #[.agg #[.int .i64 s, .slice A n c]] w fun e w' => e = .returned (.bool (Pl.vb (Pl.BV s ws))) ∧ Below w.heap.size w w' := by
 unfold maxLen at hn
 have hl := hw.len
 have HL := hide hl
 have HW := hide hw
 clear hw
 have X0 := hide (row_at (W := w) (g := w.heap.size) (t := 24) (vs := [.int .i64 s, .slice A n c]) rfl)
 have B0 := hide (show Below w.heap.size w (w.alloc (.cells #[.int .i64 s, .slice A n c] 24)) from (Below.refl _ _).alloc (Nat.le_refl _) _)
 obtain ⟨d0, d1, d2⟩ := box2b X0.out
 have no : ∀ {p : Prop}, ¬ Pl.BV s ws → Ending.returned (Value.bool false) = Ending.returned (.bool (Pl.vb (Pl.BV s ws))) := fun h => by rw [Pl.vb_false h]
 have NO := hide (@no True)
 clear no
 by_cases h1 : s < 1
 ·have HF := hide (NO.out (fun h => by have := h.1; omega))
  clear hl
  go_enter Tryd.func16, Tryd.ntmps16
  go_wp2
  go_ret
  exact ⟨HF.out, B0.out⟩
 ·by_cases h2 : (10 : Int) < s
  ·have HF := hide (NO.out (fun h => by have := h.2.1; omega))
   clear hl
   go_enter Tryd.func16, Tryd.ntmps16
   go_wp2
   go_ret
   exact ⟨HF.out, B0.out⟩
  ·by_cases h3 : (200 : Int) < (n : Int)
   ·have HF := hide (NO.out (fun h => by have := h.2.2.1; omega))
    clear hl
    go_enter Tryd.func16, Tryd.ntmps16
    go_wp2
    go_ret
    exact ⟨HF.out, B0.out⟩
   ·clear hl
    go_enter Tryd.func16, Tryd.ntmps16
    go_wp2_with fail
    go_loopg [2, 4, 22] n (fun g s2 s4 i wx => ∃ k : Nat, k + g = n ∧ i = .int .i64 (k : Int) ∧ (∀ j, j < k → ws.getD j 0 ≠ 0 ∧ -s < ws.getD j 0 ∧ ws.getD j 0 < s) ∧ wx = w.alloc (.cells #[.int .i64 s, .slice A n c] 24))
    case atStart => exact ⟨0, by omega, rfl, fun j hj => by omega, rfl⟩
    case round =>
     obtain ⟨k, hkg, rfl, hk, rfl⟩ := hrel
     have HKG := hide hkg
     have HK := hide hk
     clear hk
     by_cases hk : k < n
     ·have hki : (k : Int) < (n : Int) := by omega
      have k0 : (0 : Int) ≤ (k : Int) := by omega
      obtain ⟨b, o, rfl, x1⟩ := (HW.out.keep B0.out).at_ hk
      obtain ⟨x, hx⟩ : ∃ x, x = ws.getD k 0 := ⟨_, rfl⟩
      rw [← hx] at x1
      have HX := hide hx
      have HM := hide (show x ∈ ws by
       rw [hx, List.getD_eq_getElem?_getD, List.getElem?_eq_getElem (by rw [HL.out]; exact hk)]
       exact List.getElem_mem _)
      clear hkg hx
      by_cases g1 : x = 0
      ·subst g1
       have HF := hide (NO.out (fun h => (h.2.2.2 _ HM.out).1 rfl))
       go_wp2
       go_ret
       exact ⟨HF.out, B0.out⟩
      ·by_cases g2 : x ≤ -s
       ·have HF := hide (NO.out (fun h => by have := (h.2.2.2 _ HM.out).2.1; omega))
        go_wp2
        go_ret
        exact ⟨HF.out, B0.out⟩
       ·by_cases g3 : s ≤ x
        ·have HF := hide (NO.out (fun h => by have := (h.2.2.2 _ HM.out).2.2; omega))
         go_wp2
         go_ret
         exact ⟨HF.out, B0.out⟩
        ·go_wp2
         go_roundg (gk - 1)
         case measure => have := HKG.out; omega
         case rel => exact ⟨k + 1, by have := HKG.out; omega, by go_num, fun j hj => by
          rcases Nat.lt_or_ge j k with h | h
          ·exact HK.out j h
          ·rw [show j = k by omega, ← HX.out]
           omega, rfl⟩
     ·have hki : ¬ ((k : Int) < (n : Int)) := by omega
      have HT := hide (show Ending.returned (Value.bool true) = Ending.returned (.bool (Pl.vb (Pl.BV s ws))) by
       rw [Pl.vb_true]
       refine ⟨by omega, by omega, by rw [HL.out]; omega, fun x hx => ?_⟩
       obtain ⟨j, hj, rfl⟩ := List.getElem_of_mem hx
       have := HK.out j (by have := HL.out; omega)
       rwa [List.getD_eq_getElem?_getD, List.getElem?_eq_getElem hj] at this)
      clear hkg
      go_wp2
      go_ret
      exact ⟨HT.out, B0.out⟩
end Go.Proofs.YtcaoblilkgajoaaDoor
end
section
namespace Go.Proofs.YtcaoblilkgajoaaDoor
open Go Go.RowKit
attribute [local go_sem ↓] Go.wp_at_zero Go.wp_at_succ
theorem letter_at {ws : List Int} {n k : Nat} (hl : ws.length = n) (hk : k < n) : ∃ x, x ∈ ws ∧ ws.getD k 0 = x ∧ ws.take (k + 1) = ws.take k ++ [x] := by
 have e : ws[k]? = some (ws[k]'(by omega)) := List.getElem?_eq_getElem (by omega)
 exact ⟨_, List.getElem_mem _, by rw [List.getD_eq_getElem?_getD, e]; rfl, Pl.take_one e⟩
end Go.Proofs.YtcaoblilkgajoaaDoor
end
