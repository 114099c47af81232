/-
 The texts Wt, Wu, Wo, Wp, Wn in one.
-/
import Derived.Test.YtlffopdoeobgaaaGreatDoorK06
import Derived.Test.YtlffopdoeobgaaaGreatDoorK04
import Derived.Laws.MakeOwn
import Derived.Test.YtlffopdoeobgaaaGreatDoorK05
set_option linter.unusedVariables false
set_option linter.unusedSimpArgs false
section
namespace Go.Proofs.YtlffopdoeobgaaaGreatDoor
open Go Go.RowKit
structure Cys (w : World) (N : Nat) (f : Nat → Nat) (k : Nat) (fs : List (List Nat)) (bs : List Bool) (vs : List Value) (vA : Value) (W : World) : Prop where
 fc : Pl.Fcs f (fun _ => True) N k fs bs
 few : fs.length ≤ k
 seen : BRow W w.heap.size bs
 own : W.ownsRow (w.heap.size + 1) 22 1 vA fs.length vs
 fa : Vs W vs fs
 bel : Below w.heap.size w W
 far : Far w.heap.size vs
theorem Cys.below {w : World} {N : Nat} {f : Nat → Nat} {k : Nat} {fs : List (List Nat)} {bs : List Bool} {vs : List Value} {vA : Value} {W W' : World} (h : Cys w N f k fs bs vs vA W) (hb : Below W.heap.size W W') : Cys w N f k fs bs vs vA W' :=
 ⟨h.fc, h.few, Row.below h.seen hb, own_keep h.own hb (Nat.le_refl _), h.fa.below hb, h.bel.trans (hb.mono h.bel.size), h.far⟩
def CyclesPost (f : Nat → Nat) (N : Nat) (w : World) (e : Ending) (w' : World) : Prop :=
 ∃ (A : Option Addr) (c : Nat) (fs : List (List Nat)) (bs : List Bool) (vs : List Value), e = .returned (.slice A fs.length c) ∧ Pl.Fcs f (fun _ => True) N N fs bs ∧ fs.length ≤ N ∧ RowT w' 22 A fs.length vs ∧ Vs w' vs fs ∧ Below w.heap.size w w' ∧ Far w.heap.size vs
set_option maxRecDepth 100000 in
set_option maxHeartbeats 3000000 in
theorem cycles_any (c : Value) (N : Nat) (S : Nat → Prop) (f : Nat → Nat) (w : World) (hst : Steps 137 c N f w) (hbij : Pl.Bij N S f) (hS : ∀ x, x < N → S x) (hSN : ∀ x, S x → x < N) (hN : N ≤ 1000) :
 Calls Tryz.prog 101 #[.int .i64 (N : Int), .func (.func 136) #[] #[], fv1 137 c] w (CyclesPost f N w) := by
 unfold fv1
 have HST := hide hst
 have HBI := hide hbij
 have HSS := hide hS
 have HSN := hide hSN
 have hmk := fun W : World => run_bools N (by omega) W
 have HF := hide (show ∀ x, x < N → f x < N from fun x hx => hSN _ (hbij.maps x (hS x hx)))
 have H0 := hide (show Cys w N f 0 [] (List.replicate N false) [] (.slice none 0 0) (w.alloc (.cells (Array.replicate N (Value.bool false)) 4)) from
  ⟨Pl.Fcs.start f _ N, Nat.le_refl _, BRow.made w N, World.ownsRow_nil _ _ _ _, Vs.nil _, (Below.refl _ _).alloc (Nat.le_refl _) _, fun v hv => by simp at hv⟩)
 clear hst hbij hS hSN
 go_enter Tryz.func101, Tryz.ntmps101
 go_wp2
 clear hmk
 go_loopg [7, 16] N (fun g v i wx => ∃ (k : Nat) (fs : List (List Nat)) (bs : List Bool) (vs : List Value), k + g = N ∧ i = .int .i64 k ∧ Cys w N f k fs bs vs v wx)
 case atStart => exact ⟨0, _, _, _, by omega, rfl, H0.out⟩
 case round =>
  clear H0
  obtain ⟨k, fs, bs, vs, hkg, rfl, hk⟩ := hrel
  have HKG := hide hkg
  have hkN : k ≤ N := by omega
  have HK := hide hk
  clear hkg hk
  obtain ⟨go, rfl⟩ : ∃ go, go = gk := ⟨_, rfl⟩
  obtain ⟨A7, c7, rfl⟩ := owns_slice HK.out.own
  by_cases hlt : k < N
  ·have hbl : k < bs.length := by rw [HK.out.fc.len]; exact hlt
   have hc := HK.out.seen.cell hbl
   have ik : (0 : Int) ≤ (k : Int) := by omega
   have jk : (k : Int) < (N : Int) := by omega
   cases hg : Pl.gb bs k with
   | true =>
     have HGB := hide hg
     have hc' : wr.cell? ⟨w.heap.size, k, none⟩ = some (.bool true) := by rw [hc]; unfold Pl.gb at hg; rw [hg]
     clear hc hg
     go_wp2
     go_roundg (go - 1)
     case measure => have := HKG.out; omega
     case rel => exact ⟨k + 1, fs, bs, vs, by have := HKG.out; omega, by go_num, HK.out.fc.skip (.inl HGB.out), by have := HK.out.few; omega, HK.out.seen, HK.out.own, HK.out.fa, HK.out.bel, HK.out.far⟩
   | false =>
     have HGB := hide hg
     have hc' : wr.cell? ⟨w.heap.size, k, none⟩ = some (.bool false) := by rw [hc]; unfold Pl.gb at hg; rw [hg]
     clear hc hg
     go_wp2_with fail
     refine (every_any _ _).mono ?_
     rintro e w1 ⟨rfl, rfl⟩
     go_wp2_with fail
     obtain ⟨p, hpN, hper⟩ := HBI.out.per (HSS.out k hlt)
     have HPER := hide hper
     clear hper
     refine (cycle_any c N f k p _ (HST.out.keep HK.out.bel) HF.out hlt HPER.out hpN hN).mono ?_
     rintro e w2 ⟨A5, c5, rfl, own5, hb5⟩
     have HK2 := hide (HK.out.below hb5)
     have FA2 := hide (show FaceAt w2 (.slice A5 p c5) (Pl.cyc f k p) from ⟨A5, c5, by rw [Pl.cyc_len], by rw [Pl.cyc_len]; exact own_rowT own5⟩)
     have HFR := hide (show ∀ g, (Value.slice A5 p c5).ownBlock = some g → w.heap.size ≤ g from fun g hg => by have := (own5.lt g hg).1; have := HK.out.bel.size; omega)
     have HFA0 := hide HK.out.far
     clear own5 hb5
     have hp0 := HPER.out.1
     obtain ⟨b5, o5, rfl, _⟩ := nats_at FA2.out.ints.2 (k := 0) hp0
     have HFC := hide HK.out.fc
     have hfew := HK.out.few
     have HM0 := hide (show BRow w2 w.heap.size (Pl.mark bs ((Pl.cyc f k p).take 0)) from HK2.out.seen)
     go_wp2_with fail
     go_loopg [34] p (fun g i wx => ∃ j : Nat, j + g = p ∧ i = .int .i64 j ∧ BRow wx w.heap.size (Pl.mark bs ((Pl.cyc f k p).take j)) ∧ wx.ownsRow (w.heap.size + 1) 22 1 (.slice A7 fs.length c7) fs.length vs ∧ Vs wx vs fs ∧ FaceAt wx (.slice (some ⟨b5, o5, none⟩) p c5) (Pl.cyc f k p) ∧ Below w.heap.size w wx)
     case atStart => exact ⟨0, by omega, rfl, HM0.out, HK2.out.own, HK2.out.fa, FA2.out, HK2.out.bel⟩
     case round =>
      clear HM0 FA2 HK2 HK
      obtain ⟨j, hjg, rfl, hbr, hown, hvs, hfa, hbel⟩ := hrel
      have HJG := hide hjg
      have hjp : j ≤ p := by omega
      have HBR := hide hbr
      have HOWN := hide hown
      have HVS := hide hvs
      have HFA := hide hfa
      have HBEL := hide hbel
      have hsz := hbr.lt
      clear hjg hbr hown hvs hfa hbel
      by_cases hlj : j < p
      ·obtain ⟨b', o', e', hcj⟩ := nats_at HFA.out.ints.2 (k := j) hlj
       injection e' with e'
       injection e' with e1 e2
       subst e1
       subst e2
       rw [Pl.cyc_get hlj] at hcj
       obtain ⟨y, hy⟩ : ∃ y, y = Pl.it f j k := ⟨_, rfl⟩
       have hyN : y < N := by rw [hy]; exact it_lt HF.out hlt j
       rw [← hy] at hcj
       have HY := hide hy
       clear hy
       have hyl : y < (Pl.mark bs ((Pl.cyc f k p).take j)).length := by rw [Pl.mark_len, HFC.out.len]; exact hyN
       have cy := HBR.out.cell hyl
       have fy := Row.free HBR.out y
       have iy : (0 : Int) ≤ (y : Int) := by omega
       have jy : (y : Int) < (N : Int) := by omega
       go_wp2_with fail
       go_roundg (gk - 1)
       case measure => have := HJG.out; omega
       case rel =>
        refine ⟨j + 1, by have := HJG.out; omega, by go_num, ?_, ?_, HVS.out.store HBR.out (by decide) _, HFA.out.store HBR.out (by decide) _, HBEL.out.setCell (Nat.le_refl _) _⟩
        ·have h1 := HBR.out.set y true
         have h2 : (Pl.cyc f k p).take (j + 1) = (Pl.cyc f k p).take j ++ [y] := by
          rw [List.take_succ_eq_append_getElem (by rw [Pl.cyc_len]; exact hlj)]
          congr 2
          have := Pl.cyc_get (f := f) (x := k) hlj
          rw [List.getD_eq_getElem?_getD, List.getElem?_eq_getElem (by rw [Pl.cyc_len]; exact hlj)] at this
          rw [HY.out]
          exact this
         rw [h2, Pl.mark_append]
         exact h1
        ·exact ownsRow_setCell_below HOWN.out (by show w.heap.size < w.heap.size + 1; omega) _
      ·have hjj : j = p := by omega
       subst hjj
       obtain ⟨i0, hi0, hz0, hz1, hz2⟩ := info_parts rowInfo
       have P1 : ∀ u ∈ [Value.slice (some ⟨b5, o5, none⟩) j c5], u.oneCell' = true := by simp [Value.oneCell']
       go_wp2_with (at_builtin; refine wpList_append_lies _ (by rfl) _ _ 75 (by rfl) (w.heap.size + 1) 22 i0 (.slice none 0 0) 1 24 Tryz.underlying75 hi0 hz0 hz1 hz2 rfl (by omega) _ fs.length vs (by rfl) (HOWN.out.alloc _) ⟨wr.heap.size, 0, none⟩ 1 1 [.slice (some ⟨b5, o5, none⟩) j c5] (by rfl) (by rfl) (World.news_of_block (cs := #[.slice (some ⟨b5, o5, none⟩) j c5]) (t := 22) (fr := (0, 0)) (heap_alloc_new wr _)) P1 (by omega) (by unfold maxLen; omega) (by omega) (by simp; omega) (wr.heap.size + 1) (by simp) ?_; intro g3 c3 w3 own3 grow3 at3 lt3)
       go_roundg (go - 1)
       case measure => have := HKG.out; omega
       case rel =>
        have hbk := fun g (hg : (Value.slice A7 fs.length c7).ownBlock = some g) => ownsRow_block (HOWN.out.alloc (.cells #[.slice (some ⟨b5, o5, none⟩) j c5] 22)) g hg
        have hba : Below wr.heap.size wr (wr.alloc (.cells #[.slice (some ⟨b5, o5, none⟩) j c5] 22)) := (Below.refl _ _).alloc (Nat.le_refl _) _
        refine ⟨k + 1, fs ++ [Pl.cyc f k j], Pl.mark bs (Pl.cyc f k j), vs ++ [.slice (some ⟨b5, o5, none⟩) j c5], by have := HKG.out; omega, by go_num, ?_⟩
        refine ⟨HFC.out.add HBI.out HSS.out HSN.out hlt trivial HGB.out HPER.out, by simp; omega, ?_, by simpa using own3, ?_, ?_, HFA0.out.add HFR.out⟩
        ·have h1 := HBR.out
         rw [List.take_of_length_le (by rw [Pl.cyc_len]; omega)] at h1
         refine Row.grown (Row.alloc h1 (.cells #[.slice (some ⟨b5, o5, none⟩) j c5] 22)) grow3 ?_
         intro e
         obtain ⟨cs, fr, h3⟩ := hbk _ e.symm
         have h4 := Row.alloc h1 (.cells #[.slice (some ⟨b5, o5, none⟩) j c5] 22)
         rw [h4] at h3
         injection h3 with h3
         injection h3 with _ h5
         exact absurd h5 (by decide)
        ·exact ((HVS.out.below hba).grown grow3 hbk (by decide)).add ((HFA.out.below hba).grown grow3 hbk (by decide))
        ·exact (HBEL.out.alloc (by omega) _).grown grow3 (by simp; omega) (fun k hk => by have := (HOWN.out.lt k hk).1; omega)
  ·go_wp2
   go_ret
   have : k = N := by omega
   subst this
   exact ⟨A7, c7, fs, bs, vs, rfl, HK.out.fc, HK.out.few, own_rowT HK.out.own, HK.out.fa, HK.out.bel, HK.out.far⟩
end Go.Proofs.YtlffopdoeobgaaaGreatDoor
end
section
namespace Go.Proofs.YtlffopdoeobgaaaGreatDoor
open Go Go.RowKit
theorem mk_self (d : Pl.Dg) : Pl.mk d.sg (nats d.mt) d.lp = d := by
 unfold Pl.mk nats
 rw [List.map_map]
 have : (Int.toNat ∘ fun m : Nat => (m : Int)) = id := by funext x; rfl
 rw [this, List.map_id]
 rfl
theorem vl_of {d : Pl.Dg} : Pl.VL d.sg (nats d.mt) d.lp ↔ Pl.Valid d := by
 constructor
 ·intro h; have := h.1; rwa [mk_self] at this
 ·intro h; exact ⟨by rw [mk_self]; exact h, fun z hz => by unfold nats at hz; obtain ⟨m, _, rfl⟩ := List.mem_map.1 hz; omega, by omega⟩
theorem valid_yes (d : Pl.Dg) (hd : Pl.Valid d) (A B : Option Addr) (cp cq m : Nat) (w : World) (hm : m = 4 * d.n) (hg : DgAt w A B d) :
 Calls Tryz.prog 20 #[.agg #[.slice A d.n cp, .slice B m cq, .int .i64 d.lp]] w fun e w' => e = .returned (.bool true) ∧ Below w.heap.size w w' := by
 have hn := hd.wf.few
 have hl := hd.wf.lp
 refine (valid_any d.sg (nats d.mt) d.lp A B d.n m cp cq w hg.s (by rw [hm]; exact hg.m) (by unfold maxLen; omega) (by unfold maxLen; omega) (by omega)).mono ?_
 rintro e w' ⟨h1, h2⟩
 rw [Pl.vb_true (vl_of.2 hd)] at h1
 exact ⟨h1, h2⟩
def FacesPost (d : Pl.Dg) (w : World) (e : Ending) (w' : World) : Prop := CyclesPost (Pl.nx d) (4 * d.n) w e w'
set_option maxRecDepth 100000 in
set_option maxHeartbeats 1000000 in
theorem faces_any (d : Pl.Dg) (hd : Pl.Valid d) (A B : Option Addr) (cp cq m : Nat) (w : World) (hm : m = 4 * d.n) (hg : DgAt w A B d) :
 Calls Tryz.prog 94 #[.agg #[.slice A d.n cp, .slice B m cq, .int .i64 d.lp]] w (FacesPost d w) := by
 have hn := hd.wf.few
 have HM := hide hm
 have HG := hide hg
 have B0 := hide (show Below w.heap.size w (w.alloc (.cells #[.slice A d.n cp, .slice B m cq, .int .i64 d.lp] 24)) from (Below.refl _ _).alloc (Nat.le_refl _) _)
 have X0 := hide (show Row (w.alloc (.cells #[.slice A d.n cp, .slice B m cq, .int .i64 d.lp] 24)) w.heap.size 24 [.slice A d.n cp, .slice B m cq, .int .i64 d.lp] from Row.new w _ [_, _, _])
 clear hm hg
 have hmf : ∀ (fn : Fn) (first cap : Array Value) (w : World), (Instr.makeFunc fn first cap).run Tryz.prog w = .ok (.func fn first cap) w := fun _ _ _ _ => rfl
 go_enter Tryz.func94, Tryz.ntmps94
 go_wp2_with fail
 refine (valid_yes d hd A B cp cq m _ HM.out (HG.out.keep B0.out)).mono ?_
 rintro e w1 ⟨rfl, hb1⟩
 have B1 := hide (B0.out.trans (hb1.mono B0.out.size))
 have X1 := hide (X0.out.below hb1)
 have ST := hide (nextF_steps d B cq m w.heap.size _ _ w1 HM.out hd.wf X1.out (by rw [HM.out]; exact (HG.out.keep B1.out).m))
 obtain ⟨f0, f1, f2, f3⟩ := box3 X1.out
 clear hb1
 go_wp2_with fail
 have hcc : (m : Int) = ((4 * d.n : Nat) : Int) := by rw [HM.out]
 refine (Calls.mono (P := Tryz.prog) (by rw [hcc]; exact cycles_any (.pointer (some ⟨w.heap.size, 0, none⟩)) (4 * d.n) (Pl.dart d) (Pl.nx d) w1 ST.out hd.wf.nxb (fun _ h => h) (fun _ h => h) (by omega)) ?_)
 rintro e w2 ⟨A7, c7, fs, bs, vs, rfl, h1, h2, h3, h4, h5, h6⟩
 clear hcc
 have H1 := hide h1
 have H2 := hide h2
 have H3 := hide h3
 have H4 := hide h4
 have B2 := hide (B1.out.trans (h5.mono B1.out.size))
 have H6 := hide (show Far w.heap.size vs from fun v hv g hg => Nat.le_trans B1.out.size (h6 v hv g hg))
 clear h1 h2 h3 h4 h5 h6
 go_wp2
 go_ret
 exact ⟨A7, c7, fs, bs, vs, rfl, H1.out, H2.out, H3.out, H4.out, B2.out, H6.out⟩
end Go.Proofs.YtlffopdoeobgaaaGreatDoor
end
section
namespace Go.Proofs.YtlffopdoeobgaaaGreatDoor
open Go Go.RowKit
def plc (c f s : Nat) : Nat := 4 * c + (s + 4 - f) % 4
theorem place_any (c f s : Nat) (w : World) (hc : c ≤ 1000) (hf : f < 4) (hs : s < 4) :
 Calls Tryz.prog 91 #[.int .i64 (c : Int), .int .i64 (f : Int), .int .i64 (s : Int)] w fun e w' => e = .returned (.int .i64 (plc c f s : Nat)) ∧ w' = w := by
 go_enter Tryz.func91, Tryz.ntmps91
 go_wp2
 go_ret
 exact ⟨ret_int (by unfold plc; omega), rfl⟩
theorem place_i (c f s : Int) (w : World) (hc : 0 ≤ c ∧ c ≤ 1000) (hf : 0 ≤ f ∧ f < 4) (hs : 0 ≤ s ∧ s < 4) :
 Calls Tryz.prog 91 #[.int .i64 c, .int .i64 f, .int .i64 s] w fun e w' => e = .returned (.int .i64 (plc c.toNat f.toNat s.toNat : Nat)) ∧ w' = w := by
 obtain ⟨a, rfl⟩ := Int.eq_ofNat_of_zero_le hc.1
 obtain ⟨b, rfl⟩ := Int.eq_ofNat_of_zero_le hf.1
 obtain ⟨k, rfl⟩ := Int.eq_ofNat_of_zero_le hs.1
 exact place_any a b k w (by omega) (by omega) (by omega)
def fwd (d : Pl.Dg) (x : Int) : Bool := if x = -1 then true else if 0 ≤ x then Pl.out d x.toNat else false
theorem forward_any (d : Pl.Dg) (A B : Option Addr) (cp q cq : Nat) (l : Value) (x : Int) (w : World) (hx : x < 4 * (d.n : Int)) (hn : d.n ≤ 1000) (hs : IntsAt w A d.n d.sg) :
 Calls Tryz.prog 135 #[.agg #[.slice A d.n cp, .slice B q cq, l], .int .i64 x] w fun e w' => e = .returned (.bool (fwd d x)) ∧ Below w.heap.size w w' := by
 have b0 : Below w.heap.size w (w.alloc (.cells #[.slice A d.n cp, .slice B q cq, l] 24)) := (Below.refl _ _).alloc (Nat.le_refl _) _
 have B0 := hide b0
 have HS := hide hs
 clear b0 hs
 by_cases h1 : x = -1
 ·subst h1
  go_enter Tryz.func135, Tryz.ntmps135
  go_wp2
  go_ret
  exact ⟨rfl, B0.out⟩
 ·have t1 : (x == -1) = false := by rw [beq_eq_false_iff_ne]; exact h1
  have H1 := hide h1
  clear h1
  by_cases h2 : 0 ≤ x
  ·obtain ⟨k, rfl⟩ := Int.eq_ofNat_of_zero_le h2
   have hk : k < 4 * d.n := by omega
   have t2 : decide (0 ≤ (k : Int)) = true := by simp
   go_enter Tryz.func135, Tryz.ntmps135
   go_wp2_with fail
   refine (out2_n d A B d.n cp q cq l k _ rfl hk hn (HS.out.keep B0.out)).mono ?_
   rintro e w1 ⟨rfl, hb1⟩
   have B1 := hide (B0.out.trans (hb1.mono B0.out.size))
   clear hb1
   have e1 : fwd d (k : Int) = Pl.out d k := by unfold fwd; rw [if_neg H1.out, if_pos h2, Int.toNat_natCast]
   have E1 := hide e1
   clear e1 t1 t2
   go_wp2
   go_ret
   exact ⟨by rw [E1.out]; rfl, B1.out⟩
  ·have t2 : decide (0 ≤ x) = false := by simpa using h2
   have e1 : fwd d x = false := by unfold fwd; rw [if_neg H1.out, if_neg h2]
   have E1 := hide e1
   clear e1 h2
   go_enter Tryz.func135, Tryz.ntmps135
   go_wp2
   go_ret
   exact ⟨by rw [E1.out]; rfl, B0.out⟩
end Go.Proofs.YtlffopdoeobgaaaGreatDoor
end
section
namespace Go.Proofs.YtlffopdoeobgaaaGreatDoor
open Go Go.RowKit
def sheetV (A B L R : Option Addr) (n m : Nat) (lp : Int) (cp cq cl cr : Nat) : Value := .agg #[.slice A n cp, .slice B m cq, .int .i64 lp, .slice L m cl, .slice R n cr]
def nearB (F R : List Nat) (d : Pl.Dg) (x y : Nat) : Bool := (F.getD x 0 == F.getD y 0 || R.getD (x / 4) 0 != R.getD (y / 4) 0) && d.m x != y
structure ShAt (w : World) (A B L R : Option Addr) (d : Pl.Dg) (F P : List Nat) : Prop where
 dg : DgAt w A B d
 l : IntsAt w L (4 * d.n) (nats F)
 p : IntsAt w R d.n (nats P)
theorem ShAt.keep {w w' : World} {A B L R : Option Addr} {d : Pl.Dg} {F P : List Nat} (h : ShAt w A B L R d F P) (hb : Below w.heap.size w w') : ShAt w' A B L R d F P := ⟨h.dg.keep hb, h.l.keep hb, h.p.keep hb⟩
set_option maxRecDepth 100000 in
set_option maxHeartbeats 2000000 in
theorem near_any (d : Pl.Dg) (F P : List Nat) (A B L R : Option Addr) (cp cq cl cr m x y : Nat) (w : World) (hm : m = 4 * d.n) (hs : ShAt w A B L R d F P) (hn : d.n ≤ 64) (hx : x < 4 * d.n) (hy : y < 4 * d.n) :
 Calls Tryz.prog 134 #[sheetV A B L R d.n m d.lp cp cq cl cr, .int .i64 (x : Int), .int .i64 (y : Int)] w fun e w' => e = .returned (.bool (nearB F P d x y)) ∧ Below w.heap.size w w' := by
 unfold sheetV
 have b0 : Below w.heap.size w (w.alloc (.cells #[.slice A d.n cp, .slice B m cq, .int .i64 d.lp, .slice L m cl, .slice R d.n cr] 73)) := (Below.refl _ _).alloc (Nat.le_refl _) _
 obtain ⟨W, hW⟩ : ∃ W, W = w.alloc (.cells #[.slice A d.n cp, .slice B m cq, .int .i64 d.lp, .slice L m cl, .slice R d.n cr] 73) := ⟨_, rfl⟩
 have BX := hide (show Row W w.heap.size 73 [.slice A d.n cp, .slice B m cq, .int .i64 d.lp, .slice L m cl, .slice R d.n cr] by rw [hW]; exact Row.new w _ [_, _, _, _, _])
 rw [← hW] at b0
 have B0 := hide b0
 have HS := hide (hs.keep b0)
 have HM := hide hm
 have HW := hide hW
 clear b0 hs hW
 obtain ⟨b1, o1, rfl, c1⟩ := nats_at HS.out.l (k := x) hx
 obtain ⟨b1', o1', e1, c2⟩ := nats_at HS.out.l (k := y) hy
 injection e1 with e1
 injection e1 with e11 e12
 subst e11
 subst e12
 obtain ⟨b2, o2, rfl, c3⟩ := nats_at HS.out.p (k := x / 4) (by omega)
 obtain ⟨b2', o2', e2, c4⟩ := nats_at HS.out.p (k := y / 4) (by omega)
 injection e2 with e2
 injection e2 with e21 e22
 subst e21
 subst e22
 obtain ⟨b3, o3, rfl, c5⟩ := mate_at HS.out.dg.m (k := x) hx
 have ix : (0 : Int) ≤ (x : Int) := by omega
 have iy : (0 : Int) ≤ (y : Int) := by omega
 have jx : (x : Int) < (m : Int) := by omega
 have jy : (y : Int) < (m : Int) := by omega
 have kx : (0 : Int) ≤ (x : Int) / 4 := by omega
 have ky : (0 : Int) ≤ (y : Int) / 4 := by omega
 have lx : (x : Int) / 4 < (d.n : Int) := by omega
 have ly : (y : Int) / 4 < (d.n : Int) := by omega
 clear hm
 obtain ⟨p, hp⟩ : ∃ p, p = F.getD x 0 := ⟨_, rfl⟩
 obtain ⟨q, hq⟩ : ∃ q, q = F.getD y 0 := ⟨_, rfl⟩
 obtain ⟨r, hr⟩ : ∃ r, r = P.getD (x / 4) 0 := ⟨_, rfl⟩
 obtain ⟨s, hss⟩ : ∃ s, s = P.getD (y / 4) 0 := ⟨_, rfl⟩
 obtain ⟨u, hu⟩ : ∃ u, u = d.m x := ⟨_, rfl⟩
 have E := hide (show nearB F P d x y = ((p == q || r != s) && u != y) by unfold nearB; rw [hp, hq, hr, hss, hu])
 rw [← hp] at c1
 rw [← hq] at c2
 rw [← hr] at c3
 rw [← hss] at c4
 rw [← hu] at c5
 clear hp hq hr hss hu
 go_enter Tryz.func134, Tryz.ntmps134
 go_wp2_with fail
 rw [← HW.out]
 obtain ⟨f0, f1, f2, f3, f4, f5⟩ := box5 BX.out
 by_cases h1 : p = q
 ·have E2 := hide (show nearB F P d x y = (u != y) by rw [E.out, h1]; simp)
  have t1 : ((p : Int) == (q : Int)) = true := by rw [beq_iff_eq]; omega
  have E3 := hide (show (((u : Nat) : Int) != ((y : Nat) : Int)) = (u != y) by rw [Bool.eq_iff_iff]; simp; omega)
  clear h1
  go_wp2_with fail
  go_quiet (fail)
  go_wp2
  go_ret
  refine ⟨?_, below_drewN B0.out _⟩
  rw [E2.out]
  exact ret_bool E3.out
 ·have t1 : ((p : Int) == (q : Int)) = false := by rw [beq_eq_false_iff_ne]; omega
  by_cases h2 : r = s
  ·have E2 := hide (show nearB F P d x y = false by rw [E.out, h2]; simp [h1])
   have t2 : ((r : Int) != (s : Int)) = false := by rw [bne_eq_false_iff_eq]; omega
   clear h1 h2
   go_wp2_with fail
   go_quiet (fail)
   go_wp2
   go_ret
   refine ⟨?_, below_drewN B0.out _⟩
   rw [E2.out]
   rfl
  ·have E2 := hide (show nearB F P d x y = (u != y) by rw [E.out]; simp [h1, h2])
   have t2 : ((r : Int) != (s : Int)) = true := by rw [bne_iff_ne]; omega
   have E3 := hide (show (((u : Nat) : Int) != ((y : Nat) : Int)) = (u != y) by rw [Bool.eq_iff_iff]; simp; omega)
   clear h1 h2
   go_wp2_with fail
   go_quiet (fail)
   go_wp2
   go_ret
   refine ⟨?_, below_drewN B0.out _⟩
   rw [E2.out]
   exact ret_bool E3.out
end Go.Proofs.YtlffopdoeobgaaaGreatDoor
end
section
namespace Go.Proofs.YtlffopdoeobgaaaGreatDoor
open Go Go.RowKit
attribute [local go_sem ↓] Go.wp_at_zero Go.wp_at_succ
theorem below8 {w W : World} (h : Below w.heap.size w W) (y0 y1 y2 z0 z1 z2 z3 z4 : Value) :
 Below w.heap.size w ((((((((W.setCell ⟨w.heap.size + 1 + 1, 0, none⟩ y0).setCell ⟨w.heap.size + 1 + 1, 1, none⟩ y1).setCell ⟨w.heap.size + 1 + 1, 2, none⟩ y2).setCell ⟨w.heap.size + 1 + 1 + 1, 0, none⟩ z0).setCell ⟨w.heap.size + 1 + 1 + 1, 1, none⟩ z1).setCell ⟨w.heap.size + 1 + 1 + 1, 2, none⟩ z2).setCell ⟨w.heap.size + 1 + 1 + 1, 3, none⟩ z3).setCell ⟨w.heap.size + 1 + 1 + 1, 4, none⟩ z4) :=
 (((((((h.setCell (by show _ ≤ w.heap.size + 1 + 1; omega) _).setCell (by show _ ≤ w.heap.size + 1 + 1; omega) _).setCell (by show _ ≤ w.heap.size + 1 + 1; omega) _).setCell (by show _ ≤ w.heap.size + 1 + 1 + 1; omega) _).setCell (by show _ ≤ w.heap.size + 1 + 1 + 1; omega) _).setCell (by show _ ≤ w.heap.size + 1 + 1 + 1; omega) _).setCell (by show _ ≤ w.heap.size + 1 + 1 + 1; omega) _).setCell (by show _ ≤ w.heap.size + 1 + 1 + 1; omega) _
theorem one_ints (W : World) (c : Nat) : IntsAt (W.alloc (.cells #[.int .i64 (c : Int)] 3)).drew (some ⟨W.heap.size, 0, none⟩) 1 (nats [c]) := by
 refine IntsAt.drew ⟨rfl, fun _ => ⟨_, 0, rfl, fun j u hu => ?_⟩⟩
 match j, hu with
 | 0, hu => simp [nats] at hu; subst hu; exact (Lib.cell_of_heap (heap_alloc_new W _) 0).trans rfl
theorem one_ints' (W : World) (c : Nat) {g : Nat} (h : g = W.heap.size) : IntsAt (W.alloc (.cells #[.int .i64 (c : Int)] 3)) (some ⟨g, 0, none⟩) 1 (nats [c]) := by
 subst h
 exact one_ints W c
theorem OwnN.alloc {w : World} {base g n c : Nat} {l : List Nat} (h : OwnN w base g n c l) (o : Obj) : OwnN (w.alloc o) base g n c l := World.ownsRow.alloc h o
theorem OwnN.caps {w : World} {base g n c : Nat} {l : List Nat} (h : OwnN w base g n c l) : n ≤ c ∧ c ≤ maxLen := by
 rcases h.2 with ⟨h1, h2⟩ | ⟨g', cap, cur, h1, _, _, h4, h5, _⟩
 ·injection h1 with h1; injection h1
 ·injection h1 with _ _ h3
  subst h3
  exact ⟨h4, h5⟩
theorem own8 {w W : World} {base : Nat} {v : Value} {n : Nat} {xs : List Value} (h : W.ownsRow base 3 1 v n xs) (hb : w.heap.size + 1 + 1 + 1 < base) (y0 y1 y2 z0 z1 z2 z3 z4 : Value) :
 ((((((((W.setCell ⟨w.heap.size + 1 + 1, 0, none⟩ y0).setCell ⟨w.heap.size + 1 + 1, 1, none⟩ y1).setCell ⟨w.heap.size + 1 + 1, 2, none⟩ y2).setCell ⟨w.heap.size + 1 + 1 + 1, 0, none⟩ z0).setCell ⟨w.heap.size + 1 + 1 + 1, 1, none⟩ z1).setCell ⟨w.heap.size + 1 + 1 + 1, 2, none⟩ z2).setCell ⟨w.heap.size + 1 + 1 + 1, 3, none⟩ z3).setCell ⟨w.heap.size + 1 + 1 + 1, 4, none⟩ z4).ownsRow base 3 1 v n xs :=
 ownsRow_setCell_below (ownsRow_setCell_below (ownsRow_setCell_below (ownsRow_setCell_below (ownsRow_setCell_below (ownsRow_setCell_below (ownsRow_setCell_below (ownsRow_setCell_below h (by show w.heap.size + 1 + 1 < base; omega) _) (by show w.heap.size + 1 + 1 < base; omega) _) (by show w.heap.size + 1 + 1 < base; omega) _) (by show w.heap.size + 1 + 1 + 1 < base; omega) _) (by show w.heap.size + 1 + 1 + 1 < base; omega) _) (by show w.heap.size + 1 + 1 + 1 < base; omega) _) (by show w.heap.size + 1 + 1 + 1 < base; omega) _) (by show w.heap.size + 1 + 1 + 1 < base; omega) _
theorem closed_yes (base g n cap a b : Nat) (l : List Nat) (w : World) (h : OwnN w base g n cap l) (ha : a < n) (hb : b < n) (hn : n ≤ 100000) (hl : ∀ k, k < n → l.getD k 0 < n) (hy : l.getD a 0 = b) :
 Calls Tryz.prog 85 #[.slice (some ⟨g, 0, none⟩) n cap, .int .i64 (a : Int), .int .i64 (b : Int)] w fun e w' => e = .returned (.int .i64 1) ∧ OwnN w' base g n cap l ∧ w.grownBy w' (some g) := by
 refine (closed_any base g n cap a b l w h ha hb hn hl).mono ?_
 rintro e w' ⟨h1, h2, h3⟩
 rw [if_pos hy] at h1 h2
 exact ⟨h1, h2, h3⟩
theorem closed_no (base g n cap a b : Nat) (l : List Nat) (w : World) (h : OwnN w base g n cap l) (ha : a < n) (hb : b < n) (hn : n ≤ 100000) (hl : ∀ k, k < n → l.getD k 0 < n) (hy : ¬ l.getD a 0 = b) :
 Calls Tryz.prog 85 #[.slice (some ⟨g, 0, none⟩) n cap, .int .i64 (a : Int), .int .i64 (b : Int)] w fun e w' => e = .returned (.int .i64 0) ∧ OwnN w' base g n cap (jn l (l.getD a 0) (l.getD b 0)) ∧ w.grownBy w' (some g) := by
 refine (closed_any base g n cap a b l w h ha hb hn hl).mono ?_
 rintro e w' ⟨h1, h2, h3⟩
 rw [if_neg hy] at h1 h2
 exact ⟨h1, h2, h3⟩
set_option maxRecDepth 100000 in
set_option maxHeartbeats 4000000 in
theorem uncurl_any (d : Pl.Dg) (hd : Pl.Wf d) (A B : Option Addr) (cp cq c : Nat) (k y sg : Int) (ov : Bool) (w : World) (hg : DgAt w A B d) (hc : c < d.n) :
 Calls Tryz.prog 47 #[.agg #[.slice A d.n cp, .slice B (4 * d.n) cq, .int .i64 d.lp], .agg #[.int .i64 k, .int .i64 (c : Int), .int .i64 y, .int .i64 sg, .bool ov]] w (UncPost d c w) := by
 have hn := hd.few
 have hlp := hd.lp
 obtain ⟨m, hm⟩ : ∃ m, m = 4 * d.n := ⟨_, rfl⟩
 have HG := hide hg
 clear hg
 rw [← hm]
 have HM := hide hm
 clear hm
 obtain ⟨x0, x1, x2, x3, b0, s0⟩ := boxes4 w (.slice A d.n cp) (.slice B m cq) (.int .i64 d.lp) (.int .i64 k) (.int .i64 (c : Int)) (.int .i64 y) (.int .i64 sg) (.bool ov)
 unfold W4 at x0 x1 x2 x3 b0 s0
 have X0 := hide x0
 have X1 := hide x1
 have X2 := hide x2
 have X3 := hide x3
 have B0 := hide b0
 have S0 := hide s0
 clear x0 x1 x2 x3 b0 s0
 go_enter Tryz.func47, Tryz.ntmps47
 go_wp2_with fail
 refine (kink_any d hd A B cp cq m c _ HM.out (HG.out.keep B0.out) hc).mono ?_
 rintro e w1 ⟨rfl, hb1⟩
 have Y0 := hide (X0.out.below hb1)
 have Y1 := hide (X1.out.below hb1)
 have Y2 := hide (X2.out.below hb1)
 have Y3 := hide (X3.out.below hb1)
 have B1 := hide (B0.out.trans (hb1.mono B0.out.size))
 have hsz : w.heap.size + 4 ≤ w1.heap.size := by have := hb1.size; have := S0.out; omega
 clear X0 X1 X2 X3 B0 S0 hb1
 obtain ⟨f0, f1, f2, f3⟩ := box3 Y0.out
 obtain ⟨m0, m1, m2, m3, m4, m5⟩ := box5 Y1.out
 obtain ⟨p0, p1, p2, p3⟩ := box3 Y2.out
 obtain ⟨q0, q1, q2, q3, q4, q5⟩ := box5 Y3.out
 by_cases hK : d.m (kk d c) / 4 = c
 ·rw [Pl.vb_true (show isK d c from hK)]
  unfold kinkE
  rw [if_pos rfl]
  have HK := hide hK
  clear hK
  have ha1 := kA_lt (d := d) hc
  have hb1 := kB_lt hd hc
  unfold kA at ha1
  unfold kB at hb1
  obtain ⟨a, ha⟩ : ∃ a, a = Pl.tn (kk d c) 2 := ⟨_, rfl⟩
  obtain ⟨b, hb⟩ : ∃ b, b = Pl.tn (d.m (kk d c)) 2 := ⟨_, rfl⟩
  rw [← ha, ← hb]
  rw [← ha] at ha1
  rw [← hb] at hb1
  have HA := hide (show a = kA d c from ha)
  have HB := hide (show b = kB d c from hb)
  clear ha hb
  have hml : d.mt.length = m := by have := hd.len; have := HM.out; omega
  have HML := hide hml
  have ham : a < m := by have := HM.out; omega
  have hbm : b < m := by have := HM.out; omega
  have hm1 : 0 < m := by omega
  have hm2 : m ≤ 256 := by have := HM.out; omega
  have HLT := hide (show ∀ k, k < m → d.mt.getD k 0 < m from fun k hk => by
   rw [getD_m (by rw [HML.out]; exact hk)]
   have := hd.lt k (by have := HM.out; omega)
   have := HM.out
   omega)
  have HGA := hide (show d.mt.getD a 0 = d.m a from getD_m (by rw [HML.out]; exact ham))
  have HGM := hide (show IntsAt w1 B m (nats d.mt) by rw [HM.out]; exact (HG.out.keep B1.out).m)
  clear hml
  obtain ⟨i0, hi0, hz0, hz1, hz2⟩ := info_parts intInfo
  go_wp2_with (at_builtin; refine wpList_append_ints _ rfl _ _ 22 rfl w1.heap.size 3 i0 (.int .i64 0) 8 Tryz.underlying22 hi0 hz0 hz1 hz2 rfl (.slice none 0 0) 0 [] (by rfl) (World.ownsRow_nil _ _ _ _) B m cq (nats d.mt) (by rfl) HGM.out (by unfold maxLen; omega) (by omega) (Nat.le_refl _) ?_; intro v2 w2 own2 grow2)
  simp only [Nat.zero_add, List.nil_append] at own2
  obtain ⟨A2, c2, rfl⟩ := owns_slice own2
  obtain ⟨g2, rfl, lo2, hi2⟩ := owns_pos hm1 own2
  have OWN2 := hide (show OwnN w2 w1.heap.size g2 m c2 d.mt by unfold OwnN; rw [← map_nats]; exact own2)
  have GR2 := hide grow2
  clear own2 grow2
  have Z0 := hide (Y0.out.grown GR2.out (by simp [Value.ownBlock]))
  have Z1 := hide (Y1.out.grown GR2.out (by simp [Value.ownBlock]))
  have Z2 := hide (Y2.out.grown GR2.out (by simp [Value.ownBlock]))
  have Z3 := hide (Y3.out.grown GR2.out (by simp [Value.ownBlock]))
  have B2 := hide (B1.out.grown GR2.out B1.out.size (fun k hk => by simp [Value.ownBlock] at hk))
  have hs2 := GR2.out.size
  clear f0 f1 f2 f3 m0 m1 m2 m3 m4 m5 p0 p1 p2 p3 q0 q1 q2 q3 q4 q5 Y0 Y1 Y2 Y3
  have HG2 := hide (HG.out.keep B2.out)
  by_cases hcl : d.m a = b
  ·have HC := hide (show d.mt.getD a 0 = b by rw [HGA.out]; exact hcl)
   have HCL := hide hcl
   clear hcl
   obtain ⟨f0, f1, f2, f3⟩ := box3 Z0.out
   have hwr : IntKind.i64.wrap ((d.lp : Int) + 1) = (d.lp : Int) + 1 := IntWalk.i64_in _ (by omega)
   go_region_held3 (fun w' => w'.cell? ⟨w.heap.size, 2, none⟩ = some (.int .i64 (d.lp : Int))) (first | go_keep | assumption)
    (first
      | (go_at_call 85
         refine Calls.mono (closed_yes w1.heap.size g2 m c2 a b d.mt _ ?_ ham hbm (by omega) HLT.out HC.out) ?_
         ·exact OwnN.drew' rfl OWN2.out
         rintro e w3 ⟨rfl, own3, gr3⟩
         obtain ⟨_, _, h2, _⟩ := box3 ((Z0.out.drew).grown gr3 (by intro h; injection h; omega))
         have OWN3 := hide own3
         have GR3 := hide gr3
         clear own3 gr3))
   clear hwr f0 f1 f2 f3 h2
   have V0 := hide ((Z0.out.drew).grown GR3.out (by intro h; injection h; omega))
   have V1 := hide ((Z1.out.drew).grown GR3.out (by intro h; injection h; omega))
   have V2 := hide ((Z2.out.drew).grown GR3.out (by intro h; injection h; omega))
   have V3 := hide ((Z3.out.drew).grown GR3.out (by intro h; injection h; omega))
   have B3 := hide ((B2.out.drew).grown GR3.out (B2.out.drew).size (fun k hk => by injection hk with hk; omega))
   have hs3 : w.heap.size + 4 ≤ w3.heap.size := by have := GR3.out.size; have : w2.drew.heap.size = w2.heap.size := rfl; omega
   have l1 : w.heap.size < w3.heap.size := by omega
   have l2 : w.heap.size + 1 < w3.heap.size := by omega
   have l3 : w.heap.size + 1 + 1 < w3.heap.size := by omega
   have l4 : w.heap.size + 1 + 1 + 1 < w3.heap.size := by omega
   obtain ⟨f0, f1, f2, f3⟩ := box3 V0.out
   obtain ⟨m0, m1, m2, m3, m4, m5⟩ := box5 V1.out
   obtain ⟨p0, p1, p2, p3⟩ := box3 V2.out
   obtain ⟨q0, q1, q2, q3, q4, q5⟩ := box5 V3.out
   by_cases hfull : 64 < d.lp + 1
   ·have hfu : (64 : Int) < (d.lp : Int) + 1 := by omega
    go_wp2
    refine bodyPost_ret (v := .tuple #[nilD, nilM, .int .i64 5]) ?_ rfl ?_
    ·obtain ⟨e0, e1, e2, e3, e4, e5, e6, e7⟩ := fin8 V2.out V3.out rfl rfl (by omega) (.slice none 0 0) (.slice none 0 0) (.int .i64 0) (.int .i64 0) (.int .i64 0) (.int .i64 0) (.int .i64 0) (.bool false)
     unfold nilD nilM
     simp [results, Tryz.results47, go_sem, e0, e1, e2, e3, e4, e5, e6, e7]
    ·have e6 : uncC d c = 5 := by unfold uncC; rw [if_pos HK.out, ← HA.out, ← HB.out, if_pos HCL.out, if_pos hfull]
     refine ⟨fun _ => by rw [e6]; exact rfl, fun h => absurd h (by rw [e6]; decide), below8 B3.out _ _ _ _ _ _ _ _⟩
   ·have hfu : (d.lp : Int) + 1 ≤ 64 := by omega
    have t3 : ((d.lp : Int) + 1 == (d.lp : Int)) = false := by rw [beq_eq_false_iff_ne]; omega
    have HG3 := hide (HG.out.keep B3.out)
    obtain ⟨ab, ao, rfl, hcs⟩ := sign_at HG3.out.s hc
    go_wp2_with fail
    obtain ⟨W5, hW5⟩ : ∃ W5 : World, W5 = w3.alloc (.cells #[.int .i64 1, .int .i64 (-1), .int .i64 0, .int .i64 (d.s c), .bool ((a : Int) % 2 == 1)] 36) := ⟨_, rfl⟩
    rw [← hW5]
    obtain ⟨bb, hbb⟩ : ∃ bb, bb = ((a : Int) % 2 == 1) := ⟨_, rfl⟩
    have HBB := hide hbb
    rw [← hbb] at hW5 ⊢
    clear hbb
    obtain ⟨gi, hgi⟩ : ∃ gi, gi = w3.heap.size := ⟨_, rfl⟩
    rw [← hgi]
    have HU := hide (show UC w gi (.slice (some ⟨ab, ao, none⟩) d.n cp) (.slice B m cq) (.int .i64 (d.lp : Int)) (.int .i64 1) (.int .i64 (-1)) (.int .i64 0) (.int .i64 (d.s c)) (.bool bb) W5 by
     rw [hW5]
     exact ⟨V0.out.alloc _, row_at (vs := [.int .i64 1, .int .i64 (-1), .int .i64 0, .int .i64 (d.s c), .bool bb]) hgi, ⟨_, V2.out.alloc _, rfl⟩, ⟨_, V3.out.alloc _, rfl⟩, B3.out.alloc (by omega) _, by omega⟩)
    obtain ⟨LL, hLL⟩ : ∃ LL, LL = d.mt := ⟨_, rfl⟩
    have HMo := hide (show OwnN W5 w1.heap.size g2 m c2 LL by rw [hW5, hLL]; exact OWN3.out.alloc _)
    have HLE := hide (show ∀ k, LL.getD k 0 ≤ 1000 from fun k => by rw [hLL]; exact Nat.le_trans (getD_le hd k) (by omega))
    have HG5 := hide (show DgAt W5 (some ⟨ab, ao, none⟩) B d from HG.out.keep HU.out.bel)
    have HLL := hide (show LL = unM d c by unfold unM; rw [← HA.out, ← HB.out, if_pos HCL.out, hLL])
    have HE0 := hide (show uncC d c = 0 by unfold uncC; rw [if_pos HK.out, ← HA.out, ← HB.out, if_pos HCL.out, if_neg hfull])
    clear hW5 hgi hLL f0 f1 f2 f3 m0 m1 m2 m3 m4 m5 p0 p1 p2 p3 q0 q1 q2 q3 q4 q5 hcs t3 l1 l2 l3 l4
    have HCAP := hide HMo.out.caps
    have KS := hide (IntsAt.drew ((HG5.out.s).alloc (.cells #[.int .i64 (c : Int)] 3)))
    have KM := hide (OwnN.ints (OwnN.drew' rfl (HMo.out.alloc (.cells #[.int .i64 (c : Int)] 3))))
    have KG := hide (one_ints W5 c)
    go_region_held3 (fun w' => w'.cell? ⟨w.heap.size, 0, none⟩ = some (.slice (some ⟨ab, ao, none⟩) d.n cp) ∧ w'.cell? ⟨gi, 0, none⟩ = some (.int .i64 1) ∧ w'.cell? ⟨gi, 1, none⟩ = some (.int .i64 (-1)) ∧ w'.cell? ⟨gi, 2, none⟩ = some (.int .i64 0) ∧ w'.cell? ⟨gi, 3, none⟩ = some (.int .i64 (d.s c)) ∧ w'.cell? ⟨gi, 4, none⟩ = some (.bool bb) ∧
     w'.cell? ⟨w.heap.size + 1 + 1, 0, none⟩ = some (cv w' ⟨w.heap.size + 1 + 1, 0, none⟩) ∧ w'.cell? ⟨w.heap.size + 1 + 1, 1, none⟩ = some (cv w' ⟨w.heap.size + 1 + 1, 1, none⟩) ∧ w'.cell? ⟨w.heap.size + 1 + 1, 2, none⟩ = some (cv w' ⟨w.heap.size + 1 + 1, 2, none⟩) ∧
     w'.cell? ⟨w.heap.size + 1 + 1 + 1, 0, none⟩ = some (cv w' ⟨w.heap.size + 1 + 1 + 1, 0, none⟩) ∧ w'.cell? ⟨w.heap.size + 1 + 1 + 1, 1, none⟩ = some (cv w' ⟨w.heap.size + 1 + 1 + 1, 1, none⟩) ∧ w'.cell? ⟨w.heap.size + 1 + 1 + 1, 2, none⟩ = some (cv w' ⟨w.heap.size + 1 + 1 + 1, 2, none⟩) ∧ w'.cell? ⟨w.heap.size + 1 + 1 + 1, 3, none⟩ = some (cv w' ⟨w.heap.size + 1 + 1 + 1, 3, none⟩) ∧ w'.cell? ⟨w.heap.size + 1 + 1 + 1, 4, none⟩ = some (cv w' ⟨w.heap.size + 1 + 1 + 1, 4, none⟩) ∧
     (∀ o, w'.frozen? ⟨w.heap.size + 1 + 1, o, none⟩ = false) ∧ (∀ o, w'.frozen? ⟨w.heap.size + 1 + 1 + 1, o, none⟩ = false) ∧ UC w gi (.slice (some ⟨ab, ao, none⟩) d.n cp) (.slice B m cq) (.int .i64 (d.lp : Int)) (.int .i64 1) (.int .i64 (-1)) (.int .i64 0) (.int .i64 (d.s c)) (.bool bb) w')
     ((go_split_ands; refine UC.all ?_; (repeat (first | (with_reducible assumption) | (with_reducible exact HU.out) | (with_reducible refine UC.setD ?_ _ _) | (with_reducible refine UC.setM ?_ _ _) | (with_reducible refine UC.alloc ?_ _) | (with_reducible refine UC.drew ?_) | (with_reducible refine UC.below ?_ hb6)))))
     (first
       | (go_at_call 87
          refine Calls.mono (shrunk_sl [c] d.sg LL ((d.lp : Int) + 1) (some ⟨ab, ao, none⟩) (some ⟨g2, 0, none⟩) (some ⟨W5.heap.size, 0, none⟩) d.n m 1 cp c2 1 _ ?_ ?_ ?_ (Pl.few_one c) HM.out HCAP.out.1 HCAP.out.2 (by omega) (by omega) HLE.out) ?_
          ·exact KS.out
          ·exact KM.out
          ·exact KG.out
          rintro e w6 ⟨A7, A8, c7, c8, rfl, owS, owM, hb6⟩
          have OWS := hide owS
          have OWM := hide owM
          clear owS owM))
    all_goals
     have HU6 := hide (show UC w gi (.slice (some ⟨ab, ao, none⟩) d.n cp) (.slice B m cq) (.int .i64 (d.lp : Int)) (.int .i64 1) (.int .i64 (-1)) (.int .i64 0) (.int .i64 (d.s c)) (.bool bb) w6 from by
      repeat (first | (with_reducible assumption) | (with_reducible exact HU.out) | (with_reducible refine UC.alloc ?_ _) | (with_reducible refine UC.drew ?_) | (with_reducible refine UC.below ?_ hb6)))
     have hb6s : W5.heap.size + 1 + 2 ≤ w6.heap.size ∨ True := .inr trivial
     go_wp2
     obtain ⟨vs6, r6, l6⟩ := HU6.out.rd
     obtain ⟨us6, t6, k6⟩ := HU6.out.rm
     refine bodyPost_ret (v := .tuple #[.agg #[.slice A7 (Pl.left d.sg.length [c]).length c7, .slice A8 (4 * (Pl.left d.sg.length [c]).length) c8, .int .i64 ((d.lp : Int) + 1)], .agg #[.int .i64 1, .int .i64 (-1), .int .i64 0, .int .i64 (d.s c), .bool bb], .int .i64 0]) ?_ rfl ?_
     ·obtain ⟨e0, e1, e2, e3, e4, e5, e6, e7⟩ := fin8 r6 t6 l6 k6 (by omega) (.slice A7 (Pl.left d.sg.length [c]).length c7) (.slice A8 (4 * (Pl.left d.sg.length [c]).length) c8) (.int .i64 ((d.lp : Int) + 1)) (.int .i64 1) (.int .i64 (-1)) (.int .i64 0) (.int .i64 (d.s c)) (.bool bb)
      simp [results, Tryz.results47, go_sem, e0, e1, e2, e3, e4, e5, e6, e7]
     ·have hn7 : (unD d c).n = (Pl.left d.sg.length [c]).length := by unfold unD Pl.Dg.n; exact Pl.shrS_len _ _
      refine ⟨fun h => absurd HE0.out h, fun _ => ⟨A7, A8, c7, c8, ?_, ?_, ?_⟩, below8 HU6.out.bel _ _ _ _ _ _ _ _⟩
      ·rw [hn7]
       unfold unD unI Mv.v
       simp only [← HA.out, ← HB.out, if_pos HCL.out]
       have e1 : ((d.lp + 1 : Nat) : Int) = (d.lp : Int) + 1 := by omega
       have e2 : decide (a % 2 = 1) = bb := by rw [HBB.out, Bool.eq_iff_iff]; simp; omega
       rw [e1, e2]
      ·rw [hn7]
       refine own_intsT (base := (W5.alloc (.cells #[.int .i64 (c : Int)] 3)).drew.heap.size + 2) (e := 3) (c := c7) (own8 ?_ ?_ _ _ _ _ _ _ _ _)
       ·exact OWS.out
       ·have := HU.out.i.lt; have := HU.out.lo; simp; omega
      ·rw [hn7]
       refine own_intsT (base := (W5.alloc (.cells #[.int .i64 (c : Int)] 3)).drew.heap.size + 2) (e := 3) (c := c8) (own8 ?_ ?_ _ _ _ _ _ _ _ _)
       ·rw [map_nats]
        have := OWM.out
        rw [HLL.out] at this
        exact this
       ·have := HU.out.i.lt; have := HU.out.lo; simp; omega
  ·have HC := hide (show ¬ d.mt.getD a 0 = b by rw [HGA.out]; exact hcl)
   have HCL := hide hcl
   have HGB := hide (show d.mt.getD b 0 = d.m b from getD_m (by rw [HML.out]; exact hbm))
   clear hcl
   obtain ⟨f0, f1, f2, f3⟩ := box3 Z0.out
   have hwr : IntKind.i64.wrap (d.lp : Int) = (d.lp : Int) := IntWalk.i64_in _ (by omega)
   have hwr0 : IntKind.i64.wrap ((d.lp : Int) + 0) = (d.lp : Int) := by rw [Int.add_zero]; exact hwr
   go_region_held3 (fun w' => w'.cell? ⟨w.heap.size, 2, none⟩ = some (.int .i64 (d.lp : Int))) (first | go_keep | assumption)
    (first
      | (go_at_call 85
         refine Calls.mono (closed_no w1.heap.size g2 m c2 a b d.mt _ ?_ ham hbm (by omega) HLT.out HC.out) ?_
         ·exact OwnN.drew' rfl OWN2.out
         rintro e w3 ⟨rfl, own3, gr3⟩
         obtain ⟨_, _, h2, _⟩ := box3 ((Z0.out.drew).grown gr3 (by intro h; injection h; omega))
         have OWN3 := hide own3
         have GR3 := hide gr3
         clear own3 gr3))
   clear hwr hwr0 f0 f1 f2 f3 h2
   have V0 := hide ((Z0.out.drew).grown GR3.out (by intro h; injection h; omega))
   have V1 := hide ((Z1.out.drew).grown GR3.out (by intro h; injection h; omega))
   have V2 := hide ((Z2.out.drew).grown GR3.out (by intro h; injection h; omega))
   have V3 := hide ((Z3.out.drew).grown GR3.out (by intro h; injection h; omega))
   have B3 := hide ((B2.out.drew).grown GR3.out (B2.out.drew).size (fun k hk => by injection hk with hk; omega))
   have hs3 : w.heap.size + 4 ≤ w3.heap.size := by have := GR3.out.size; have : w2.drew.heap.size = w2.heap.size := rfl; omega
   have l1 : w.heap.size < w3.heap.size := by omega
   have l2 : w.heap.size + 1 < w3.heap.size := by omega
   have l3 : w.heap.size + 1 + 1 < w3.heap.size := by omega
   have l4 : w.heap.size + 1 + 1 + 1 < w3.heap.size := by omega
   obtain ⟨f0, f1, f2, f3⟩ := box3 V0.out
   obtain ⟨m0, m1, m2, m3, m4, m5⟩ := box5 V1.out
   obtain ⟨p0, p1, p2, p3⟩ := box3 V2.out
   obtain ⟨q0, q1, q2, q3, q4, q5⟩ := box5 V3.out
   have hfu : (d.lp : Int) ≤ 64 := by omega
   have HG3 := hide (HG.out.keep B3.out)
   obtain ⟨ab, ao, rfl, hcs⟩ := sign_at HG3.out.s hc
   obtain ⟨mb, mo, rfl, hcm⟩ := mate_at HG3.out.m (k := a) (by have := HM.out; omega)
   have lmb : mb < w3.heap.size := lt_of_cell hcm
   have ia : (0 : Int) ≤ (a : Int) := by omega
   have ib : (a : Int) < (m : Int) := by omega
   have hma : d.m a ≤ 256 := by have := hd.lt a ha1; omega
   obtain ⟨u, hu⟩ : ∃ u, u = d.m a := ⟨_, rfl⟩
   rw [← hu] at hcm hma
   have HUU := hide hu
   clear hu
   go_wp2_with fail
   obtain ⟨bb, hbb⟩ : ∃ bb, bb = ((a : Int) % 2 == 1) := ⟨_, rfl⟩
   have HBB := hide hbb
   rw [← hbb]
   clear hbb
   refine (shifted_any [c] (some ⟨w3.heap.size + 1, 0, none⟩) 1 1 u _ ?_ (by omega) (by omega) (Pl.few_one c)).mono ?_
   ·exact one_ints' (w3.alloc (.cells #[.int .i64 1, .int .i64 (-1), .int .i64 0, .int .i64 (d.s c), .bool bb] 36)) c (by simp)
   rintro e w4 ⟨rfl, rfl⟩
   go_wp2_with fail
   obtain ⟨W5, hW5⟩ : ∃ W5 : World, W5 = (w3.alloc (.cells #[.int .i64 1, .int .i64 (Pl.shf [c] u : Nat), .int .i64 0, .int .i64 (d.s c), .bool bb] 36)).alloc (.cells #[.int .i64 (c : Int)] 3) := ⟨_, rfl⟩
   rw [← hW5]
   obtain ⟨gi, hgi⟩ : ∃ gi, gi = w3.heap.size := ⟨_, rfl⟩
   rw [← hgi]
   have HU := hide (show UC w gi (.slice (some ⟨ab, ao, none⟩) d.n cp) (.slice (some ⟨mb, mo, none⟩) m cq) (.int .i64 (d.lp : Int)) (.int .i64 1) (.int .i64 (Pl.shf [c] u : Nat)) (.int .i64 0) (.int .i64 (d.s c)) (.bool bb) W5 by
    rw [hW5]
    exact ⟨(V0.out.alloc _).alloc _, Row.alloc (row_at (vs := [.int .i64 1, .int .i64 (Pl.shf [c] u : Nat), .int .i64 0, .int .i64 (d.s c), .bool bb]) hgi) _, ⟨_, (V2.out.alloc _).alloc _, rfl⟩, ⟨_, (V3.out.alloc _).alloc _, rfl⟩, (B3.out.alloc (by omega) _).alloc (by simp; omega) _, by omega⟩)
   obtain ⟨LL, hLL⟩ : ∃ LL, LL = jn d.mt (d.mt.getD a 0) (d.mt.getD b 0) := ⟨_, rfl⟩
   have HMo := hide (show OwnN W5 w1.heap.size g2 m c2 LL by rw [hW5, hLL]; exact (OWN3.out.alloc _).alloc _)
   have HLE := hide (show ∀ k, LL.getD k 0 ≤ 1000 from fun k => by rw [hLL]; exact Nat.le_trans (jn_le (getD_le hd) (getD_le hd a) (getD_le hd b) k) (by omega))
   have HG5 := hide (show DgAt W5 (some ⟨ab, ao, none⟩) (some ⟨mb, mo, none⟩) d from HG.out.keep HU.out.bel)
   have HLL := hide (show LL = unM d c by unfold unM; rw [← HA.out, ← HB.out, if_neg HCL.out, hLL, HGA.out, HGB.out])
   have HE0 := hide (show uncC d c = 0 by unfold uncC; rw [if_pos HK.out, ← HA.out, ← HB.out, if_neg HCL.out])
   clear hW5 hgi hLL f0 f1 f2 f3 m0 m1 m2 m3 m4 m5 p0 p1 p2 p3 q0 q1 q2 q3 q4 q5 hcs hcm l1 l2 l3 l4
   have HCAP := hide HMo.out.caps
   have KS := hide (IntsAt.drew ((HG5.out.s).alloc (.cells #[.int .i64 (c : Int)] 3)))
   have KM := hide (OwnN.ints (OwnN.drew' rfl (HMo.out.alloc (.cells #[.int .i64 (c : Int)] 3))))
   have KG := hide (one_ints W5 c)
   go_region_held3 (fun w' => w'.cell? ⟨w.heap.size, 0, none⟩ = some (.slice (some ⟨ab, ao, none⟩) d.n cp) ∧ w'.cell? ⟨gi, 0, none⟩ = some (.int .i64 1) ∧ w'.cell? ⟨gi, 1, none⟩ = some (.int .i64 (Pl.shf [c] u : Nat)) ∧ w'.cell? ⟨gi, 2, none⟩ = some (.int .i64 0) ∧ w'.cell? ⟨gi, 3, none⟩ = some (.int .i64 (d.s c)) ∧ w'.cell? ⟨gi, 4, none⟩ = some (.bool bb) ∧
    w'.cell? ⟨w.heap.size + 1 + 1, 0, none⟩ = some (cv w' ⟨w.heap.size + 1 + 1, 0, none⟩) ∧ w'.cell? ⟨w.heap.size + 1 + 1, 1, none⟩ = some (cv w' ⟨w.heap.size + 1 + 1, 1, none⟩) ∧ w'.cell? ⟨w.heap.size + 1 + 1, 2, none⟩ = some (cv w' ⟨w.heap.size + 1 + 1, 2, none⟩) ∧
    w'.cell? ⟨w.heap.size + 1 + 1 + 1, 0, none⟩ = some (cv w' ⟨w.heap.size + 1 + 1 + 1, 0, none⟩) ∧ w'.cell? ⟨w.heap.size + 1 + 1 + 1, 1, none⟩ = some (cv w' ⟨w.heap.size + 1 + 1 + 1, 1, none⟩) ∧ w'.cell? ⟨w.heap.size + 1 + 1 + 1, 2, none⟩ = some (cv w' ⟨w.heap.size + 1 + 1 + 1, 2, none⟩) ∧ w'.cell? ⟨w.heap.size + 1 + 1 + 1, 3, none⟩ = some (cv w' ⟨w.heap.size + 1 + 1 + 1, 3, none⟩) ∧ w'.cell? ⟨w.heap.size + 1 + 1 + 1, 4, none⟩ = some (cv w' ⟨w.heap.size + 1 + 1 + 1, 4, none⟩) ∧
    (∀ o, w'.frozen? ⟨w.heap.size + 1 + 1, o, none⟩ = false) ∧ (∀ o, w'.frozen? ⟨w.heap.size + 1 + 1 + 1, o, none⟩ = false) ∧ UC w gi (.slice (some ⟨ab, ao, none⟩) d.n cp) (.slice (some ⟨mb, mo, none⟩) m cq) (.int .i64 (d.lp : Int)) (.int .i64 1) (.int .i64 (Pl.shf [c] u : Nat)) (.int .i64 0) (.int .i64 (d.s c)) (.bool bb) w')
    ((go_split_ands; refine UC.all ?_; (repeat (first | (with_reducible assumption) | (with_reducible exact HU.out) | (with_reducible refine UC.setD ?_ _ _) | (with_reducible refine UC.setM ?_ _ _) | (with_reducible refine UC.alloc ?_ _) | (with_reducible refine UC.drew ?_) | (with_reducible refine UC.below ?_ hb6)))))
    (first
      | (go_at_call 87
         refine Calls.mono (shrunk_sl [c] d.sg LL (d.lp : Int) (some ⟨ab, ao, none⟩) (some ⟨g2, 0, none⟩) (some ⟨W5.heap.size, 0, none⟩) d.n m 1 cp c2 1 _ ?_ ?_ ?_ (Pl.few_one c) HM.out HCAP.out.1 HCAP.out.2 (by omega) (by omega) HLE.out) ?_
         ·exact KS.out
         ·exact KM.out
         ·exact KG.out
         rintro e w6 ⟨A7, A8, c7, c8, rfl, owS, owM, hb6⟩
         have OWS := hide owS
         have OWM := hide owM
         clear owS owM))
   all_goals
    have HU6 := hide (show UC w gi (.slice (some ⟨ab, ao, none⟩) d.n cp) (.slice (some ⟨mb, mo, none⟩) m cq) (.int .i64 (d.lp : Int)) (.int .i64 1) (.int .i64 (Pl.shf [c] u : Nat)) (.int .i64 0) (.int .i64 (d.s c)) (.bool bb) w6 from by
     repeat (first | (with_reducible assumption) | (with_reducible exact HU.out) | (with_reducible refine UC.alloc ?_ _) | (with_reducible refine UC.drew ?_) | (with_reducible refine UC.below ?_ hb6)))
    have hb6s : W5.heap.size + 1 + 2 ≤ w6.heap.size ∨ True := .inr trivial
    go_wp2
    obtain ⟨vs6, r6, l6⟩ := HU6.out.rd
    obtain ⟨us6, t6, k6⟩ := HU6.out.rm
    refine bodyPost_ret (v := .tuple #[.agg #[.slice A7 (Pl.left d.sg.length [c]).length c7, .slice A8 (4 * (Pl.left d.sg.length [c]).length) c8, .int .i64 (d.lp : Int)], .agg #[.int .i64 1, .int .i64 (Pl.shf [c] u : Nat), .int .i64 0, .int .i64 (d.s c), .bool bb], .int .i64 0]) ?_ rfl ?_
    ·obtain ⟨e0, e1, e2, e3, e4, e5, e6, e7⟩ := fin8 r6 t6 l6 k6 (by omega) (.slice A7 (Pl.left d.sg.length [c]).length c7) (.slice A8 (4 * (Pl.left d.sg.length [c]).length) c8) (.int .i64 (d.lp : Int)) (.int .i64 1) (.int .i64 (Pl.shf [c] u : Nat)) (.int .i64 0) (.int .i64 (d.s c)) (.bool bb)
     simp [results, Tryz.results47, go_sem, e0, e1, e2, e3, e4, e5, e6, e7]
    ·have hn7 : (unD d c).n = (Pl.left d.sg.length [c]).length := by unfold unD Pl.Dg.n; exact Pl.shrS_len _ _
     refine ⟨fun h => absurd HE0.out h, fun _ => ⟨A7, A8, c7, c8, ?_, ?_, ?_⟩, below8 HU6.out.bel _ _ _ _ _ _ _ _⟩
     ·rw [hn7]
      unfold unD unI Mv.v
      simp only [← HA.out, ← HB.out, if_neg HCL.out]
      simp only [← HUU.out]
      have e2 : decide (a % 2 = 1) = bb := by rw [HBB.out, Bool.eq_iff_iff]; simp; omega
      rw [e2]
     ·rw [hn7]
      refine own_intsT (base := (W5.alloc (.cells #[.int .i64 (c : Int)] 3)).drew.heap.size + 2) (e := 3) (c := c7) (own8 ?_ ?_ _ _ _ _ _ _ _ _)
      ·exact OWS.out
      ·have := HU.out.i.lt; have := HU.out.lo; simp; omega
     ·rw [hn7]
      refine own_intsT (base := (W5.alloc (.cells #[.int .i64 (c : Int)] 3)).drew.heap.size + 2) (e := 3) (c := c8) (own8 ?_ ?_ _ _ _ _ _ _ _ _)
      ·rw [map_nats]
       have := OWM.out
       rw [HLL.out] at this
       exact this
      ·have := HU.out.i.lt; have := HU.out.lo; simp; omega
 ·rw [Pl.vb_false (show ¬ isK d c from hK)]
  unfold kinkE
  rw [if_neg (by decide)]
  have HK := hide hK
  clear hK
  go_wp2
  refine bodyPost_ret (v := .tuple #[nilD, nilM, .int .i64 6]) ?_ rfl ?_
  ·obtain ⟨e0, e1, e2, e3, e4, e5, e6, e7⟩ := fin8 Y2.out Y3.out rfl rfl (by omega) (.slice none 0 0) (.slice none 0 0) (.int .i64 0) (.int .i64 0) (.int .i64 0) (.int .i64 0) (.int .i64 0) (.bool false)
   unfold nilD nilM
   simp [results, Tryz.results47, go_sem, e0, e1, e2, e3, e4, e5, e6, e7]
  ·have e6 : uncC d c = 6 := by unfold uncC; rw [if_neg HK.out]
   refine ⟨fun _ => by rw [e6]; exact rfl, fun h => absurd h (by rw [e6]; decide), below8 B1.out _ _ _ _ _ _ _ _⟩
end Go.Proofs.YtlffopdoeobgaaaGreatDoor
end
