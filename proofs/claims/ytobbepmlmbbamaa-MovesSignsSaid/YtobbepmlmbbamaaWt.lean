/-
  Walks: the cycles of a permutation, all of them.
-/
import Derived.Test.YtobbepmlmbbamaaWs
namespace Go.Proofs.Ytobbepmlmbbamaa
open Go Go.RowKit

structure Cys (w : World) (N : Nat) (f : Nat → Nat) (k : Nat) (fs : List (List Nat)) (bs : List Bool) (vs : List Value) (vA : Value) (W : World) : Prop where
  fc : Pl.Fcs f (fun _ => True) N k fs bs
  few : fs.length ≤ k
  seen : BRow W w.heap.size bs
  own : W.ownsRow (w.heap.size + 1) 22 1 vA fs.length vs
  fa : Vs W vs fs
  bel : Below w.heap.size w W
  far : Far w.heap.size vs
theorem Cys.below {w : World} {N : Nat} {f : Nat → Nat} {k : Nat} {fs : List (List Nat)} {bs : List Bool} {vs : List Value} {vA : Value} {W W' : World} (h : Cys w N f k fs bs vs vA W) (hb : Below W.heap.size W W') : Cys w N f k fs bs vs vA W' :=
  ⟨h.fc, h.few, Row.below h.seen hb, own_keep h.own hb (Nat.le_refl _), h.fa.below hb, h.bel.trans (hb.mono h.bel.size), h.far⟩
def CyclesPost (f : Nat → Nat) (N : Nat) (w : World) (e : Ending) (w' : World) : Prop :=
  ∃ (A : Option Addr) (c : Nat) (fs : List (List Nat)) (bs : List Bool) (vs : List Value), e = .returned (.slice A fs.length c) ∧ Pl.Fcs f (fun _ => True) N N fs bs ∧ fs.length ≤ N ∧ RowT w' 22 A fs.length vs ∧ Vs w' vs fs ∧ Below w.heap.size w w' ∧ Far w.heap.size vs
set_option maxRecDepth 100000 in
set_option maxHeartbeats 3000000 in
theorem cycles_any (c : Value) (N : Nat) (S : Nat → Prop) (f : Nat → Nat) (w : World) (hst : Steps 126 c N f w) (hbij : Pl.Bij N S f) (hS : ∀ x, x < N → S x) (hSN : ∀ x, S x → x < N) (hN : N ≤ 1000) :
    Calls Try.prog 125 #[.int .i64 (N : Int), .func (.func 124) #[] #[], fv1 126 c] w (CyclesPost f N w) := by
  unfold fv1
  have HST := hide hst
  have HBI := hide hbij
  have HSS := hide hS
  have HSN := hide hSN
  have hmk := fun W : World => run_bools N (by omega) W
  have HF := hide (show ∀ x, x < N → f x < N from fun x hx => hSN _ (hbij.maps x (hS x hx)))
  have H0 := hide (show Cys w N f 0 [] (List.replicate N false) [] (.slice none 0 0) (w.alloc (.cells (Array.replicate N (Value.bool false)) 4)) from
    ⟨Pl.Fcs.start f _ N, Nat.le_refl _, BRow.made w N, World.ownsRow_nil _ _ _ _, Vs.nil _, (Below.refl _ _).alloc (Nat.le_refl _) _, fun v hv => by simp at hv⟩)
  clear hst hbij hS hSN
  go_enter Try.func125, Try.ntmps125
  go_wp2
  clear hmk
  go_loopg [7, 16] N (fun g v i wx => ∃ (k : Nat) (fs : List (List Nat)) (bs : List Bool) (vs : List Value), k + g = N ∧ i = .int .i64 k ∧ Cys w N f k fs bs vs v wx)
  case atStart => exact ⟨0, _, _, _, by omega, rfl, H0.out⟩
  case round =>
    clear H0
    obtain ⟨k, fs, bs, vs, hkg, rfl, hk⟩ := hrel
    have HKG := hide hkg
    have hkN : k ≤ N := by omega
    have HK := hide hk
    clear hkg hk
    obtain ⟨go, rfl⟩ : ∃ go, go = gk := ⟨_, rfl⟩
    obtain ⟨A7, c7, rfl⟩ := owns_slice HK.out.own
    by_cases hlt : k < N
    · have hbl : k < bs.length := by rw [HK.out.fc.len]; exact hlt
      have hc := HK.out.seen.cell hbl
      have ik : (0 : Int) ≤ (k : Int) := by omega
      have jk : (k : Int) < (N : Int) := by omega
      cases hg : Pl.gb bs k with
      | true =>
        have HGB := hide hg
        have hc' : wr.cell? ⟨w.heap.size, k, none⟩ = some (.bool true) := by rw [hc]; unfold Pl.gb at hg; rw [hg]
        clear hc hg
        go_wp2
        go_roundg (go - 1)
        case measure => have := HKG.out; omega
        case rel => exact ⟨k + 1, fs, bs, vs, by have := HKG.out; omega, by go_num, HK.out.fc.skip (.inl HGB.out), by have := HK.out.few; omega, HK.out.seen, HK.out.own, HK.out.fa, HK.out.bel, HK.out.far⟩
      | false =>
        have HGB := hide hg
        have hc' : wr.cell? ⟨w.heap.size, k, none⟩ = some (.bool false) := by rw [hc]; unfold Pl.gb at hg; rw [hg]
        clear hc hg
        go_wp2_with fail
        refine (every_any _ _).mono ?_
        rintro e w1 ⟨rfl, rfl⟩
        go_wp2_with fail
        obtain ⟨p, hpN, hper⟩ := HBI.out.per (HSS.out k hlt)
        have HPER := hide hper
        clear hper
        refine (cycle_any c N f k p _ (HST.out.keep HK.out.bel) HF.out hlt HPER.out hpN hN).mono ?_
        rintro e w2 ⟨A5, c5, rfl, own5, hb5⟩
        have HK2 := hide (HK.out.below hb5)
        have FA2 := hide (show FaceAt w2 (.slice A5 p c5) (Pl.cyc f k p) from ⟨A5, c5, by rw [Pl.cyc_len], by rw [Pl.cyc_len]; exact own_rowT own5⟩)
        have HFR := hide (show ∀ g, (Value.slice A5 p c5).ownBlock = some g → w.heap.size ≤ g from fun g hg => by have := (own5.lt g hg).1; have := HK.out.bel.size; omega)
        have HFA0 := hide HK.out.far
        clear own5 hb5
        have hp0 := HPER.out.1
        obtain ⟨b5, o5, rfl, _⟩ := nats_at FA2.out.ints.2 (k := 0) hp0
        have HFC := hide HK.out.fc
        have hfew := HK.out.few
        have HM0 := hide (show BRow w2 w.heap.size (Pl.mark bs ((Pl.cyc f k p).take 0)) from HK2.out.seen)
        go_wp2_with fail
        go_loopg [34] p (fun g i wx => ∃ j : Nat, j + g = p ∧ i = .int .i64 j ∧ BRow wx w.heap.size (Pl.mark bs ((Pl.cyc f k p).take j)) ∧ wx.ownsRow (w.heap.size + 1) 22 1 (.slice A7 fs.length c7) fs.length vs ∧ Vs wx vs fs ∧ FaceAt wx (.slice (some ⟨b5, o5, none⟩) p c5) (Pl.cyc f k p) ∧ Below w.heap.size w wx)
        case atStart => exact ⟨0, by omega, rfl, HM0.out, HK2.out.own, HK2.out.fa, FA2.out, HK2.out.bel⟩
        case round =>
          clear HM0 FA2 HK2 HK
          obtain ⟨j, hjg, rfl, hbr, hown, hvs, hfa, hbel⟩ := hrel
          have HJG := hide hjg
          have hjp : j ≤ p := by omega
          have HBR := hide hbr
          have HOWN := hide hown
          have HVS := hide hvs
          have HFA := hide hfa
          have HBEL := hide hbel
          have hsz := hbr.lt
          clear hjg hbr hown hvs hfa hbel
          by_cases hlj : j < p
          · obtain ⟨b', o', e', hcj⟩ := nats_at HFA.out.ints.2 (k := j) hlj
            injection e' with e'
            injection e' with e1 e2
            subst e1
            subst e2
            rw [Pl.cyc_get hlj] at hcj
            obtain ⟨y, hy⟩ : ∃ y, y = Pl.it f j k := ⟨_, rfl⟩
            have hyN : y < N := by rw [hy]; exact it_lt HF.out hlt j
            rw [← hy] at hcj
            have HY := hide hy
            clear hy
            have hyl : y < (Pl.mark bs ((Pl.cyc f k p).take j)).length := by rw [Pl.mark_len, HFC.out.len]; exact hyN
            have cy := HBR.out.cell hyl
            have fy := Row.free HBR.out y
            have iy : (0 : Int) ≤ (y : Int) := by omega
            have jy : (y : Int) < (N : Int) := by omega
            go_wp2_with fail
            go_roundg (gk - 1)
            case measure => have := HJG.out; omega
            case rel =>
              refine ⟨j + 1, by have := HJG.out; omega, by go_num, ?_, ?_, HVS.out.store HBR.out (by decide) _, HFA.out.store HBR.out (by decide) _, HBEL.out.setCell (Nat.le_refl _) _⟩
              · have h1 := HBR.out.set y true
                have h2 : (Pl.cyc f k p).take (j + 1) = (Pl.cyc f k p).take j ++ [y] := by
                  rw [List.take_succ_eq_append_getElem (by rw [Pl.cyc_len]; exact hlj)]
                  congr 2
                  have := Pl.cyc_get (f := f) (x := k) hlj
                  rw [List.getD_eq_getElem?_getD, List.getElem?_eq_getElem (by rw [Pl.cyc_len]; exact hlj)] at this
                  rw [HY.out]
                  exact this
                rw [h2, Pl.mark_append]
                exact h1
              · exact ownsRow_setCell_below HOWN.out (by show w.heap.size < w.heap.size + 1; omega) _
          · have hjj : j = p := by omega
            subst hjj
            obtain ⟨i0, hi0, hz0, hz1, hz2⟩ := info_parts rowInfo
            have P1 : ∀ u ∈ [Value.slice (some ⟨b5, o5, none⟩) j c5], u.oneCell' = true := by simp [Value.oneCell']
            go_wp2_with (at_builtin; refine wpList_append_lies _ (by rfl) _ _ 57 (by rfl) (w.heap.size + 1) 22 i0 (.slice none 0 0) 1 24 Try.underlying57 hi0 hz0 hz1 hz2 rfl (by omega) _ fs.length vs (by rfl) (HOWN.out.alloc _) ⟨wr.heap.size, 0, none⟩ 1 1 [.slice (some ⟨b5, o5, none⟩) j c5] (by rfl) (by rfl) (World.news_of_block (cs := #[.slice (some ⟨b5, o5, none⟩) j c5]) (t := 22) (fr := (0, 0)) (heap_alloc_new wr _)) P1 (by omega) (by unfold maxLen; omega) (by omega) (by simp; omega) (wr.heap.size + 1) (by simp) ?_; intro g3 c3 w3 own3 grow3 at3 lt3)
            go_roundg (go - 1)
            case measure => have := HKG.out; omega
            case rel =>
              have hbk := fun g (hg : (Value.slice A7 fs.length c7).ownBlock = some g) => ownsRow_block (HOWN.out.alloc (.cells #[.slice (some ⟨b5, o5, none⟩) j c5] 22)) g hg
              have hba : Below wr.heap.size wr (wr.alloc (.cells #[.slice (some ⟨b5, o5, none⟩) j c5] 22)) := (Below.refl _ _).alloc (Nat.le_refl _) _
              refine ⟨k + 1, fs ++ [Pl.cyc f k j], Pl.mark bs (Pl.cyc f k j), vs ++ [.slice (some ⟨b5, o5, none⟩) j c5], by have := HKG.out; omega, by go_num, ?_⟩
              refine ⟨HFC.out.add HBI.out HSS.out HSN.out hlt trivial HGB.out HPER.out, by simp; omega, ?_, by simpa using own3, ?_, ?_, HFA0.out.add HFR.out⟩
              · have h1 := HBR.out
                rw [List.take_of_length_le (by rw [Pl.cyc_len]; omega)] at h1
                refine Row.grown (Row.alloc h1 (.cells #[.slice (some ⟨b5, o5, none⟩) j c5] 22)) grow3 ?_
                intro e
                obtain ⟨cs, fr, h3⟩ := hbk _ e.symm
                have h4 := Row.alloc h1 (.cells #[.slice (some ⟨b5, o5, none⟩) j c5] 22)
                rw [h4] at h3
                injection h3 with h3
                injection h3 with _ h5
                exact absurd h5 (by decide)
              · exact ((HVS.out.below hba).grown grow3 hbk (by decide)).add ((HFA.out.below hba).grown grow3 hbk (by decide))
              · exact (HBEL.out.alloc (by omega) _).grown grow3 (by simp; omega) (fun k hk => by have := (HOWN.out.lt k hk).1; omega)
    · go_wp2
      go_ret
      have : k = N := by omega
      subst this
      exact ⟨A7, c7, fs, bs, vs, rfl, HK.out.fc, HK.out.few, own_rowT HK.out.own, HK.out.fa, HK.out.bel, HK.out.far⟩
end Go.Proofs.Ytobbepmlmbbamaa
