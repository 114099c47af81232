/-
 The texts Jc.
-/
import Derived.Test.YtghdiolnonejaaaR12
set_option linter.unusedVariables false
set_option linter.unusedSimpArgs false
section
namespace Go.Proofs.Ytghdiolnonejaaa
open Go Go.RowKit
attribute [local go_sem ↓] Go.wp_at_zero Go.wp_at_succ
def sct (f:Nat → Nat) (g:Nat → Int) (z:List Int):Nat → List Int
 | 0 => z
 | k + 1 => (sct f g z k).set (f k) (g k)
theorem sct_len (f:Nat → Nat) (g:Nat → Int) (z:List Int):∀ k,(sct f g z k).length = z.length
 | 0 => rfl
 | k + 1 => by show ((sct f g z k).set _ _).length = _; rw [List.length_set,sct_len f g z k]
theorem sct_at {f:Nat → Nat} {g:Nat → Int} {z:List Int} (hz:∀ i,i < z.length → f i < z.length) (hi:∀ i j,i < z.length → j < z.length → f i = f j → i = j):∀ k,k ≤ z.length → ∀ i,i < k → (sct f g z k)[f i]? = some (g i)
 | 0,_,i,h => absurd h (by omega)
 | k + 1, hk, i, h => by
   show ((sct f g z k).set (f k) (g k))[f i]? = _
   by_cases e:i = k
   ·subst e
    rw [List.getElem?_set_self (by rw [sct_len]; exact hz i (by omega))]
   ·rw [List.getElem?_set_ne (fun q => e (hi _ _ (by omega) (by omega) q.symm)),sct_at hz hi k (by omega) i (by omega)]
theorem sct_done {f t:Nat → Nat} {g:Nat → Int} {N:Nat} {z:List Int} (hN:z.length = N) (hf:∀ i,i < N → f i < N ∧ t (f i) = i) (ht:∀ j,j < N → t j < N ∧ f (t j) = j):sct f g z N = (List.range N).map (fun j => g (t j)) := by
 subst hN
 refine List.ext_getElem? fun j => ?_
 by_cases hj:j < z.length
 ·obtain ⟨h1,h2⟩:=ht j hj
  have h:=sct_at (g := g) (fun i hi => (hf i hi).1) (fun i k hi hk e => by rw [← (hf i hi).2,e,(hf k hk).2]) z.length (Nat.le_refl _) (t j) h1
  rw [h2] at h
  rw [h,List.getElem?_map,List.getElem?_range hj]
  rfl
 ·rw [List.getElem?_eq_none (by rw [sct_len]; omega),List.getElem?_eq_none (by simp; omega)]
def rnE (d:Pl.Dg) (σ τ:Nat → Nat):Pl.Dg := ⟨(List.range d.n).map (fun i => d.s (σ i)),(List.range (4 * d.n)).map (fun h => Pl.hf τ (d.m (Pl.hf σ h))),d.lp⟩
def Inv2 (n:Nat) (σ τ:Nat → Nat):Prop := (∀ i,i < n → σ i < n ∧ τ (σ i) = i) ∧ ∀ c,c < n → τ c < n ∧ σ (τ c) = c
theorem Inv2.four {n:Nat} {σ τ:Nat → Nat} (h:Inv2 n σ τ):Inv2 (4 * n) (Pl.hf σ) (Pl.hf τ) := by
 have key:∀ {σ τ:Nat → Nat},(∀ i,i < n → σ i < n ∧ τ (σ i) = i) → ∀ i,i < 4 * n → Pl.hf σ i < 4 * n ∧ Pl.hf τ (Pl.hf σ i) = i:=fun {σ τ} h i hi => by
  obtain ⟨h1,h2⟩:=h (i / 4) (by omega)
  refine ⟨by unfold Pl.hf; omega,?_⟩
  have e1:=Pl.hf_div σ i
  have e2:=Pl.hf_mod σ i
  unfold Pl.hf at e1 e2 ⊢
  rw [e1,e2,h2]; omega
 exact ⟨key h.1,key h.2⟩
theorem rnE_n (d:Pl.Dg) (σ τ:Nat → Nat):(rnE d σ τ).n = d.n := by unfold rnE Pl.Dg.n; simp
theorem rnE_iso {d:Pl.Dg} (hd:Pl.Wf d) {σ τ:Nat → Nat} (h:Inv2 d.n σ τ):Pl.Iso (rnE d σ τ) d σ := by
 have hn:=rnE_n d σ τ
 have h4:=h.four
 refine ⟨hn,rfl,fun c hc => by rw [hn] at hc ⊢; exact (h.1 c hc).1,fun c c' hc hc' e => by rw [hn] at hc hc'; rw [← (h.1 c hc).2,e,(h.1 c' hc').2],fun c hc => ?_,fun x hx => ?_⟩
 ·rw [hn] at hc
  show d.s (σ c) = ((List.range d.n).map (fun i => d.s (σ i))).getD c 0
  rw [List.getD_eq_getElem?_getD,List.getElem?_map,List.getElem?_range hc]; rfl
 ·rw [hn] at hx
  have e:(rnE d σ τ).m x = Pl.hf τ (d.m (Pl.hf σ x)):=by
   show ((List.range (4 * d.n)).map (fun h => Pl.hf τ (d.m (Pl.hf σ h)))).getD x x = _
   rw [List.getD_eq_getElem?_getD,List.getElem?_map,List.getElem?_range hx]; rfl
  rw [e,(h4.2 _ (hd.lt _ (h4.1 x hx).1)).2]
theorem rnE_back {d:Pl.Dg} (hd:Pl.Wf d) {σ τ:Nat → Nat} (h:Inv2 d.n σ τ):Pl.Iso d (rnE d σ τ) τ := by
 have hn:=rnE_n d σ τ
 have h4:=h.four
 refine ⟨hn.symm,rfl,fun c hc => (h.2 c hc).1,fun c c' hc hc' e => by rw [← (h.2 c hc).2,e,(h.2 c' hc').2],fun c hc => ?_,fun x hx => ?_⟩
 ·obtain ⟨h1,h2⟩:=h.2 c hc
  show ((List.range d.n).map (fun i => d.s (σ i))).getD (τ c) 0 = _
  rw [List.getD_eq_getElem?_getD,List.getElem?_map,List.getElem?_range h1]
  show d.s (σ (τ c)) = _
  rw [h2]
 ·obtain ⟨h1,h2⟩:=h4.2 x hx
  show ((List.range (4 * d.n)).map (fun h => Pl.hf τ (d.m (Pl.hf σ h)))).getD (Pl.hf τ x) (Pl.hf τ x) = _
  rw [List.getD_eq_getElem?_getD,List.getElem?_map,List.getElem?_range h1]
  show Pl.hf τ (d.m (Pl.hf σ (Pl.hf τ x))) = _
  rw [h2]
theorem rnE_valid {d:Pl.Dg} (hd:Pl.Valid d) {σ τ:Nat → Nat} (h:Inv2 d.n σ τ):Pl.Valid (rnE d σ τ) :=
 (rnE_back hd.wf h).valid hd (by rw [rnE_n]; unfold rnE; simp)
def rnA (n:Nat) (σ:Nat → Nat) (k:Nat):List Int := sct σ (fun i => (i:Int)) (List.replicate n 0) k
def rnS (d:Pl.Dg) (τ:Nat → Nat) (k:Nat):List Int := sct τ d.s (List.replicate d.n 0) k
def rnM (d:Pl.Dg) (τ:Nat → Nat) (k:Nat):List Int := sct (Pl.hf τ) (fun h => ((Pl.hf τ (d.m h):Nat):Int)) (List.replicate (4 * d.n) 0) k
theorem rnA_len (n:Nat) (σ:Nat → Nat) (k:Nat):(rnA n σ k).length = n := by unfold rnA; rw [sct_len]; simp
theorem rnS_len (d:Pl.Dg) (τ:Nat → Nat) (k:Nat):(rnS d τ k).length = d.n := by unfold rnS; rw [sct_len]; simp
theorem rnM_len (d:Pl.Dg) (τ:Nat → Nat) (k:Nat):(rnM d τ k).length = 4 * d.n := by unfold rnM; rw [sct_len]; simp
theorem rnA_at {n:Nat} {σ τ:Nat → Nat} (h:Inv2 n σ τ) {c:Nat} (hc:c < n):Pl.pv (rnA n σ n) c = (τ c:Nat) := by
 unfold rnA Pl.pv
 rw [sct_done (t := τ) (by simp) h.1 h.2,List.getD_eq_getElem?_getD,List.getElem?_map,List.getElem?_range hc]; rfl
theorem rnS_done {d:Pl.Dg} {σ τ:Nat → Nat} (h:Inv2 d.n σ τ):rnS d τ d.n = (rnE d σ τ).sg := by
 unfold rnS
 rw [sct_done (t := σ) (by simp) h.2 h.1]; rfl
theorem rnM_done {d:Pl.Dg} {σ τ:Nat → Nat} (h:Inv2 d.n σ τ):rnM d τ (4 * d.n) = nats (rnE d σ τ).mt := by
 unfold rnM
 rw [sct_done (t := Pl.hf σ) (by simp) h.four.2 h.four.1]
 unfold nats rnE
 rw [List.map_map]; rfl
set_option maxRecDepth 100000 in
set_option maxHeartbeats 8000000 in
theorem rrenumber_any (d:Pl.Dg) (hd:Pl.Valid d) (σ τ:Nat → Nat) (hi:Inv2 d.n σ τ) (A B C:Option Addr) (cp cq m cc:Nat) (w:World) (hm:m = 4 * d.n) (hg:DgAt w A B d) (hc:IntsAt w C d.n ((List.range d.n).map (fun i => ((σ i:Nat):Int)))) :
 Calls Try.prog 32 #[.agg #[.slice A d.n cp,.slice B m cq,.int .i64 d.lp],.slice C d.n cc] w fun e w' =>
  (∃ (A9 B9:Option Addr) (c8 c9:Nat),e = .returned (.agg #[.slice A9 d.n c8,.slice B9 (4 * d.n) c9,.int .i64 d.lp]) ∧ DgT w' A9 B9 (rnE d σ τ)) ∧ Below w.heap.size w w' := by
 have HM:=hide hm
 have HG:=hide hg
 have HI:=hide hi
 have HD:=hide hd
 have HCS:=hide hc
 have hn:=hd.wf.few
 have hlp:=hd.wf.lp
 clear hm hg hc hi
 have X0:=hide ((row_at (W := w) (g := w.heap.size) (t := 24) (vs := [.slice A d.n cp,.slice B m cq,.int .i64 (d.lp:Int)]) rfl).alloc (.cells #[.slice none 0 0,.slice none 0 0,.int .i64 0] 24))
 have S0:=hide (row_at (W := w.alloc (.cells #[.slice A d.n cp,.slice B m cq,.int .i64 (d.lp:Int)] 24)) (g := w.heap.size + 1) (t := 24) (vs := [.slice none 0 0,.slice none 0 0,.int .i64 0]) (by simp))
 have B0:=hide (show Below w.heap.size w ((w.alloc (.cells #[.slice A d.n cp,.slice B m cq,.int .i64 (d.lp:Int)] 24)).alloc (.cells #[.slice none 0 0,.slice none 0 0,.int .i64 0] 24)) from ((Below.refl _ _).alloc (Nat.le_refl _) _).alloc (by simp) _)
 go_enter Try.func32,Try.ntmps32
 go_upto_region 1 with fail
 obtain ⟨w1,hw1⟩:∃ W:World,W = (w.alloc (.cells #[.slice A d.n cp,.slice B m cq,.int .i64 (d.lp:Int)] 24)).alloc (.cells #[.slice none 0 0,.slice none 0 0,.int .i64 0] 24) := ⟨_,rfl⟩
 rw [← hw1] at X0 S0 B0 ⊢
 clear hw1
 obtain ⟨d0,d1,d2,d3⟩:=box3 X0.out
 have hmk:=run_ints d.n (by omega) w1
 have Q2:=hide (show NQ w [.slice A d.n cp,.slice B m cq,.int .i64 (d.lp:Int)] w1.heap.size (rnA d.n σ 0) (w1.alloc (.cells (Array.replicate d.n (Value.int .i64 0)) 3)) from
  ⟨X0.out.alloc _,S0.out.alloc _,IRow.made w1 d.n,B0.out.alloc B0.out.size _,S0.out.lt⟩)
 obtain ⟨gn,hgn⟩:∃ g,g = w1.heap.size := ⟨_,rfl⟩
 obtain ⟨W2,hW2⟩:∃ W:World,W = w1.alloc (.cells (Array.replicate d.n (Value.int .i64 0)) 3) := ⟨_,rfl⟩
 rw [← hW2,← hgn] at Q2
 go_wp2
 rw [← hW2,← hgn]
 clear hmk hW2 hgn d0 d1 d2 d3
 go_loopg [7] d.n (fun g s7 wx => ∃ k:Nat,k + g = d.n ∧ s7 = .int .i64 (k:Int) ∧ NQ w [.slice A d.n cp,.slice B m cq,.int .i64 (d.lp:Int)] gn (rnA d.n σ k) wx)
 case atStart => exact ⟨0,by omega,rfl,Q2.out⟩
 case round =>
  clear Q2
  obtain ⟨k,hkg,rfl,hq⟩:=hrel
  have HKG:=hide hkg
  have Q:=hide hq
  have hkn:k ≤ d.n:=by omega
  clear hkg hq
  by_cases hk:k < d.n
  ·have hki:(k:Int) < (d.n:Int):=by omega
   have k0:(0:Int) ≤ (k:Int):=by omega
   obtain ⟨b,o,rfl,x1⟩:=(HCS.out.keep Q.out.bel).at_ hk
   rw [show ((List.range d.n).map (fun i => ((σ i:Nat):Int))).getD k 0 = ((σ k:Nat):Int) by rw [List.getD_eq_getElem?_getD,List.getElem?_map,List.getElem?_range hk]; rfl] at x1
   obtain ⟨s,hs⟩:∃ s,s = σ k := ⟨_,rfl⟩
   have hsn:s < d.n:=by rw [hs]; exact (HI.out.1 k hk).1
   rw [← hs] at x1
   have HS:=hide hs
   clear hs
   have hsi:(s:Int) < (d.n:Int):=by omega
   have s0:(0:Int) ≤ (s:Int):=by omega
   have c1:=Q.out.nr.cell (i := s) (by rw [rnA_len]; exact hsn)
   have f1:=Row.free Q.out.nr s
   have Q3:=hide (show NQ w [.slice A d.n cp,.slice B m cq,.int .i64 (d.lp:Int)] gn (rnA d.n σ (k + 1)) (wr.setCell ⟨gn,s,none⟩ (.int .i64 (k:Int))) by
    have h:=Q.out.setN s (k:Int)
    rw [HS.out] at h ⊢
    exact h)
   clear Q
   go_wp2
   go_roundg (gk - 1)
   case measure => have := HKG.out; omega
   case rel => exact ⟨k + 1,by have := HKG.out; omega,by go_num,Q3.out⟩
  ·have hki:¬ ((k:Int) < (d.n:Int)):=by omega
   have hkk:k = d.n:=by omega
   have Q3:=hide (show NQ w [.slice A d.n cp,.slice B m cq,.int .i64 (d.lp:Int)] gn (rnA d.n σ d.n) wr by have h := Q.out; rwa [hkk] at h)
   clear Q HKG hkk
   go_upto_region 7 with fail
   obtain ⟨d0,d1,d2,d3⟩:=box3 Q3.out.box
   have hwr:w.heap.size < wr.heap.size:=Q3.out.box.lt
   have hwr1:w.heap.size < wr.heap.size + 1:=by omega
   have hwr2:w.heap.size < wr.heap.size + 1 + 1:=by omega
   have hwp:IntKind.i64.wrap (4 * (d.n:Int)) = 4 * (d.n:Int):=IntWalk.i64_in _ (by omega)
   have hmk:=fun W:World => run_ints d.n (by omega) W
   have hmk4:∀ W:World,(Instr.makeSlice 22 (.int .i64 (4 * (d.n:Int))) (.int .i64 (4 * (d.n:Int)))).run Try.prog W = .ok (.slice (some ⟨W.heap.size,0,none⟩) (4 * d.n) (4 * d.n)) (W.alloc (.cells (Array.replicate (4 * d.n) (Value.int .i64 0)) 3)):=fun W => run_ints (4 * d.n) (by omega) W
   go_cut [8] from 29 to 36 (fun s8 wx => ∃ gr gs gm:Nat,s8 = .pointer (some ⟨gr,0,none⟩) ∧ Row wx gr 24 [.slice (some ⟨gs,0,none⟩) d.n d.n,.slice (some ⟨gm,0,none⟩) (4 * d.n) (4 * d.n),.int .i64 (d.lp:Int)] ∧ IRow wx gs (List.replicate d.n 0) ∧ IRow wx gm (List.replicate (4 * d.n) 0) ∧ gs ≠ gm ∧ gr ≠ gs ∧ gr ≠ gm ∧ wr.heap.size ≤ gr ∧ wr.heap.size ≤ gs ∧ wr.heap.size ≤ gm ∧ Below wr.heap.size wr wx)
   case first =>
    go_region
    all_goals (go_wp2_with fail; go_meet)
    all_goals (
     apply Exists.intro
     apply Exists.intro
     apply Exists.intro
     refine ⟨rfl,?_,?_,?_,?_,?_,?_,?_,?_,?_,?_⟩
     ·repeat (first
       | (with_reducible refine Row.drew ?_)
       | (with_reducible refine row_new3 _ _ _ _ _ ?_)
       | (with_reducible refine Row.alloc ?_ _))
      all_goals simp
     ·repeat (first
       | (with_reducible refine IRow.dr ?_)
       | (with_reducible refine irow_new _ _ _ ?_)
       | (with_reducible refine IRow.al ?_ _))
      all_goals simp
     ·repeat (first
       | (with_reducible refine IRow.dr ?_)
       | (with_reducible refine irow_new _ _ _ ?_)
       | (with_reducible refine IRow.al ?_ _))
      all_goals simp
     ·omega
     ·omega
     ·omega
     ·omega
     ·omega
     ·omega
     ·refine BB.b ?_
      repeat (first
       | (with_reducible exact BB.refl _)
       | (with_reducible refine BB.drew ?_)
       | (with_reducible refine BB.alloc ?_ _)))
   case rest =>
    obtain ⟨gr,gs,gm,rfl,hr,hs,hmr,n1,n2,n3,l1,l2,l3,hb⟩:=hcut
    obtain ⟨wz,hwz⟩:∃ W,W = wc := ⟨_,rfl⟩
    rw [← hwz] at hr hs hmr hb ⊢
    have hgn:gn < wr.heap.size:=Q3.out.nr.lt
    have P4:=hide (show RQ w [.slice A d.n cp,.slice B m cq,.int .i64 (d.lp:Int)] gn gr gs gm d.n (d.lp:Int) (rnA d.n σ d.n) (rnS d τ 0) (rnM d τ 0) wz from
     ⟨Q3.out.below hb,hr,hs,hmr,n1,n2,n3,by omega,by omega,by omega,Q3.out.lo⟩)
    clear hwz hr hs hmr hb hmk hmk4 d0 d1 d2 d3 l1 l2 l3 n1 n2 n3 hgn hwr hwr1 hwr2 hwp Q3
    go_wp2
    go_loopg [9] d.n (fun g s9 wx => ∃ k:Nat,k + g = d.n ∧ s9 = .int .i64 (k:Int) ∧ RQ w [.slice A d.n cp,.slice B m cq,.int .i64 (d.lp:Int)] gn gr gs gm d.n (d.lp:Int) (rnA d.n σ d.n) (rnS d τ k) (rnM d τ 0) wx)
    case atStart => exact ⟨0,by omega,rfl,P4.out⟩
    case round =>
     clear P4
     obtain ⟨k,hkg,rfl,hq⟩:=hrel
     have HKG:=hide hkg
     have Q:=hide hq
     have hkn:k ≤ d.n:=by omega
     clear hkg hq
     by_cases hk:k < d.n
     ·have hki:(k:Int) < (d.n:Int):=by omega
      have k0:(0:Int) ≤ (k:Int):=by omega
      obtain ⟨b1,o1,rfl,y1⟩:=(HG.out.keep Q.out.q.bel).sign hk
      obtain ⟨z,hz⟩:∃ z,z = d.s k := ⟨_,rfl⟩
      rw [← hz] at y1
      have HZ:=hide hz
      have z1:=Q.out.q.nr.cell (i := k) (by rw [rnA_len]; exact hk)
      rw [rnA_at HI.out hk] at z1
      obtain ⟨t,ht⟩:∃ t,t = τ k := ⟨_,rfl⟩
      have htn:t < d.n:=by rw [ht]; exact (HI.out.2 k hk).1
      rw [← ht] at z1
      have HT:=hide ht
      clear ht hz
      have t0:(0:Int) ≤ (t:Int):=by omega
      have hti:(t:Int) < (d.n:Int):=by omega
      obtain ⟨d0,d1,d2,d3⟩:=box3 Q.out.q.box
      obtain ⟨r0,r1,r2,r3⟩:=box3 Q.out.r
      go_upto_region 11 with fail
      go_still_tail 12,(by kernel_rfl)
      change wpList _ _ _ _ _ wr.drew
      obtain ⟨W6,hW6⟩:∃ W6:World,W6 = wr.drew := ⟨_,rfl⟩
      rw [← hW6]
      have Q6:=hide (show RQ w [.slice (some ⟨b1,o1,none⟩) d.n cp,.slice B m cq,.int .i64 (d.lp:Int)] gn gr gs gm d.n (d.lp:Int) (rnA d.n σ d.n) (rnS d τ k) (rnM d τ 0) W6 by
       rw [hW6]; exact Q.out.below (Below.refl _ _).drew)
      clear hW6 d0 d1 d2 d3 r0 r1 r2 r3 z1 y1 Q
      have cs1:=Q6.out.s.cell (i := t) (by rw [rnS_len]; exact htn)
      have fs:=Row.free Q6.out.s t
      have Q7:=hide (show RQ w [.slice (some ⟨b1,o1,none⟩) d.n cp,.slice B m cq,.int .i64 (d.lp:Int)] gn gr gs gm d.n (d.lp:Int) (rnA d.n σ d.n) (rnS d τ (k + 1)) (rnM d τ 0) (W6.setCell ⟨gs,t,none⟩ (.int .i64 z)) by
       have h:=Q6.out.setS t z
       rw [HT.out,HZ.out] at h ⊢
       exact h)
      clear Q6
      go_wp2
      go_roundg (gk - 1)
      case measure => have := HKG.out; omega
      case rel => exact ⟨k + 1,by have := HKG.out; omega,by go_num,Q7.out⟩
     ·have hki:¬ ((k:Int) < (d.n:Int)):=by omega
      have hkk:k = d.n:=by omega
      have Q7:=hide (show RQ w [.slice A d.n cp,.slice B m cq,.int .i64 (d.lp:Int)] gn gr gs gm d.n (d.lp:Int) (rnA d.n σ d.n) (rnS d τ d.n) (rnM d τ 0) wr by have h := Q.out; rwa [hkk] at h)
      have hwp:IntKind.i64.wrap (4 * (d.n:Int)) = 4 * (d.n:Int):=IntWalk.i64_in _ (by omega)
      clear Q HKG hkk
      go_wp2
      go_loopg [10,11] (4 * d.n) (fun g s10 s11 wx => ∃ k:Nat,k + g = 4 * d.n ∧ s10 = .int .i64 (k:Int) ∧ RQ w [.slice A d.n cp,.slice B m cq,.int .i64 (d.lp:Int)] gn gr gs gm d.n (d.lp:Int) (rnA d.n σ d.n) (rnS d τ d.n) (rnM d τ k) wx)
      case atStart => exact ⟨0,by omega,rfl,Q7.out⟩
      case round =>
       clear Q7
       obtain ⟨h,hkg,rfl,hq⟩:=hrel
       have HKG:=hide hkg
       have Q:=hide hq
       have hkn:h ≤ 4 * d.n:=by omega
       clear hkg hq
       by_cases hk:h < 4 * d.n
       ·have hki:(h:Int) < 4 * (d.n:Int):=by omega
        have k0:(0:Int) ≤ (h:Int):=by omega
        have hhm:(h:Int) < (m:Int):=by have := HM.out; omega
        obtain ⟨b2,o2,rfl,y1⟩:=mate_at (HG.out.keep Q.out.q.bel).m hk
        obtain ⟨M,hM⟩:∃ M,M = d.m h := ⟨_,rfl⟩
        have hM4:M < 4 * d.n:=by rw [hM]; exact HD.out.wf.lt _ hk
        rw [← hM] at y1
        have HMM:=hide hM
        clear hM
        obtain ⟨d0,d1,d2,d3⟩:=box3 Q.out.q.box
        go_upto_region 16 with fail
        clear y1 d0 d1 d2 d3
        have z1:=Q.out.q.nr.cell (i := h / 4) (by rw [rnA_len]; omega)
        rw [rnA_at HI.out (by omega)] at z1
        have z2:=Q.out.q.nr.cell (i := M / 4) (by rw [rnA_len]; omega)
        rw [rnA_at HI.out (by omega)] at z2
        obtain ⟨i,hi⟩:∃ t,t = h / 4 := ⟨_,rfl⟩
        obtain ⟨r,hr⟩:∃ r,r = h % 4 := ⟨_,rfl⟩
        obtain ⟨i',hi'⟩:∃ t,t = M / 4 := ⟨_,rfl⟩
        obtain ⟨r',hr'⟩:∃ r,r = M % 4 := ⟨_,rfl⟩
        obtain ⟨t,ht⟩:∃ t,t = τ i := ⟨_,rfl⟩
        obtain ⟨t',ht'⟩:∃ t,t = τ i' := ⟨_,rfl⟩
        rw [← hi,← ht] at z1
        rw [← hi',← ht'] at z2
        have lt:t < d.n:=by rw [ht,hi]; exact (HI.out.2 _ (by omega)).1
        have lt':t' < d.n:=by rw [ht',hi']; exact (HI.out.2 _ (by omega)).1
        have q0:(h:Int) / 4 = (i:Int):=by omega
        have q1:(h:Int) % 4 = (r:Int):=by omega
        have q2:(M:Int) / 4 = (i':Int):=by omega
        have q3:(M:Int) % 4 = (r':Int):=by omega
        have q1t:(h:Int).tmod 4 = (r:Int):=by rw [Int.tmod_eq_emod_of_nonneg (by omega)]; exact q1
        have q3t:(M:Int).tmod 4 = (r':Int):=by rw [Int.tmod_eq_emod_of_nonneg (by omega)]; exact q3
        have a1:(i:Int) < (d.n:Int):=by omega
        have a2:(0:Int) ≤ (i:Int):=by omega
        have a3:(i':Int) < (d.n:Int):=by omega
        have a4:(0:Int) ≤ (i':Int):=by omega
        have w1:IntKind.i64.wrap (i:Int) = (i:Int):=IntWalk.i64_in _ (by omega)
        have w2:IntKind.i64.wrap (r:Int) = (r:Int):=IntWalk.i64_in _ (by omega)
        have w3:IntKind.i64.wrap (i':Int) = (i':Int):=IntWalk.i64_in _ (by omega)
        have w4:IntKind.i64.wrap (r':Int) = (r':Int):=IntWalk.i64_in _ (by omega)
        have w5:IntKind.i64.wrap (4 * (t:Int)) = 4 * (t:Int):=IntWalk.i64_in _ (by omega)
        have w6:IntKind.i64.wrap (4 * (t':Int)) = 4 * (t':Int):=IntWalk.i64_in _ (by omega)
        have w7:IntKind.i64.wrap (4 * (t:Int) + (r:Int)) = 4 * (t:Int) + (r:Int):=IntWalk.i64_in _ (by omega)
        have w8:IntKind.i64.wrap (4 * (t':Int) + (r':Int)) = 4 * (t':Int) + (r':Int):=IntWalk.i64_in _ (by omega)
        have i1:(4:Int) * (t:Int) + (r:Int) < 4 * (d.n:Int):=by omega
        have i2:(0:Int) ≤ (4:Int) * (t:Int) + (r:Int):=by omega
        have hx:Pl.hf τ h = 4 * t + r:=by unfold Pl.hf; rw [ht,hi,hr]
        have hy:Pl.hf τ M = 4 * t' + r':=by unfold Pl.hf; rw [ht',hi',hr']
        have HX:=hide hx
        have HY:=hide hy
        clear ht ht' hi hi' hr hr' hx hy
        obtain ⟨r0,r1,r2,r3⟩:=box3 Q.out.r
        go_still_tail 21,(by kernel_rfl)
        change wpList _ _ _ _ _ wr.drew
        obtain ⟨W6,hW6⟩:∃ W6:World,W6 = wr.drew := ⟨_,rfl⟩
        rw [← hW6]
        have Q6:=hide (show RQ w [.slice A d.n cp,.slice (some ⟨b2,o2,none⟩) m cq,.int .i64 (d.lp:Int)] gn gr gs gm d.n (d.lp:Int) (rnA d.n σ d.n) (rnS d τ d.n) (rnM d τ h) W6 by
         rw [hW6]; exact Q.out.below (Below.refl _ _).drew)
        clear hW6 r0 r1 r2 r3 z1 z2 Q
        have cs1:=Q6.out.m.cell (i := 4 * t + r) (by rw [rnM_len]; omega)
        have fs:=Row.free Q6.out.m (4 * t + r)
        have Q7:=hide (show RQ w [.slice A d.n cp,.slice (some ⟨b2,o2,none⟩) m cq,.int .i64 (d.lp:Int)] gn gr gs gm d.n (d.lp:Int) (rnA d.n σ d.n) (rnS d τ d.n) (rnM d τ (h + 1)) (W6.setCell ⟨gm,4 * t + r,none⟩ (.int .i64 (4 * (t':Int) + (r':Int)))) by
         have e:=Q6.out.setM (4 * t + r) (4 * (t':Int) + (r':Int))
         have e2:rnM d τ (h + 1) = (rnM d τ h).set (4 * t + r) (4 * (t':Int) + (r':Int)):=by
          show (sct _ _ _ h).set (Pl.hf τ h) ((Pl.hf τ (d.m h):Nat):Int) = _
          rw [HX.out,← HMM.out,HY.out]
          show (rnM d τ h).set _ _ = _
          congr 1
         rw [e2]; exact e)
        clear Q6
        have hoff:(4 * (t:Int) + (r:Int)).toNat = 4 * t + r:=by omega
        go_wp2
        go_roundg (gk - 1)
        case measure => have := HKG.out; omega
        case rel => exact ⟨h + 1,by have := HKG.out; omega,by go_num,Q7.out⟩
       ·have hki:¬ ((h:Int) < 4 * (d.n:Int)):=by omega
        have hkk:h = 4 * d.n:=by omega
        obtain ⟨d0,d1,d2,d3⟩:=box3 Q.out.r
        obtain ⟨f0,f1,f2,f3⟩:=box3 Q.out.q.res
        have ne:=Q.out.n2
        go_wp2
        refine bodyPost_ret (v := .agg #[.slice (some ⟨gs,0,none⟩) d.n d.n,.slice (some ⟨gm,0,none⟩) (4 * d.n) (4 * d.n),.int .i64 (d.lp:Int)]) ?_ rfl ?_
        ·obtain ⟨r0,r1,r2,r3⟩:=box3 (row3 Q.out.q.res rfl (.slice (some ⟨gs,0,none⟩) d.n d.n) (.slice (some ⟨gm,0,none⟩) (4 * d.n) (4 * d.n)) (.int .i64 (d.lp:Int)))
         simp [results,Try.results32,go_sem,r0,r1,r2]
        ·have hlo:=Q.out.lo
         have hl2:=Q.out.l2
         have hl3:=Q.out.l3
         have hrs:=Q.out.s
         have hrm:=Q.out.m
         rw [rnS_done HI.out] at hrs
         rw [hkk,rnM_done HI.out] at hrm
         refine ⟨⟨some ⟨gs,0,none⟩,some ⟨gm,0,none⟩,⟨d.n,4 * d.n,rfl⟩,⟨?_,?_⟩⟩,below3 Q.out.q.bel (by omega) _ _ _⟩
         ·rw [rnE_n]
          exact (IRow.T (Row.other (Row.other (Row.other hrs (by show gs ≠ w.heap.size + 1; omega) _) (by show gs ≠ w.heap.size + 1; omega) _) (by show gs ≠ w.heap.size + 1; omega) _) (by rw [← rnS_done HI.out,rnS_len]))
         ·rw [rnE_n]
          exact (IRow.T (Row.other (Row.other (Row.other hrm (by show gm ≠ w.heap.size + 1; omega) _) (by show gm ≠ w.heap.size + 1; omega) _) (by show gm ≠ w.heap.size + 1; omega) _) (by rw [← rnM_done HI.out,rnM_len]))
end Go.Proofs.Ytghdiolnonejaaa
end
