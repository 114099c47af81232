/-
 The texts Rnm.
-/
import Derived.Test.YtghdiolnonejaaaGreatDoorS01
set_option linter.unusedVariables false
set_option linter.unusedSimpArgs false
section
namespace Go.Proofs.YtghdiolnonejaaaGreatDoor.Pl
section
variable {a b:Dg} {σ:Nat → Nat}
theorem Iso.out (I:Iso a b σ) {h:Nat} (hh:h < 4 * a.n):Pl.out b (hf σ h) = Pl.out a h := by
 unfold Pl.out
 rw [hf_div,hf_mod,I.s _ (by omega)]
theorem Iso.onto (I:Iso a b σ) {g:Nat} (hg:g < 4 * a.n):∃ h,h < 4 * a.n ∧ hf σ h = g := by
 obtain ⟨p,hp,_,e⟩:=I.bij.back (show g / 4 < a.n by omega)
 have l:=I.bij.it (p - 1) (g / 4) (by omega)
 refine ⟨4 * it σ (p - 1) (g / 4) + g % 4,by omega,?_⟩
 rw [hf_at σ _ (by omega)]
 have:p = (p - 1) + 1:=by omega
 rw [this] at e
 have e2:σ (it σ (p - 1) (g / 4)) = g / 4:=e
 rw [e2]
 omega
theorem Iso.wf (I:Iso a b σ) (ha:Wf a) (hl:b.mt.length = 4 * b.n):Wf b := by
 have hn:=I.n
 have key:∀ P:Nat → Prop,(∀ h,h < 4 * a.n → P (hf σ h)) → ∀ g,g < 4 * b.n → P g:=fun P hP g hg => by
  obtain ⟨h,h1,h2⟩:=I.onto (g := g) (by omega)
  rw [← h2]
  exact hP h h1
 refine ⟨by rw [← hn]; exact ha.few,hl,by rw [← I.lp]; exact ha.lp,fun c hc => ?_,key _ fun h hh => ?_,key _ fun h hh => ?_,key _ fun h hh => ?_,key _ fun h hh => ?_⟩
 ·obtain ⟨h,h1,h2⟩:=I.onto (g := 4 * c) (by omega)
  have e:σ (h / 4) = c:=by rw [← hf_div σ h,h2]; omega
  rw [← e,I.s _ (by omega)]
  exact ha.sign _ (by omega)
 ·rw [I.m h hh,← hn]; exact I.hlt (ha.lt h hh)
 ·rw [I.m h hh]; exact fun e => ha.ne h hh (I.hinj (ha.lt h hh) hh e)
 ·rw [I.m h hh,I.m _ (ha.lt h hh),ha.inv h hh]
 ·rw [I.m h hh,I.out hh,I.out (ha.lt h hh)]; exact ha.way h hh
theorem Iso.valid (I:Iso a b σ) (ha:Valid a) (hl:b.mt.length = 4 * b.n):Valid b := by
 have hw:=I.wf ha.wf hl
 have hn:=I.n
 refine Valid.iff.2 ⟨hw,?_⟩
 have h0:=(Valid.iff.1 ha).2
 exact Gen.map (S := dart a) (T := dart b) (r := rot) (r' := rot) (a := a.m) (a' := b.m) (t := hf σ) (fun x hx => tn_lt hx) (fun x hx => ha.wf.lt x hx) (fun x hx => by unfold rot; rw [hf_tn]) (fun x hx => I.m x hx) (fun x y hx hy e => I.hinj hx hy e) (fun x hx => by show _ < 4 * b.n; rw [← hn]; exact I.hlt hx) (fun y hy => I.onto (by have:y < 4 * b.n := hy; omega)) h0
end
structure Nmb (n:Nat) (σ:Nat → Nat) (num:List Int) (k:Nat):Prop where
 len:num.length = n
 lt:∀ i,i < k → σ i < n
 is:∀ i,i < k → pv num (σ i) = i
 no:∀ c,c < n → pv num c = -1 ∨ ∃ i,i < k ∧ σ i = c
theorem Nmb.start (n:Nat) (σ:Nat → Nat):Nmb n σ (List.replicate n (-1)) 0 :=
 ⟨by simp,fun i h => absurd h (by omega),fun i h => absurd h (by omega),fun c hc => .inl (by unfold pv; rw [List.getD_eq_getElem?_getD,List.getElem?_replicate,if_pos hc]; rfl)⟩
theorem Nmb.step {n k:Nat} {σ:Nat → Nat} {num:List Int} (h:Nmb n σ num k) (hc:σ k < n) (hz:pv num (σ k) < 0):Nmb n σ (num.set (σ k) (k:Int)) (k + 1) := by
 have ne:∀ i,i < k → σ i ≠ σ k:=fun i hi e => by have := h.is i hi; rw [e] at this; omega
 refine ⟨by rw [List.length_set]; exact h.len,fun i hi => ?_,fun i hi => ?_,fun c hcn => ?_⟩
 ·by_cases e:i = k
  ·rw [e]; exact hc
  ·exact h.lt i (by omega)
 ·rw [pv_set (by rw [h.len]; exact hc)]
  by_cases e:i = k
  ·rw [e,if_pos rfl]
  ·rw [if_neg (ne i (by omega))]; exact h.is i (by omega)
 ·rw [pv_set (by rw [h.len]; exact hc)]
  by_cases e:c = σ k
  ·exact .inr ⟨k,by omega,e.symm⟩
  ·rw [if_neg e]
   rcases h.no c hcn with h1 | ⟨i,h1,h2⟩
   ·exact .inl h1
   ·exact .inr ⟨i,by omega,h2⟩
theorem Nmb.inj {n k:Nat} {σ:Nat → Nat} {num:List Int} (h:Nmb n σ num k) {i j:Nat} (hi:i < k) (hj:j < k) (e:σ i = σ j):i = j := by
 have h1:=h.is i hi
 have h2:=h.is j hj
 rw [e] at h1
 omega
theorem Nmb.all {n:Nat} {σ:Nat → Nat} {num:List Int} (h:Nmb n σ num n) {c:Nat} (hc:c < n):∃ i,i < n ∧ σ i = c ∧ pv num c = i := by
 have hb:Bij n (fun c => c < n) σ:=⟨fun _ h => h,fun i hi => h.lt i hi,fun i j hi hj e => h.inj hi hj e⟩
 obtain ⟨p,hp,_,e⟩:=hb.back hc
 have:p = (p - 1) + 1:=by omega
 rw [this] at e
 have e2:σ (it σ (p - 1) c) = c:=e
 have l:=hb.it (p - 1) c hc
 exact ⟨_,l,e2,by rw [← e2,h.is _ l,e2]⟩
def fil (n k:Nat):List Int := (List.range n).map (fun j => if j < k then -1 else 0)
theorem fil_len (n k:Nat):(fil n k).length = n := by unfold fil; simp
theorem fil_zero (n:Nat):fil n 0 = List.replicate n 0 := by
 unfold fil
 refine List.ext_getElem (by simp) fun i h1 h2 => by simp
theorem fil_done (n:Nat):fil n n = List.replicate n (-1) := by
 unfold fil
 refine List.ext_getElem (by simp) fun i h1 h2 => ?_
 simp only [List.getElem_map,List.getElem_range,List.getElem_replicate]
 rw [if_pos (by simpa using h1)]
theorem fil_set {n k:Nat} (hk:k < n):(fil n k).set k (-1) = fil n (k + 1) := by
 unfold fil
 refine List.ext_getElem (by simp) fun i h1 h2 => ?_
 rw [List.getElem_set]
 simp only [List.getElem_map,List.getElem_range]
 by_cases e:k = i
 ·subst e; rw [if_pos rfl,if_pos (by omega)]
 ·rw [if_neg e]
  by_cases e2:i < k
  ·rw [if_pos e2,if_pos (by omega)]
  ·rw [if_neg e2,if_neg (by omega)]
def rsg (d:Dg) (σ:Nat → Nat) (k:Nat):List Int := (List.range d.n).map (fun j => if j < k then d.s (σ j) else 0)
def rmt (d:Dg) (σ:Nat → Nat) (num:List Int) (k:Nat):List Int := (List.range (4 * d.n)).map (fun h => if h < k then 4 * pv num (d.m (hf σ h) / 4) + ((d.m (hf σ h) % 4:Nat):Int) else 0)
theorem rsg_len (d:Dg) (σ:Nat → Nat) (k:Nat):(rsg d σ k).length = d.n := by unfold rsg; simp
theorem rmt_len (d:Dg) (σ:Nat → Nat) (num:List Int) (k:Nat):(rmt d σ num k).length = 4 * d.n := by unfold rmt; simp
theorem rsg_zero (d:Dg) (σ:Nat → Nat):rsg d σ 0 = List.replicate d.n 0 := by
 unfold rsg
 refine List.ext_getElem (by simp) fun i h1 h2 => by simp
theorem rmt_zero (d:Dg) (σ:Nat → Nat) (num:List Int):rmt d σ num 0 = List.replicate (4 * d.n) 0 := by
 unfold rmt
 refine List.ext_getElem (by simp) fun i h1 h2 => by simp
theorem rsg_set {d:Dg} {σ:Nat → Nat} {k:Nat} (hk:k < d.n):(rsg d σ k).set k (d.s (σ k)) = rsg d σ (k + 1) := by
 unfold rsg
 refine List.ext_getElem (by simp) fun i h1 h2 => ?_
 rw [List.getElem_set]
 simp only [List.getElem_map,List.getElem_range]
 by_cases e:k = i
 ·subst e; rw [if_pos rfl,if_pos (by omega)]
 ·rw [if_neg e]
  by_cases e2:i < k
  ·rw [if_pos e2,if_pos (by omega)]
  ·rw [if_neg e2,if_neg (by omega)]
theorem rmt_set {d:Dg} {σ:Nat → Nat} {num:List Int} {k:Nat} (hk:k < 4 * d.n):(rmt d σ num k).set k (4 * pv num (d.m (hf σ k) / 4) + ((d.m (hf σ k) % 4:Nat):Int)) = rmt d σ num (k + 1) := by
 unfold rmt
 refine List.ext_getElem (by simp) fun i h1 h2 => ?_
 rw [List.getElem_set]
 simp only [List.getElem_map,List.getElem_range]
 by_cases e:k = i
 ·subst e; rw [if_pos rfl,if_pos (by omega)]
 ·rw [if_neg e]
  by_cases e2:i < k
  ·rw [if_pos e2,if_pos (by omega)]
  ·rw [if_neg e2,if_neg (by omega)]
def rnD (d:Dg) (σ:Nat → Nat) (num:List Int):Dg := ⟨rsg d σ d.n,(rmt d σ num (4 * d.n)).map Int.toNat,d.lp⟩
theorem rnD_n (d:Dg) (σ:Nat → Nat) (num:List Int):(rnD d σ num).n = d.n := rsg_len _ _ _
theorem rnD_nats {d:Dg} (hd:Wf d) {σ:Nat → Nat} {num:List Int} (h:Nmb d.n σ num d.n):(rnD d σ num).mt.map (fun m:Nat => (m:Int)) = rmt d σ num (4 * d.n) := by
 show ((rmt d σ num (4 * d.n)).map Int.toNat).map (fun m:Nat => (m:Int)) = _
 have hl:∀ x,x < 4 * d.n → hf σ x < 4 * d.n:=fun x hx => by have := h.lt (x / 4) (by omega); unfold hf; omega
 rw [List.map_map]
 conv => rhs; rw [← List.map_id (rmt d σ num (4 * d.n))]
 refine List.map_congr_left fun z hz => ?_
 unfold rmt at hz
 obtain ⟨x,hx,rfl⟩:=List.mem_map.1 hz
 rw [List.mem_range] at hx
 rw [if_pos hx]
 obtain ⟨i,i1,i2,i3⟩:=h.all (c := d.m (hf σ x) / 4) (by have := hd.lt _ (hl x hx); omega)
 rw [i3]
 show ((4 * (i:Int) + ((d.m (hf σ x) % 4:Nat):Int)).toNat:Int) = 4 * (i:Int) + ((d.m (hf σ x) % 4:Nat):Int)
 omega
end Go.Proofs.YtghdiolnonejaaaGreatDoor.Pl
end
