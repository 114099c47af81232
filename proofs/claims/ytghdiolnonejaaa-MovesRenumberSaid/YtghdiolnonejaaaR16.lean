/-
 The texts Rnm.
-/
import Derived.Test.YtghdiolnonejaaaR00
set_option linter.unusedVariables false
set_option linter.unusedSimpArgs false
section
namespace Go.Proofs.Ytghdiolnonejaaa.Pl
section
variable {a b:Dg} {σ:Nat → Nat}
theorem Iso.out (I:Iso a b σ) {h:Nat} (hh:h < 4 * a.n):Pl.out b (hf σ h) = Pl.out a h := by
 unfold Pl.out
 rw [hf_div,hf_mod,I.s _ (by omega)]
theorem Iso.onto (I:Iso a b σ) {g:Nat} (hg:g < 4 * a.n):∃ h,h < 4 * a.n ∧ hf σ h = g := by
 obtain ⟨p,hp,_,e⟩:=I.bij.back (show g / 4 < a.n by omega)
 have l:=I.bij.it (p - 1) (g / 4) (by omega)
 refine ⟨4 * it σ (p - 1) (g / 4) + g % 4,by omega,?_⟩
 rw [hf_at σ _ (by omega)]
 have:p = (p - 1) + 1:=by omega
 rw [this] at e
 have e2:σ (it σ (p - 1) (g / 4)) = g / 4:=e
 rw [e2]
 omega
theorem Iso.wf (I:Iso a b σ) (ha:Wf a) (hl:b.mt.length = 4 * b.n):Wf b := by
 have hn:=I.n
 have key:∀ P:Nat → Prop,(∀ h,h < 4 * a.n → P (hf σ h)) → ∀ g,g < 4 * b.n → P g:=fun P hP g hg => by
  obtain ⟨h,h1,h2⟩:=I.onto (g := g) (by omega)
  rw [← h2]
  exact hP h h1
 refine ⟨by rw [← hn]; exact ha.few,hl,by rw [← I.lp]; exact ha.lp,fun c hc => ?_,key _ fun h hh => ?_,key _ fun h hh => ?_,key _ fun h hh => ?_,key _ fun h hh => ?_⟩
 ·obtain ⟨h,h1,h2⟩:=I.onto (g := 4 * c) (by omega)
  have e:σ (h / 4) = c:=by rw [← hf_div σ h,h2]; omega
  rw [← e,I.s _ (by omega)]
  exact ha.sign _ (by omega)
 ·rw [I.m h hh,← hn]; exact I.hlt (ha.lt h hh)
 ·rw [I.m h hh]; exact fun e => ha.ne h hh (I.hinj (ha.lt h hh) hh e)
 ·rw [I.m h hh,I.m _ (ha.lt h hh),ha.inv h hh]
 ·rw [I.m h hh,I.out hh,I.out (ha.lt h hh)]; exact ha.way h hh
theorem Iso.valid (I:Iso a b σ) (ha:Valid a) (hl:b.mt.length = 4 * b.n):Valid b := by
 have hw:=I.wf ha.wf hl
 have hn:=I.n
 refine Valid.iff.2 ⟨hw,?_⟩
 have h0:=(Valid.iff.1 ha).2
 exact Gen.map (S := dart a) (T := dart b) (r := rot) (r' := rot) (a := a.m) (a' := b.m) (t := hf σ) (fun x hx => tn_lt hx) (fun x hx => ha.wf.lt x hx) (fun x hx => by unfold rot; rw [hf_tn]) (fun x hx => I.m x hx) (fun x y hx hy e => I.hinj hx hy e) (fun x hx => by show _ < 4 * b.n; rw [← hn]; exact I.hlt hx) (fun y hy => I.onto (by have:y < 4 * b.n := hy; omega)) h0
end
end Go.Proofs.Ytghdiolnonejaaa.Pl
end
