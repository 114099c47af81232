/-
 The texts Slv, Unc, Und, Unk, Pok, Pkv, Str, Cmp, Cmq, Mem, Wa, Q, Row, Grow, Wd, We, Wf, Wg, Wh, Wb, Wk, Rq.
-/
import Derived.Test.YtghdiolnonejaaaR00
import Derived.BigQuiet
import Derived.Deep.AppendLies
import Derived.Deep.CutBlock
import Derived.Deep.DeepCutAuto
import Derived.Deep.DrawnRows
import Derived.Deep.Light
import Derived.Deep.LoopGhost
import Derived.Deep.QuietTactic
import Derived.Deep.RegionHeld3
import Derived.Deep.RegionLaw
import Derived.Deep.RegionWith
import Derived.Laws.AppendOwn
import Derived.Laws.MakeOwn
import Derived.Laws.OwnMore
import Derived.Laws.Rows
import Derived.Maps.AppendAt
import Derived.Outline
import Derived.RegionTactic
import Derived.Shelf.Spec.SlicesGrow
import Derived.StillTailTactics
import Derived.Test.YtghdiolnonejaaaShelf
import Derived.WalkKit
import Derived.WalkLawsBesides
import Derived.WalkSpells
set_option linter.unusedVariables false
set_option linter.unusedSimpArgs false
section
namespace Go.Proofs.Ytghdiolnonejaaa.Pl
theorem out_opp {d:Dg} (hd:Wf d) {h:Nat} (hh:h < 4 * d.n):out d (tn h 2) = !out d h := by
 have s:=hd.sign (h / 4) (by omega)
 unfold out
 rw [tn_div,tn_mod]
 generalize d.s (h / 4) = s at *
 have ha:h % 4 = 0 ∨ h % 4 = 1 ∨ h % 4 = 2 ∨ h % 4 = 3:=by omega
 rcases ha with a | a | a | a <;> rw [a] <;> rcases s with rfl | rfl <;> rfl
end Go.Proofs.Ytghdiolnonejaaa.Pl
end
section
namespace Go.Proofs.Ytghdiolnonejaaa.Pl
variable {d:Dg}
theorem rot_rot (h:Nat):rot (rot h) = tn h 2 := by unfold rot; rw [tn_tn]; unfold tn; omega
theorem st_bij (hd:Wf d):Bij (4 * d.n) (dart d) (st d) :=
 ⟨fun _ h => h,fun x hx => tn_lt (hd.lt x hx),fun x y hx hy e => hd.bij.inj x y hx hy (tn_inj e)⟩
theorem out_st (hd:Wf d) {h:Nat} (hh:h < 4 * d.n):out d (st d h) = out d h := by
 unfold st
 rw [out_opp hd (hd.lt h hh),out_way hd hh,Bool.not_not]
theorem out_it (hd:Wf d) {h:Nat} (hh:h < 4 * d.n):∀ k,out d (it (st d) k h) = out d h
 | 0 => rfl
 | k + 1 => by
   show out d (st d (it (st d) k h)) = _
   rw [out_st hd ((st_bij hd).it k h hh),out_it hd hh k]
theorem least_back {N:Nat} {S:Nat → Prop} {f:Nat → Nat} (h:Bij N S f) {x:Nat} (hx:S x):∃ p,0 < p ∧ it f p x = x ∧ ∀ j,0 < j → j < p → it f j x ≠ x := by
 obtain ⟨p,p0,_,e⟩:=h.back hx
 obtain ⟨q,⟨q0,hq⟩,hmin⟩:=least_of (p := fun k => 0 < k ∧ it f k x = x) p ⟨p0,e⟩
 exact ⟨q,q0,hq,fun j j0 jq e2 => by have := hmin j ⟨j0,e2⟩; omega⟩
theorem no_opp (hd:Valid d) {o:Nat} (ho:o < 4 * d.n):d.m o ≠ tn o 2 := by
 intro he
 have hv:=Valid.iff.1 hd
 have hw:=hv.1
 have hm:=hw.hm
 have ho2:tn o 2 < 4 * d.n:=tn_lt ho
 have hne:o ≠ tn o 2:=fun e => hw.ne o ho (by rw [he]; exact e.symm)
 -- the half-edge q of the other strand that comes in,p that goes out
 obtain ⟨p,q,hpq,hqp,hcase,hop,hoq⟩:∃ p q,q = tn p 2 ∧ p = tn q 2 ∧ (q = tn o 1 ∨ q = tn o 3) ∧ out d p = true ∧ out d q = false := by
  have h1:out d (tn (tn o 1) 2) = !out d (tn o 1):=out_opp hw (tn_lt ho)
  rw [tn_tn] at h1
  cases e:out d (tn o 1) with
  | true => exact ⟨tn o 1,tn o 3,by rw [tn_tn],by rw [tn_tn]; unfold tn; omega,.inr rfl,e,by rw [h1,e]; rfl⟩
  | false => exact ⟨tn o 3,tn o 1,by rw [tn_tn]; unfold tn; omega,by rw [tn_tn],.inl rfl,by rw [h1,e]; rfl,e⟩
 have hq:q < 4 * d.n:=by rcases hcase with rfl | rfl <;> exact tn_lt ho
 have hp:p < 4 * d.n:=by rw [hqp]; exact tn_lt hq
 have qo:q ≠ o:=by rcases hcase with rfl | rfl <;> (unfold tn; omega)
 have qo2:q ≠ tn o 2:=by rcases hcase with rfl | rfl <;> (unfold tn; omega)
 have po:p ≠ o:=by rw [hqp]; rcases hcase with rfl | rfl <;> (unfold tn; omega)
 have po2:p ≠ tn o 2:=by rw [hqp]; rcases hcase with rfl | rfl <;> (unfold tn; omega)
 obtain ⟨y,hy⟩:∃ y,y = d.m q := ⟨_,rfl⟩
 have hyl:y < 4 * d.n:=by rw [hy]; exact hw.lt q hq
 have hyq:d.m y = q:=by rw [hy,hw.inv q hq]
 have yo:y ≠ o:=fun e => by rw [e,he] at hyq; exact qo2 hyq.symm
 have hmo2:d.m (tn o 2) = o:=by rw [← he,hw.inv o ho]
 have yo2:y ≠ tn o 2:=fun e => by rw [e,hmo2] at hyq; exact qo hyq.symm
 have qy:q ≠ y:=fun e => hw.ne q hq (by rw [← hy]; exact e.symm)
 -- without the edge o
 obtain ⟨c1,c2,c3⟩:=Hm.cut hm ho (hw.ne o ho)
 rw [he] at c1 c2 c3
 obtain ⟨a0,ha0⟩:∃ a0,a0 = tr d.m o (tn o 2) := ⟨_,rfl⟩
 rw [← ha0] at c1 c2 c3
 have a0e:tr a0 o (tn o 2) = d.m:=by rw [ha0,tr_tr]
 obtain ⟨f0,k0⟩:=Flat.del c1 ho ho2 hne c2 c3 (by rw [a0e]; exact hv.2)
 have a0q:a0 q = y:=by rw [ha0,tr_ne qo qo2,hy]
 have a0y:a0 y = q:=by rw [ha0,tr_ne yo yo2,hyq]
 -- and without the edge q
 obtain ⟨d1,d2,d3⟩:=Hm.cut c1 hq (by rw [a0q]; exact Ne.symm qy)
 rw [a0q] at d1 d2 d3
 obtain ⟨a1,ha1⟩:∃ a1,a1 = tr a0 q y := ⟨_,rfl⟩
 rw [← ha1] at d1 d2 d3
 have a1e:tr a1 q y = a0:=by rw [ha1,tr_tr]
 obtain ⟨f1,k1⟩:=Flat.del d1 hq hyl qy d2 d3 (by rw [a1e]; exact f0)
 have a1z:∀ z,z ≠ o → z ≠ tn o 2 → z ≠ q → z ≠ y → a1 z = d.m z:=fun z z1 z2 z3 z4 => by rw [ha1,tr_ne z3 z4,ha0,tr_ne z1 z2]
 have rr:∀ z,Con rot a1 z (tn z 2):=fun z => by rw [← rot_rot]; exact (Con.refl.left).left
 -- the strand of p comes back along q's edge
 have hsb:=st_bij hw
 have fo:st d o = o:=by unfold st; rw [he,tn_tn]; exact tn_four o
 have fo2:st d (tn o 2) = tn o 2:=by unfold st; rw [hmo2]
 obtain ⟨k,kp,ke,kl⟩:=least_back hsb (x := p) hp
 have run:∀ j,j < k → Con rot a1 p (it (st d) j p):=by
  intro j
  induction j with
  | zero => intro _; exact .refl
  | succ j ih =>
    intro hj
    have h1:=ih (by omega)
    have hz:=hsb.it j p hp
    obtain ⟨z,ez⟩:∃ z,z = it (st d) j p := ⟨_,rfl⟩
    show Con rot a1 p (st d (it (st d) j p))
    rw [← ez] at h1 hz ⊢
    have hfix:∀ w,dart d w → st d w = w → z ≠ w → True:=fun _ _ _ _ => trivial
    have zo:z ≠ o:=fun e => by
     have e2:it (st d) j p = it (st d) j o:=by
      rw [← ez,e]
      have:∀ i,it (st d) i o = o:=fun i => by
       induction i with
       | zero => rfl
       | succ i ih => show st d (it (st d) i o) = o; rw [ih,fo]
      exact (this j).symm
     exact po (hsb.it_inj j p o hp ho e2)
    have zo2:z ≠ tn o 2:=fun e => by
     have e2:it (st d) j p = it (st d) j (tn o 2):=by
      rw [← ez,e]
      have:∀ i,it (st d) i (tn o 2) = tn o 2:=fun i => by
       induction i with
       | zero => rfl
       | succ i ih => show st d (it (st d) i (tn o 2)) = tn o 2; rw [ih,fo2]
      exact (this j).symm
     exact po2 (hsb.it_inj j p _ hp ho2 e2)
    have zq:z ≠ q:=fun e => by
     have:=out_it hw hp j
     rw [← ez,e,hop,hoq] at this
     exact absurd this (by decide)
    have zy:z ≠ y:=fun e => by
     apply kl (j + 1) (by omega) hj
     show st d (it (st d) j p) = p
     rw [← ez,e]
     unfold st
     rw [hyq,← hqp]
    have e3:a1 z = d.m z:=a1z z zo zo2 zq zy
    have h2:Con rot a1 p (d.m z):=by rw [← e3]; exact h1.right
    exact h2.trans (rr (d.m z))
 have hlast:it (st d) (k - 1) p = y:=by
  have e:st d (it (st d) (k - 1) p) = p:=by
   have:it (st d) (k - 1 + 1) p = p:=by rw [show k - 1 + 1 = k by omega]; exact ke
   exact this
  have hz:=hsb.it (k - 1) p hp
  have e2:st d y = p:=by unfold st; rw [hyq,← hqp]
  exact hsb.inj _ _ hz hyl (e.trans e2.symm)
 have cpy:Con rot a1 p y:=by have := run (k - 1) (by omega); rwa [hlast] at this
 have cqy:Con rot a1 q y:=by
  have:=rr q
  rw [← hqp] at this
  exact this.trans cpy
 have hn:¬ Orb (phi rot a0) q y:=by
  rw [← a1e,phi_tr]
  exact d1.pb.part hq hyl qy (k1 cqy)
 have coo:Con rot a0 o (tn o 2):=by rw [← rot_rot]; exact (Con.refl.left).left
 have ooo:=k0 coo
 have py:phi rot a0 y = rot q:=by unfold phi; rw [a0y]
 have po':phi rot a0 o = rot o:=by unfold phi; rw [c2]
 have po2':phi rot a0 (tn o 2) = rot (tn o 2):=by unfold phi; rw [c3]
 have sym:=fun {x y} (hx:dart d x) (e:Orb (phi rot a0) x y) => c1.pb.symm hx e
 rcases hcase with e | e
 ·-- q = tn o 1: o2 goes to q,y goes to o
  have s1:Orb (phi rot a0) (tn o 2) q:=by
   have:=Orb.step (phi rot a0) (tn o 2)
   rw [po2',show rot (tn o 2) = q by rw [e]; unfold rot; rw [tn_tn]; unfold tn; omega] at this
   exact this
  have s2:Orb (phi rot a0) y o:=by
   have:=Orb.step (phi rot a0) y
   rw [py,show rot q = o by rw [e]; unfold rot; rw [tn_tn]; exact tn_four o] at this
   exact this
  exact hn (sym hyl (s2.trans (ooo.trans s1)))
 ·have s1 : Orb (phi rot a0) o q := by
   have:=Orb.step (phi rot a0) o
   rw [po',show rot o = q by rw [e]; rfl] at this
   exact this
  have s2:Orb (phi rot a0) y (tn o 2):=by
   have:=Orb.step (phi rot a0) y
   rw [py,show rot q = tn o 2 by rw [e]; unfold rot; rw [tn_tn]; unfold tn; omega] at this
   exact this
  exact hn (sym hyl (s2.trans ((sym ho ooo).trans s1)))
end Go.Proofs.Ytghdiolnonejaaa.Pl
end
section
namespace Go.Proofs.Ytghdiolnonejaaa.Pl
variable {d:Dg}
theorem tn_ne {h j k:Nat} (e:j % 4 ≠ k % 4):tn h j ≠ tn h k := by unfold tn; omega
theorem dg_m {d:Dg} (hd:Wf d) {h:Nat} (hh:h < 4 * d.n):d.mt.getD h 0 = d.m h := by
 unfold Dg.m
 have:=hd.len
 rw [List.getD_eq_getElem?_getD,List.getD_eq_getElem?_getD,List.getElem?_eq_getElem (by omega)]
 rfl
theorem kink_four (hd:Valid d) {o:Nat} (ho:o < 4 * d.n) (hk:d.m o / 4 = o / 4):d.m o = tn o 1 ∨ d.m o = tn o 3 := by
 have h1:=no_opp hd ho
 have h2:=(Valid.iff.1 hd).1.ne o ho
 unfold tn at h1 ⊢
 omega
theorem kink_byp (hd:Valid d) {o:Nat} (ho:o < 4 * d.n) (hk:d.m o / 4 = o / 4) (hn:d.m (tn o 2) ≠ tn (d.m o) 2) :
 Hm (4 * d.n) (dart d) rot (byp d.m (tn (d.m o) 2) (tn o 2)) ∧ Flat (dart d) rot (byp d.m (tn (d.m o) 2) (tn o 2)) := by
 have hv:=Valid.iff.1 hd
 have hw:=hv.1
 have hi:=hw.lt o ho
 have hA:tn o 2 < 4 * d.n:=tn_lt ho
 have hB:tn (d.m o) 2 < 4 * d.n:=tn_lt hi
 have hBA:tn (d.m o) 2 ≠ tn o 2:=fun e => hw.ne o ho (tn_inj e)
 have hmBA:d.m (tn (d.m o) 2) ≠ tn o 2:=fun e => hn (by rw [← e,hw.inv _ hB])
 obtain ⟨c0,c1,c2,c3,c4,c5,c6,c7⟩:=cut2_hm hw.hm hB hA hBA (hw.ne _ hB) (hw.ne _ hA) hmBA
 refine byp_flat hw.hm hB hA hBA (hw.ne _ hB) (hw.ne _ hA) hmBA ?_ hv.2
 rcases kink_four hd ho hk with e | e
 ·-- B's next is A
  have s1:=Orb.step (phi rot (cut2 d.m (tn (d.m o) 2) (tn o 2))) (tn (d.m o) 2)
  rw [show phi rot (cut2 d.m (tn (d.m o) 2) (tn o 2)) (tn (d.m o) 2) = tn o 2 by
   unfold phi; rw [c1,e]; unfold rot; rw [tn_tn,tn_tn]; unfold tn; omega] at s1
  exact s1
 ·have s1:=Orb.step (phi rot (cut2 d.m (tn (d.m o) 2) (tn o 2))) (tn (d.m o) 2)
  rw [show phi rot (cut2 d.m (tn (d.m o) 2) (tn o 2)) (tn (d.m o) 2) = o by
   unfold phi; rw [c1,e]; unfold rot; rw [tn_tn,tn_tn]; unfold tn; omega] at s1
  have n1:o ≠ tn (d.m o) 2:=by rw [e,tn_tn]; unfold tn; omega
  have n2:o ≠ tn o 2:=by unfold tn; omega
  have n3:o ≠ d.m (tn (d.m o) 2):=fun e2 => by
   have:d.m o = tn (d.m o) 2:=by have h := hw.inv _ hB; rw [← e2] at h; exact h
   unfold tn at this; omega
  have n4:o ≠ d.m (tn o 2):=fun e2 => by
   have:d.m o = tn o 2:=by have h := hw.inv _ hA; rw [← e2] at h; exact h
   exact no_opp hd ho this
  have s2:=Orb.step (phi rot (cut2 d.m (tn (d.m o) 2) (tn o 2))) o
  rw [show phi rot (cut2 d.m (tn (d.m o) 2) (tn o 2)) o = tn o 2 by
   unfold phi; rw [cut2_at _ _ n1 n2 n3 n4,e]; unfold rot; rw [tn_tn]; unfold tn; omega] at s2
  exact s1.trans s2
theorem kink_rs (hd:Valid d) {o:Nat} (ho:o < 4 * d.n) (hk:d.m o / 4 = o / 4) (hn:d.m (tn o 2) ≠ tn (d.m o) 2) {mt:List Nat} {lp:Nat} (hl:lp ≤ 64)
 (hmt:∀ h,h < 4 * d.n → mt.getD h 0 = if h = d.m (tn o 2) then d.m (tn (d.m o) 2) else if h = d.m (tn (d.m o) 2) then d.m (tn o 2) else d.m h) :
 Rs d [o / 4] mt lp (byp d.m (tn (d.m o) 2) (tn o 2)) := by
 have hw:=(Valid.iff.1 hd).1
 have hi:=hw.lt o ho
 have hA:tn o 2 < 4 * d.n:=tn_lt ho
 have hB:tn (d.m o) 2 < 4 * d.n:=tn_lt hi
 have hBA:tn (d.m o) 2 ≠ tn o 2:=fun e => hw.ne o ho (tn_inj e)
 have hmBA:d.m (tn (d.m o) 2) ≠ tn o 2:=fun e => hn (by rw [← e,hw.inv _ hB])
 obtain ⟨b1,b2,b3,b4,b5⟩:=byp_at hw.hm hB hA hBA (hw.ne _ hB) (hw.ne _ hA) hmBA
 have q1:tn o 2 / 4 = o / 4:=tn_div o 2
 have q2:tn (d.m o) 2 / 4 = o / 4:=by rw [tn_div,hk]
 have four:=kink_four hd ho hk
 have inv:=hw.inv o ho
 -- the mates of A and B lie elsewhere
 have uA:d.m (tn o 2) / 4 ≠ o / 4:=fun e => by
  have h1:d.m (tn o 2) = o ∨ d.m (tn o 2) = d.m o ∨ d.m (tn o 2) = tn o 2 ∨ d.m (tn o 2) = tn (d.m o) 2:=by rcases four with h | h <;> rw [h] <;> unfold tn at * <;> omega
  rcases h1 with h | h | h | h
  ·have:tn o 2 = d.m o:=by have h2 := hw.inv _ hA; rw [h] at h2; exact h2.symm
   exact no_opp hd ho this.symm
  ·have:=hw.bij.inj _ _ hA ho h; unfold tn at this; omega
  ·exact hw.ne _ hA h
  ·exact hn h
 have uB:d.m (tn (d.m o) 2) / 4 ≠ o / 4:=fun e => by
  have h1:d.m (tn (d.m o) 2) = o ∨ d.m (tn (d.m o) 2) = d.m o ∨ d.m (tn (d.m o) 2) = tn o 2 ∨ d.m (tn (d.m o) 2) = tn (d.m o) 2:=by rcases four with h | h <;> rw [h] at e ⊢ <;> unfold tn at * <;> omega
  rcases h1 with h | h | h | h
  ·have:tn (d.m o) 2 = d.m o:=by have h2 := hw.inv _ hB; rw [h] at h2; exact h2.symm
   unfold tn at this; omega
  ·have:=hw.bij.inj _ _ hB ho h
   exact no_opp hd hi (by rw [inv]; exact this.symm)
  ·exact hmBA h
  ·exact hw.ne _ hB h
 refine ⟨by simp,few_one _,(kink_byp hd ho hk hn).1,fun h hg => ?_,fun h hs => ?_,fun h hs => ?_,hl⟩
 ·have hc:h / 4 = o / 4:=by simpa using hg.2
  have h1:h = o ∨ h = d.m o ∨ h = tn o 2 ∨ h = tn (d.m o) 2:=by rcases four with h | h <;> rw [h] <;> unfold tn at * <;> omega
  have t1:o ≠ tn (d.m o) 2:=by rcases four with h | h <;> rw [h,tn_tn] <;> (unfold tn; omega)
  have t2:o ≠ tn o 2:=by unfold tn; omega
  have t3:d.m o ≠ tn (d.m o) 2:=by unfold tn; omega
  have t4:d.m o ≠ tn o 2:=no_opp hd ho
  rcases h1 with rfl | rfl | rfl | rfl
  ·rw [b5 h t1 t2 (fun e => uB (by rw [← e])) (fun e => uA (by rw [← e]))]; simpa using hk
  ·rw [b5 _ t3 t4 (fun e => uB (by rw [← e,hk])) (fun e => uA (by rw [← e,hk])),inv]; simp
  ·rw [b2]; simpa using q1
  ·rw [b1]; simpa using q2
 ·have hc:h / 4 ≠ o / 4:=by simpa using hs.2
  rw [hmt h hs.1]
  by_cases e1:h = d.m (tn o 2)
  ·rw [if_pos e1,e1,b4]
  ·rw [if_neg e1]
   by_cases e2:h = d.m (tn (d.m o) 2)
   ·rw [if_pos e2,e2,b3]
   ·rw [if_neg e2,b5 h (fun e => hc (by rw [e,q2])) (fun e => hc (by rw [e,q1])) e2 e1]
 ·have hc:h / 4 ≠ o / 4:=by simpa using hs.2
  have oA:out d (d.m (tn o 2)) = out d o:=by rw [out_way hw hA,out_opp hw ho,Bool.not_not]
  have oB:out d (d.m (tn (d.m o) 2)) = !out d o:=by rw [out_way hw hB,out_opp hw hi,out_way hw ho,Bool.not_not]
  by_cases e1:h = d.m (tn o 2)
  ·rw [e1,b4,oA,oB]; cases out d o <;> decide
  ·by_cases e2:h = d.m (tn (d.m o) 2)
   ·rw [e2,b3,oA,oB]; cases out d o <;> decide
   ·rw [b5 h (fun e => hc (by rw [e,q2])) (fun e => hc (by rw [e,q1])) e2 e1]
    exact hw.way h hs.1
theorem kink_rs0 (hd:Valid d) {o:Nat} (ho:o < 4 * d.n) (hk:d.m o / 4 = o / 4) (hn:d.m (tn o 2) = tn (d.m o) 2) {lp:Nat} (hl:lp ≤ 64):Rs d [o / 4] d.mt lp d.m := by
 have hw:=(Valid.iff.1 hd).1
 have hi:=hw.lt o ho
 have hA:tn o 2 < 4 * d.n:=tn_lt ho
 have four:=kink_four hd ho hk
 refine ⟨by simp,few_one _,hw.hm,fun h hg => ?_,fun h hs => dg_m hw hs.1,fun h hs => hw.way h hs.1,hl⟩
 have hc:h / 4 = o / 4:=by simpa using hg.2
 have h1:h = o ∨ h = d.m o ∨ h = tn o 2 ∨ h = tn (d.m o) 2:=by rcases four with h | h <;> rw [h] <;> unfold tn at * <;> omega
 rcases h1 with rfl | rfl | rfl | rfl
 ·simpa using hk
 ·rw [hw.inv o ho]; simp
 ·rw [hn,tn_div,hk]; simp
 ·rw [← hn,hw.inv _ hA,tn_div]; simp
theorem kink_valid (hd:Valid d) {o:Nat} (ho:o < 4 * d.n) (hk:d.m o / 4 = o / 4) (hn:d.m (tn o 2) ≠ tn (d.m o) 2) {mt:List Nat} {lp:Nat} (hl:lp ≤ 64)
 (hmt:∀ h,h < 4 * d.n → mt.getD h 0 = if h = d.m (tn o 2) then d.m (tn (d.m o) 2) else if h = d.m (tn (d.m o) 2) then d.m (tn o 2) else d.m h):Valid (rsD d [o / 4] mt lp) :=
 (kink_rs hd ho hk hn hl hmt).valid (Valid.iff.1 hd).1 (kink_byp hd ho hk hn).2
theorem kink_valid0 (hd:Valid d) {o:Nat} (ho:o < 4 * d.n) (hk:d.m o / 4 = o / 4) (hn:d.m (tn o 2) = tn (d.m o) 2) {lp:Nat} (hl:lp ≤ 64):Valid (rsD d [o / 4] d.mt lp) :=
 (kink_rs0 hd ho hk hn hl).valid (Valid.iff.1 hd).1 (Valid.iff.1 hd).2
end Go.Proofs.Ytghdiolnonejaaa.Pl
end
section
namespace Go.Proofs.Ytghdiolnonejaaa.Pl
variable {d:Dg}
def Wy (d:Dg) (b:Nat → Nat):Prop := ∀ z,z < 4 * d.n → b z ≠ z → out d (b z) = !out d z
def cls (b:Nat → Nat) (u v:Nat):Nat → Nat := if b u = v then b else byp b u v
section
variable {h u:Nat}
def lA (d:Dg) (h u:Nat):Nat → Nat := cls d.m (tn h 2) (tn u 2)
def lB (d:Dg) (h u:Nat):Nat → Nat := cls (lA d h u) (tn h 3) (tn u 1)
structure LA (d:Dg) (h u:Nat) (b:Nat → Nat):Prop where
 hm:Hm (4 * d.n) (dart d) rot b
 fl:Flat (dart d) rot b
 wy:Wy d b
 e0:b h = u
 e1:b (tn h 1) = tn u 3
 e2:b u = h
 e3:b (tn u 3) = tn h 1
 c:(b (tn h 2) = tn u 2 ∧ b (tn u 2) = tn h 2) ∨ (b (tn h 2) = tn h 2 ∧ b (tn u 2) = tn u 2)
 nf:∀ z,z < 4 * d.n → z ≠ tn h 2 → z ≠ tn u 2 → b z ≠ z
end
end Go.Proofs.Ytghdiolnonejaaa.Pl
end
section
namespace Go.Proofs.Ytghdiolnonejaaa.Pl
def jl (l:List Nat) (a b:Nat):List Nat := (l.set a b).set b a
theorem jset_getD (l:List Nat) (a v z:Nat) (ha:a < l.length):(l.set a v).getD z 0 = if z = a then v else l.getD z 0 := by
 rw [List.getD_eq_getElem?_getD,List.getD_eq_getElem?_getD,List.getElem?_set]
 by_cases e:a = z
 ·subst e; simp [ha]
 ·rw [if_neg e,if_neg (Ne.symm e)]
theorem jl_at {l:List Nat} {a b:Nat} (ha:a < l.length) (hb:b < l.length) (z:Nat):(jl l a b).getD z 0 = if z = b then a else if z = a then b else l.getD z 0 := by
 unfold jl
 rw [jset_getD _ _ _ _ (by simpa using hb),jset_getD _ _ _ _ ha]
section
variable {M:Nat} {o:Nat → Bool} {l:List Nat} {a:Nat → Nat}
end
end Go.Proofs.Ytghdiolnonejaaa.Pl
end
section
namespace Go.Proofs.Ytghdiolnonejaaa.Pl
section
variable {M:Nat} {o:Nat → Bool} {l:List Nat} {a:Nat → Nat}
end
def pp (n f t:Nat):Nat := 4 * n + (t + f) % 4
section
variable {d d':Dg} {f g:Nat} {fx fy:Bool}
variable {b:Nat → Nat}
end
end Go.Proofs.Ytghdiolnonejaaa.Pl
end
section
namespace Go.Proofs.Ytghdiolnonejaaa.Pl
def op (h:Nat):Nat := tn h 2
theorem op_op (h:Nat):op (op h) = h := by unfold op; rw [tn_tn]; exact tn_four h
theorem op_bij (k:Nat):Bij (4 * k) (fun h => h < 4 * k) op := ⟨fun _ h => h,fun _ h => tn_lt h,fun _ _ _ _ e => tn_inj e⟩
theorem Hm.op {n:Nat} {b:Nat → Nat} (h:Hm (4 * n) (fun h => h < 4 * n) rot b):Hm (4 * n) (fun h => h < 4 * n) Pl.op b := ⟨op_bij n,h.ab,h.inv⟩
theorem Cls.one {S:Nat → Prop} {R:Nat → Nat → Prop} {a:Nat} (hE:Eqv S R) (ha:S a) (h:∀ x,S x → R a x):Cls S R 1 :=
 ⟨fun _ => 0,fun _ _ => Nat.zero_lt_one,fun x y hx hy => ⟨fun _ => hE.trans _ _ _ hx ha hy (hE.symm _ _ ha hx (h x hx)) (h y hy),fun _ => rfl⟩,fun i hi => ⟨a,ha,(by omega:(0:Nat) = i)⟩⟩
def grp (h u z:Nat):Prop := z = h ∨ z = u ∨ z = tn h 2 ∨ z = tn u 2
structure Gp (n:Nat) (b:Nat → Nat) (h u:Nat):Prop where
 hm:Hm (4 * n) (fun h => h < 4 * n) rot b
 hh:h < 4 * n
 hu:u < 4 * n
 e0:b h = u
 n1:h ≠ u
 n2:h ≠ tn u 2
 n3:u ≠ tn h 2
section
variable {n:Nat} {b:Nat → Nat} {h u:Nat}
theorem Gp.e2 (G:Gp n b h u):b u = h := by rw [← G.e0,G.hm.inv _ G.hh]
theorem Gp.mem (G:Gp n b h u) {z:Nat} (hz:grp h u z):z < 4 * n := by
 rcases hz with rfl | rfl | rfl | rfl
 ·exact G.hh
 ·exact G.hu
 ·exact tn_lt G.hh
 ·exact tn_lt G.hu
theorem Gp.nAB (G:Gp n b h u):tn h 2 ≠ tn u 2 := fun e => G.n1 (tn_inj e)
theorem tt2 (h:Nat):tn (tn h 2) 2 = h := op_op h
theorem Gp.free (G:Gp n b h u) (fA:b (tn h 2) = tn h 2) (fB:b (tn u 2) = tn u 2) :
 Cls (grp h u) (Orb (phi op b)) 1 ∧ (∀ z,grp h u z → grp h u (phi op b z)) ∧ Orb (phi op b) (tn h 2) (tn u 2) := by
 have p1:phi op b h = tn u 2:=by show tn (b h) 2 = _; rw [G.e0]
 have p2:phi op b u = tn h 2:=by show tn (b u) 2 = _; rw [G.e2]
 have p3:phi op b (tn h 2) = h:=by show tn (b (tn h 2)) 2 = _; rw [fA,tt2]
 have p4:phi op b (tn u 2) = u:=by show tn (b (tn u 2)) 2 = _; rw [fB,tt2]
 have cl:∀ z,grp h u z → grp h u (phi op b z):=by
  rintro z (rfl | rfl | rfl | rfl)
  ·rw [p1]; exact .inr (.inr (.inr rfl))
  ·rw [p2]; exact .inr (.inr (.inl rfl))
  ·rw [p3]; exact .inl rfl
  ·rw [p4]; exact .inr (.inl rfl)
 have hE:=(G.hm.op).pb.eqv
 have s1:Orb (phi op b) h (tn u 2):=⟨1,p1⟩
 have s2:Orb (phi op b) h u:=s1.trans ⟨1,p4⟩
 have s3:Orb (phi op b) h (tn h 2):=s2.trans ⟨1,p2⟩
 refine ⟨Cls.one ⟨fun x hx => hE.refl x (G.mem hx),fun x y hx hy => hE.symm x y (G.mem hx) (G.mem hy),fun x y z hx hy hz => hE.trans x y z (G.mem hx) (G.mem hy) (G.mem hz)⟩ (a := h) (.inl rfl) ?_,cl,(show Orb (phi op b) (tn h 2) h from ⟨1,p3⟩).trans s1⟩
 rintro x (rfl | rfl | rfl | rfl)
 ·exact Orb.refl _ _
 ·exact s2
 ·exact s3
 ·exact s1
theorem Gp.closed (G:Gp n b h u) (fA:b (tn h 2) = tn u 2):Cls (grp h u) (Orb (phi op b)) 2 ∧ ∀ z,grp h u z → grp h u (phi op b z) := by
 have fB:b (tn u 2) = tn h 2:=by rw [← fA,G.hm.inv _ (tn_lt G.hh)]
 have p1:phi op b h = tn u 2:=by show tn (b h) 2 = _; rw [G.e0]
 have p2:phi op b u = tn h 2:=by show tn (b u) 2 = _; rw [G.e2]
 have p3:phi op b (tn h 2) = u:=by show tn (b (tn h 2)) 2 = _; rw [fA,tt2]
 have p4:phi op b (tn u 2) = h:=by show tn (b (tn u 2)) 2 = _; rw [fB,tt2]
 have hE:=(G.hm.op).pb.eqv
 have cl:∀ z,grp h u z → grp h u (phi op b z):=by
  rintro z (rfl | rfl | rfl | rfl)
  ·rw [p1]; exact .inr (.inr (.inr rfl))
  ·rw [p2]; exact .inr (.inr (.inl rfl))
  ·rw [p3]; exact .inr (.inl rfl)
  ·rw [p4]; exact .inl rfl
 refine ⟨?_,cl⟩
 have c1:Cls (fun z => z = h ∨ z = tn u 2) (Orb (phi op b)) 1:=by
  refine Cls.one ⟨fun x hx => Orb.refl _ _,fun x y hx hy e => hE.symm x y ?_ ?_ e,fun x y z _ _ _ e e' => e.trans e'⟩ (a := h) (.inl rfl) ?_
  ·rcases hx with rfl | rfl; exact G.hh; exact tn_lt G.hu
  ·rcases hy with rfl | rfl; exact G.hh; exact tn_lt G.hu
  ·rintro x (rfl | rfl); exact Orb.refl _ _; exact ⟨1,p1⟩
 have c2:Cls (fun z => z = u ∨ z = tn h 2) (Orb (phi op b)) 1:=by
  refine Cls.one ⟨fun x hx => Orb.refl _ _,fun x y hx hy e => hE.symm x y ?_ ?_ e,fun x y z _ _ _ e e' => e.trans e'⟩ (a := u) (.inl rfl) ?_
  ·rcases hx with rfl | rfl; exact G.hu; exact tn_lt G.hh
  ·rcases hy with rfl | rfl; exact G.hu; exact tn_lt G.hh
  ·rintro x (rfl | rfl); exact Orb.refl _ _; exact ⟨1,p2⟩
 have k1:∀ z,(z = h ∨ z = tn u 2) → (phi op b z = h ∨ phi op b z = tn u 2):=by rintro z (rfl | rfl); exact .inr p1; exact .inl p4
 have k2:∀ z,(z = u ∨ z = tn h 2) → (phi op b z = u ∨ phi op b z = tn h 2):=by rintro z (rfl | rfl); exact .inr p2; exact .inl p3
 have dis:∀ x,(x = h ∨ x = tn u 2) → ¬ (x = u ∨ x = tn h 2):=by
  rintro x (rfl | rfl) (e | e)
  ·exact G.n1 e
  ·unfold tn at e; omega
  ·unfold tn at e; omega
  ·exact G.nAB e.symm
 have:=Cls.add c1 c2 (fun x y hx hy e => dis _ (orb_closed (P := fun z => z = h ∨ z = tn u 2) k1 hx e) hy) (fun x y hx hy e => dis _ hx (orb_closed (P := fun z => z = u ∨ z = tn h 2) k2 hy e)) dis
 refine Cls.congr this (fun x => ?_) (fun _ _ _ _ => Iff.rfl)
 unfold grp
 constructor
 ·rintro ((e | e) | (e | e))
  ·exact .inl e
  ·exact .inr (.inr (.inr e))
  ·exact .inr (.inl e)
  ·exact .inr (.inr (.inl e))
 ·rintro (e | e | e | e)
  ·exact .inl (.inl e)
  ·exact .inr (.inl e)
  ·exact .inr (.inr e)
  ·exact .inl (.inr e)
end
section
variable {N:Nat} {S:Nat → Prop} {r a:Nat → Nat}
theorem byp_cls (h:Hm N S r a) {u v:Nat} (hu:S u) (hv:S v) (huv:u ≠ v) (nu:a u ≠ u) (nv:a v ≠ v) (nuv:a u ≠ v) (ho:Orb (phi r (cut2 a u v)) u v) (nx:¬ Orb (phi r (cut2 a u v)) u (a u)) (ny:¬ Orb (phi r (cut2 a u v)) u (a v)) {k:Nat} (hk:Cls S (Orb (phi r a)) k) :
 Cls S (Orb (phi r (byp a u v))) (k + 1) := by
 obtain ⟨c0,c1,c2,c3,c4,c5,c6,c7⟩:=cut2_hm h hu hv huv nu nv nuv
 have hx:=h.ab.maps u hu
 have hy:=h.ab.maps v hv
 obtain ⟨c,hc⟩:∃ c,c = cut2 a u v := ⟨_,rfl⟩
 unfold byp
 rw [← hc] at ho nx ny c0 c1 c2 c3 c4 c5
 rw [← hc]
 obtain ⟨k0,hk0⟩:=Cls.exists_ N S _ c0.pb.lt c0.pb.eqv
 have hpos:=hk0.pos hu
 obtain ⟨k1,rfl⟩:∃ k1,k0 = k1 + 1 := ⟨k0 - 1,by omega⟩
 have e1:=Cls.merge c0.pb hu hx nx hk0
 have hb1:=c0.pb.tr hu hx
 have sym:=fun {x y} (hx:S x) (e:Orb (phi r c) x y) => c0.pb.symm hx e
 have mg:=fun {x y} (hx':S x) => c0.pb.merge hu hx nx (x := x) (y := y) hx'
 have nvu:=sym hu ho
 rw [phi_tr]
 have hphi:phi r a = tr (tr (phi r c) u (a u)) v (a v):=by
  have:phi r a = phi r (tr (tr c u (a u)) v (a v)):=by rw [← c5]
  rw [this,phi_tr,phi_tr]
 rw [hphi] at hk
 by_cases hxy:Orb (phi r c) (a u) (a v)
 ·-- parted,twice
  have hvy:Orb (tr (phi r c) u (a u)) v (a v):=(mg hv).2 (.inr (.inl ⟨nvu,hxy⟩))
  have e2:=Cls.part hb1 hv hy (Ne.symm nv) hvy e1
  have e3:=Cls.part c0.pb hx hy c6 hxy hk0
  rw [hk.unique e2]
  exact e3
 ·have nvy : ¬ Orb (tr (phi r c) u (a u)) v (a v) := fun e => by
   rcases (mg hv).1 e with e | ⟨_,e⟩ | ⟨e,_⟩
   ·exact ny (ho.trans e)
   ·exact hxy e
   ·exact nx (ho.trans e)
  have hp1:=e1.pos hv
  obtain ⟨k2,rfl⟩:∃ k2,k1 = k2 + 1 := ⟨k1 - 1,by omega⟩
  have e2:=Cls.merge hb1 hv hy nvy e1
  have e3:=Cls.merge c0.pb hx hy hxy hk0
  rw [hk.unique e2]
  exact e3
end
section
variable {n:Nat} {b:Nat → Nat} {h u:Nat}
theorem Gp.cls (G:Gp n b h u) (nA:b (tn h 2) ≠ tn h 2) (nB:b (tn u 2) ≠ tn u 2) {k:Nat} (hk:Cls (fun h => h < 4 * n) (Orb (phi op b)) k) :
 Cls (fun h => h < 4 * n) (Orb (phi op (Pl.cls b (tn h 2) (tn u 2)))) (k + if b (tn h 2) = tn u 2 then 0 else 1) := by
 unfold Pl.cls
 by_cases hc:b (tn h 2) = tn u 2
 ·rw [if_pos hc,if_pos hc]; exact hk
 rw [if_neg hc,if_neg hc]
 have hA:tn h 2 < 4 * n:=tn_lt G.hh
 have hB:tn u 2 < 4 * n:=tn_lt G.hu
 have m:=G.hm.op
 have e2:=G.e2
 have c0:Hm (4 * n) (fun h => h < 4 * n) rot (cut2 b (tn h 2) (tn u 2)) ∧ _:=cut2_hm G.hm hA hB G.nAB nA nB hc
 obtain ⟨c0,c1,c2,c3,c4,c5,c6,c7⟩:=c0
 have hhA:h ≠ b (tn h 2):=fun e => by have := G.hm.inv _ hA; rw [← e,G.e0] at this; exact G.n3 this
 have hhB:h ≠ b (tn u 2):=fun e => by have := G.hm.inv _ hB; rw [← e,G.e0] at this; unfold tn at this; omega
 have huA:u ≠ b (tn h 2):=fun e => by have := G.hm.inv _ hA; rw [← e,e2] at this; unfold tn at this; omega
 have huB:u ≠ b (tn u 2):=fun e => by have := G.hm.inv _ hB; rw [← e,e2] at this; exact G.n2 this
 have hA0:h ≠ tn h 2:=by unfold tn; omega
 have hu0:u ≠ tn u 2:=by unfold tn; omega
 have G':Gp n (cut2 b (tn h 2) (tn u 2)) h u:=⟨c0,G.hh,G.hu,by rw [cut2_at _ _ hA0 G.n2 hhA hhB,G.e0],G.n1,G.n2,G.n3⟩
 obtain ⟨g1,g2,g3⟩:=G'.free c1 c2
 have no:∀ z,Orb (phi op (cut2 b (tn h 2) (tn u 2))) (tn h 2) z → grp h u z:=fun z e => orb_closed (P := grp h u) g2 (.inr (.inr (.inl rfl))) e
 refine byp_cls m hA hB G.nAB nA nB hc g3 (fun e => ?_) (fun e => ?_) hk
 ·rcases no _ e with e | e | e | e
  ·exact hhA e.symm
  ·exact huA e.symm
  ·exact nA e
  ·exact hc e
 ·rcases no _ e with e | e | e | e
  ·exact hhB e.symm
  ·exact huB e.symm
  ·exact c7 e
  ·exact nB e
end
def Str (d:Dg) (s:Nat):Prop := Cls (fun h => h < 4 * d.n ∧ out d h = true) (Orb (st d)) s
section
variable {d:Dg}
theorem st_phi (d:Dg):st d = phi op d.m := rfl
theorem out_orb (hd:Wf d) {x y:Nat} (hx:x < 4 * d.n) (e:Orb (st d) x y):out d y = out d x := by
 obtain ⟨k,rfl⟩:=e
 exact out_it hd hx k
theorem st_back (hd:Wf d) {x y:Nat} (hx:x < 4 * d.n) (e:Orb (st d) x y):Orb (st d) (d.m y) (d.m x) := by
 obtain ⟨k,rfl⟩:=e
 induction k with
 | zero => exact Orb.refl _ _
 | succ k ih =>
   have hz:=(st_bij hd).it k x hx
   refine Orb.trans ⟨1,?_⟩ ih
   show st d (d.m (st d (it (st d) k x))) = d.m (it (st d) k x)
   unfold st at hz ⊢
   rw [hd.inv _ (tn_lt (hd.lt _ hz)),tt2]
theorem Str.all (hd:Wf d) {s:Nat} (h:Str d s):Cls (dart d) (Orb (st d)) (2 * s) := by
 have h2:Cls (fun h => h < 4 * d.n ∧ out d h = false) (Orb (st d)) s:=by
  refine Cls.map h d.m (fun x hx => ⟨hd.lt x hx.1,by rw [out_way hd hx.1,hx.2]; rfl⟩) (fun y hy => ⟨d.m y,⟨hd.lt y hy.1,by rw [out_way hd hy.1,hy.2]; rfl⟩,hd.inv y hy.1⟩) (fun x y hx hy => ⟨fun e => (st_bij hd).symm (hd.lt _ hy.1) (st_back hd hx.1 e),fun e => ?_⟩)
  have:=st_back hd (hd.lt _ hx.1) e
  rw [hd.inv _ hx.1,hd.inv _ hy.1] at this
  exact (st_bij hd).symm hy.1 this
 have:=Cls.add h h2 (fun x y hx hy e => by have := out_orb hd hx.1 e; rw [hx.2,hy.2] at this; exact absurd this (by decide)) (fun x y hx hy e => by have := out_orb hd hy.1 e; rw [hx.2,hy.2] at this; exact absurd this (by decide)) (fun x hx hy => by rw [hx.2] at hy; exact absurd hy.2 (by decide))
 rw [show 2 * s = s + s by omega]
 refine Cls.congr this (fun x => ?_) (fun _ _ _ _ => Iff.rfl)
 unfold dart
 constructor
 ·rintro (e | e) <;> exact e.1
 ·intro e
  cases ho:out d x with
  | true => exact .inl ⟨e,rfl⟩
  | false => exact .inr ⟨e,rfl⟩
theorem Str.iff (hd:Wf d) {s k:Nat} (h:Str d s) (hk:Cls (dart d) (Orb (st d)) k):k = 2 * s := hk.unique (h.all hd)
theorem Rs.cls {gs:List Nat} {mt:List Nat} {lp:Nat} {b:Nat → Nat} (R:Rs d gs mt lp b) {k g:Nat} (hk:Cls (dart d) (Orb (phi op b)) k) (hg:Cls (gone d gs) (Orb (phi op b)) g) :
 ∃ ks,k = ks + g ∧ Cls (Pl.stay d gs) (Orb (phi op b)) ks ∧ Cls (dart (rsD d gs mt lp)) (Orb (st (rsD d gs mt lp))) ks := by
 have hE:=R.hm.op.pb.eqv
 have s1:∀ x,Pl.stay d gs x → Pl.stay d gs (phi op b x):=fun x hx => tn_stay (R.stay hx)
 have g1:∀ x,gone d gs x → gone d gs (phi op b x):=fun x hx => ⟨tn_lt (R.hm.ab.maps x hx.1),by show tn (b x) 2 / 4 ∈ gs; rw [tn_div]; exact R.cl x hx⟩
 obtain ⟨ks,hks⟩:=Cls.exists_ (4 * d.n) (Pl.stay d gs) (Orb (phi op b)) (fun x hx => hx.1) ⟨fun x hx => Orb.refl _ _,fun x y hx hy e => hE.symm x y hx.1 hy.1 e,fun x y z _ _ _ e e' => e.trans e'⟩
 have ha:=Cls.add hks hg (fun x y hx hy e => (orb_closed (P := Pl.stay d gs) s1 hx e).2 hy.2) (fun x y hx hy e => hx.2 (orb_closed (P := gone d gs) g1 hy e).2) (fun x hx hy => hx.2 hy.2)
 have ha2:Cls (dart d) (Orb (phi op b)) (ks + g):=Cls.congr ha (fun x => ⟨fun h => h.elim (·.1) (·.1),fun h => (Classical.em (x / 4 ∈ gs)).elim (fun e => .inr ⟨h,e⟩) (fun e => .inl ⟨h,e⟩)⟩) (fun _ _ _ _ => Iff.rfl)
 refine ⟨ks,hk.unique ha2,hks,?_⟩
 refine Cls.map hks (shf gs) (fun x hx => shf_lt R.nd R.few mt lp hx) (fun y hy => shf_onto R.nd R.few mt lp hy) (fun x y hx hy => orb_map (S := Pl.stay d gs) (t := shf gs) s1 (fun x hx => ?_) (fun x y hx hy e => shf_inj R.nd R.few hx.2 hy.2 e) hx hy)
 show tn ((rsD d gs mt lp).m (shf gs x)) 2 = shf gs (tn (b x) 2)
 rw [R.m hx,shf_tn R.few]
end
end Go.Proofs.Ytghdiolnonejaaa.Pl
end
section
namespace Go.Proofs.Ytghdiolnonejaaa.Pl
variable {d:Dg}
def Same (d d':Dg):Prop := ∀ s s',Str d s → Str d' s' → s + d.lp = s' + d'.lp
theorem kink_gp (hd:Valid d) {o:Nat} (ho:o < 4 * d.n) (hk:d.m o / 4 = o / 4):Gp d.n d.m o (d.m o) := by
 have hw:=(Valid.iff.1 hd).1
 have hi:=hw.lt o ho
 have four:=kink_four hd ho hk
 exact ⟨hw.hm,ho,hi,rfl,fun e => hw.ne o ho e.symm,fun e => by rcases four with h | h <;> rw [h] at e <;> (unfold tn at e; omega),fun e => no_opp hd ho e⟩
theorem kink_gone (hd:Valid d) {o:Nat} (ho:o < 4 * d.n) (hk:d.m o / 4 = o / 4) (z:Nat):grp o (d.m o) z ↔ gone d [o / 4] z := by
 have four:=kink_four hd ho hk
 unfold grp gone
 rw [List.mem_singleton]
 constructor
 ·rintro (rfl | rfl | rfl | rfl)
  ·exact ⟨ho,rfl⟩
  ·exact ⟨(Valid.iff.1 hd).1.lt _ ho,hk⟩
  ·exact ⟨tn_lt ho,tn_div _ _⟩
  ·exact ⟨tn_lt ((Valid.iff.1 hd).1.lt _ ho),by rw [tn_div,hk]⟩
 ·rintro ⟨_,hc⟩
  rcases four with h | h <;> rw [h] <;> unfold tn at * <;> omega
theorem kink_cls (hd:Valid d) {o:Nat} (ho:o < 4 * d.n) (hk:d.m o / 4 = o / 4) (hn:d.m (tn o 2) ≠ tn (d.m o) 2) {k:Nat} (hk2:Cls (dart d) (Orb (st d)) k) :
 Cls (dart d) (Orb (phi op (byp d.m (tn (d.m o) 2) (tn o 2)))) (k + 1) ∧ Cls (gone d [o / 4]) (Orb (phi op (byp d.m (tn (d.m o) 2) (tn o 2)))) 1 := by
 have hw:=(Valid.iff.1 hd).1
 have hi:=hw.lt o ho
 have hA:tn o 2 < 4 * d.n:=tn_lt ho
 have hB:tn (d.m o) 2 < 4 * d.n:=tn_lt hi
 have hBA:tn (d.m o) 2 ≠ tn o 2:=fun e => hw.ne o ho (tn_inj e)
 have hmBA:d.m (tn (d.m o) 2) ≠ tn o 2:=fun e => hn (by rw [← e,hw.inv _ hB])
 have inv:=hw.inv o ho
 have hmi:d.m (d.m o) / 4 = d.m o / 4:=by rw [inv,hk]
 have G:Gp d.n d.m (d.m o) o:=by have := kink_gp hd hi hmi; rwa [inv] at this
 have h1:=G.cls (hw.ne _ hB) (hw.ne _ hA) hk2
 unfold cls at h1
 rw [if_neg hmBA,if_neg hmBA] at h1
 obtain ⟨b1,b2,b3,b4,b5⟩:=byp_at hw.hm hB hA hBA (hw.ne _ hB) (hw.ne _ hA) hmBA
 obtain ⟨q1,q2⟩:=kink_byp hd ho hk hn
 have R:=kink_rs hd ho hk hn (lp := 0) (by omega) (mt := List.ofFn (n := 4 * d.n) (fun h => if h.1 = d.m (tn o 2) then d.m (tn (d.m o) 2) else if h.1 = d.m (tn (d.m o) 2) then d.m (tn o 2) else d.m h.1)) (fun h hh => by
  rw [List.getD_eq_getElem?_getD,List.getElem?_ofFn,dif_pos hh]; rfl)
 have e0:byp d.m (tn (d.m o) 2) (tn o 2) (d.m o) = o:=by
  have n1:d.m o ≠ tn (d.m o) 2:=by unfold tn; omega
  have n2:d.m o ≠ tn o 2:=no_opp hd ho
  have n3:d.m o ≠ d.m (tn (d.m o) 2):=fun e => by have := hw.bij.inj _ _ ho hB e; rcases kink_four hd ho hk with h | h <;> rw [h] at this <;> (unfold tn at this; omega)
  have n4:d.m o ≠ d.m (tn o 2):=fun e => by have := hw.bij.inj _ _ ho hA e; unfold tn at this; omega
  rw [b5 _ n1 n2 n3 n4,inv]
 have G2:Gp d.n (byp d.m (tn (d.m o) 2) (tn o 2)) (d.m o) o:=⟨q1,hi,ho,e0,G.n1,G.n2,G.n3⟩
 refine ⟨h1,Cls.congr (G2.free b1 b2).1 (fun z => ?_) (fun _ _ _ _ => Iff.rfl)⟩
 rw [← kink_gone hd ho hk z]
 unfold grp
 constructor
 ·rintro (h | h | h | h)
  ·exact .inr (.inl h)
  ·exact .inl h
  ·exact .inr (.inr (.inr h))
  ·exact .inr (.inr (.inl h))
 ·rintro (h | h | h | h)
  ·exact .inr (.inl h)
  ·exact .inl h
  ·exact .inr (.inr (.inr h))
  ·exact .inr (.inr (.inl h))
theorem kink_cls0 (hd:Valid d) {o:Nat} (ho:o < 4 * d.n) (hk:d.m o / 4 = o / 4) (hn:d.m (tn o 2) = tn (d.m o) 2):Cls (gone d [o / 4]) (Orb (phi op d.m)) 2 :=
 Cls.congr ((kink_gp hd ho hk).closed hn).1 (kink_gone hd ho hk) (fun _ _ _ _ => Iff.rfl)
theorem kink_same (hd:Valid d) {o:Nat} (ho:o < 4 * d.n) (hk:d.m o / 4 = o / 4) (hn:d.m (tn o 2) ≠ tn (d.m o) 2) {mt:List Nat} {lp:Nat} (hl:lp ≤ 64) (hlp:lp = d.lp)
 (hmt:∀ h,h < 4 * d.n → mt.getD h 0 = if h = d.m (tn o 2) then d.m (tn (d.m o) 2) else if h = d.m (tn (d.m o) 2) then d.m (tn o 2) else d.m h):Same d (rsD d [o / 4] mt lp) := by
 intro s s' h h'
 have hw:=(Valid.iff.1 hd).1
 have R:=kink_rs hd ho hk hn hl hmt
 obtain ⟨c1,c2⟩:=kink_cls hd ho hk hn (h.all hw)
 obtain ⟨ks,e1,_,e2⟩:=R.cls c1 c2
 have:=h'.iff (R.wf hw) e2
 show s + d.lp = s' + lp
 omega
theorem kink_same0 (hd:Valid d) {o:Nat} (ho:o < 4 * d.n) (hk:d.m o / 4 = o / 4) (hn:d.m (tn o 2) = tn (d.m o) 2) {lp:Nat} (hl:lp ≤ 64) (hlp:lp = d.lp + 1):Same d (rsD d [o / 4] d.mt lp) := by
 intro s s' h h'
 have hw:=(Valid.iff.1 hd).1
 have R:=kink_rs0 hd ho hk hn hl
 obtain ⟨ks,e1,_,e2⟩:=R.cls (h.all hw) (kink_cls0 hd ho hk hn)
 have:=h'.iff (R.wf hw) e2
 show s + d.lp = s' + lp
 omega
theorem in_same {d':Dg} (hd:Wf d) (hd':Wf d') {gs mt:List Nat} {lp:Nat} {b:Nat → Nat} (R:Rs d' gs mt lp b) (hs:∀ z,stay d' gs z ↔ z < 4 * d.n) (hb:∀ z,z < 4 * d.n → b z = d.m z) {k g s:Nat}
 (hk:Cls (dart d') (Orb (phi op b)) k) (hg:Cls (gone d' gs) (Orb (phi op b)) g) (h:Str d s):k = 2 * s + g := by
 obtain ⟨ks,e1,e2,_⟩:=R.cls hk hg
 have:Cls (dart d) (Orb (st d)) ks:=Cls.congr e2 hs fun x y hx hy => by
  rw [st_phi]
  refine Orb.congr (S := fun z => z < 4 * d.n) (fun z hz => ?_) (fun z hz => ?_) ((hs x).1 hx)
  ·show tn (b z) 2 < 4 * d.n; rw [hb z hz]; exact tn_lt (hd.lt z hz)
  ·show tn (b z) 2 = tn (d.m z) 2; rw [hb z hz]
 have:=h.iff hd this
 omega
section
variable {h u:Nat}
end
end Go.Proofs.Ytghdiolnonejaaa.Pl
end
section
namespace Go.Proofs.Ytghdiolnonejaaa.Pl
variable {d d':Dg}
theorem Kq.opp {n i0 o0 i1 o1:Nat} (k:Kq n i0 o0 i1 o1):tn o0 2 = i0 ∧ tn i1 2 = o1 ∧ o0 / 4 = n ∧ i1 / 4 = n := by
 have:=k.bd
 unfold Kq at k
 unfold tn
 omega
theorem kd_stay (n:d'.n = d.n + 1) (z:Nat):stay d' [d.n] z ↔ z < 4 * d.n := by
 unfold stay
 rw [List.mem_singleton,n]
 omega
theorem Kd.same0 (hd:Valid d) (hd':Valid d') {i0 o0 i1 o1:Nat} (K:Kd d d' i0 o0 i1 o1) (mo:∀ h,h < 4 * d.n → d'.m h = d.m h) (m4:d'.m i0 = o1) (hlp:d.lp = d'.lp + 1):Same d d' := by
 intro s s' h h'
 have hw:=(Valid.iff.1 hd).1
 have hw':=(Valid.iff.1 hd').1
 obtain ⟨q1,q2,q3,q4⟩:=K.k.opp
 obtain ⟨a1,a2,a3,a4,n1,n2,n3,n4,n5,n6⟩:=K.k.bd
 have ho:o0 < 4 * d'.n:=by rw [K.n]; exact a2.2
 have hk:d'.m o0 / 4 = o0 / 4:=by rw [K.m1,q4,q3]
 have hn:d'.m (tn o0 2) = tn (d'.m o0) 2:=by rw [q1,m4,K.m1,q2]
 have R:=kink_rs0 hd' ho hk hn (lp := 0) (by omega)
 have hg:=kink_cls0 hd' ho hk hn
 rw [q3] at R hg
 have:=in_same hw hw' R (kd_stay K.n) mo (h'.all hw') hg h
 omega
theorem Kd.same (hd:Valid d) (hd':Valid d') {i0 o0 i1 o1 x:Nat} (K:Kd d d' i0 o0 i1 o1) (hx:x < 4 * d.n) (mo:∀ h,h < 4 * d.n → h ≠ x → h ≠ d.m x → d'.m h = d.m h)
 (m3:d'.m o1 = d.m x) (m4:d'.m (d.m x) = o1) (m5:d'.m x = i0) (m6:d'.m i0 = x) (hlp:d.lp = d'.lp):Same d d' := by
 intro s s' h h'
 have hw:=(Valid.iff.1 hd).1
 have hw':=(Valid.iff.1 hd').1
 obtain ⟨q1,q2,q3,q4⟩:=K.k.opp
 obtain ⟨a1,a2,a3,a4,n1,n2,n3,n4,n5,n6⟩:=K.k.bd
 have ho:o0 < 4 * d'.n:=by rw [K.n]; exact a2.2
 have hi0:i0 < 4 * d'.n:=by rw [K.n]; exact a1.2
 have ho1:o1 < 4 * d'.n:=by rw [K.n]; exact a4.2
 have hk:d'.m o0 / 4 = o0 / 4:=by rw [K.m1,q4,q3]
 have hn:d'.m (tn o0 2) ≠ tn (d'.m o0) 2:=by rw [q1,m6,K.m1,q2]; omega
 obtain ⟨c1,c2⟩:=kink_cls hd' ho hk hn (h'.all hw')
 have R:=kink_rs hd' ho hk hn (lp := 0) (by omega) (mt := List.ofFn (n := 4 * d'.n) (fun h => if h.1 = d'.m (tn o0 2) then d'.m (tn (d'.m o0) 2) else if h.1 = d'.m (tn (d'.m o0) 2) then d'.m (tn o0 2) else d'.m h.1)) (fun h hh => by
  rw [List.getD_eq_getElem?_getD,List.getElem?_ofFn,dif_pos hh]; rfl)
 have hnb:d'.m o1 ≠ i0:=by rw [m3]; have := hw.lt x hx; omega
 obtain ⟨b1,b2,b3,b4,b5⟩:=byp_at hw'.hm ho1 hi0 (Ne.symm n3) (hw'.ne _ ho1) (hw'.ne _ hi0) hnb
 rw [K.m1,q1,q2] at c1
 rw [K.m1,q1,q2,q3] at c2 R
 have:=in_same hw hw' R (kd_stay K.n) (fun z hz => ?_) c1 c2 h
 ·omega
 ·by_cases z1:z = x
  ·rw [z1]; rw [m6] at b4; rw [b4,m3]
  ·by_cases z2:z = d.m x
   ·rw [z2]; rw [m3] at b3; rw [b3,m6,hw.inv x hx]
   ·rw [b5 z (by omega) (by omega) (by rw [m3]; exact z2) (by rw [m6]; exact z1),mo z hz z1 z2]
end Go.Proofs.Ytghdiolnonejaaa.Pl
end
section
namespace Go.Proofs.Ytghdiolnonejaaa
open Go.RowKit
theorem hide {p:Prop} (h:p):Hid p := h
theorem ret_bool {a b:Bool} (h:a = b):Ending.returned (.bool a) = Ending.returned (.bool b) := by rw [h]
theorem ret_int {k:IntKind} {a b:Int} (h:a = b):Ending.returned (.int k a) = Ending.returned (.int k b) := by rw [h]
theorem lt_of_cell {w:World} {p:Addr} {v:Value} (h:w.cell? p = some v):p.block < w.heap.size := by
 rcases Nat.lt_or_ge p.block w.heap.size with h1 | h1
 ·exact h1
 ·unfold World.cell? at h
  rw [Array.getElem?_eq_none h1] at h
  cases h
theorem cell_below {w w':World} {p:Addr} {v:Value} (h:w.cell? p = some v) (hb:Below w.heap.size w w'):w'.cell? p = some v :=
 (hb.cell (lt_of_cell h)).trans h
def RowAt (w:World) (A:Option Addr) (n:Nat) (xs:List Value):Prop :=
 xs.length = n ∧ (0 < n → ∃ b o,A = some ⟨b,o,none⟩ ∧ ∀ (j:Nat) u,xs[j]? = some u → w.cell? ⟨b,o + j,none⟩ = some u)
theorem RowAt.nil (w:World):RowAt w none 0 [] := ⟨rfl,fun h => absurd h (by omega)⟩
theorem RowAt.keep {w w':World} {A:Option Addr} {n:Nat} {xs:List Value} (h:RowAt w A n xs) (hb:Below w.heap.size w w'):RowAt w' A n xs :=
 ⟨h.1,fun hn => let ⟨b,o,e,hc⟩:=h.2 hn; ⟨b,o,e,fun j u hu => cell_below (hc j u hu) hb⟩⟩
theorem RowAt.at_ {w:World} {A:Option Addr} {n k:Nat} {xs:List Value} (h:RowAt w A n xs) (hk:k < n) :
 ∃ b o,A = some ⟨b,o,none⟩ ∧ w.cell? ⟨b,o + k,none⟩ = some (xs[k]'(by have := h.1; omega)) := by
 obtain ⟨b,o,e,hc⟩:=h.2 (by omega)
 have:=h.1
 exact ⟨b,o,e,hc k _ (List.getElem?_eq_getElem (by omega))⟩
def RowT (w:World) (t:TypeId) (A:Option Addr) (n:Nat) (xs:List Value):Prop :=
 xs.length = n ∧ (0 < n → ∃ b o cs fr,A = some ⟨b,o,none⟩ ∧ w.heap[b]? = some (.cells cs t fr) ∧ ∀ (j:Nat) u,xs[j]? = some u → cs[o + j]? = some u)
theorem RowT.row {w:World} {t:TypeId} {A:Option Addr} {n:Nat} {xs:List Value} (h:RowT w t A n xs):RowAt w A n xs :=
 ⟨h.1,fun hn => let ⟨b,o,cs,fr,e,hb,hc⟩:=h.2 hn; ⟨b,o,e,fun j u hu => by rw [cell_of_row w b _ cs t fr hb]; exact hc j u hu⟩⟩
theorem RowT.keep {w w':World} {t:TypeId} {A:Option Addr} {n:Nat} {xs:List Value} (h:RowT w t A n xs) (hb:Below w.heap.size w w'):RowT w' t A n xs :=
 ⟨h.1, fun hn => let ⟨b, o, cs, fr, e, hg, hc⟩ := h.2 hn; ⟨b, o, cs, fr, e, (hb.block b (by
   rcases Nat.lt_or_ge b w.heap.size with h1 | h1
   ·exact h1
   ·rw [Array.getElem?_eq_none h1] at hg; cases hg)).trans hg,hc⟩⟩
theorem RowT.grown {w w':World} {t t':TypeId} {A:Option Addr} {n:Nat} {xs:List Value} {row:Option Nat} (h:RowT w t A n xs) (hg:w.grownBy w' row) (hr:∀ g,row = some g → ∃ cs fr,w.heap[g]? = some (.cells cs t' fr)) (hne:t ≠ t'):RowT w' t A n xs :=
 ⟨h.1, fun hn => let ⟨b, o, cs, fr, e, hb, hc⟩ := h.2 hn; ⟨b, o, cs, fr, e, (hg.block b (by
   rcases Nat.lt_or_ge b w.heap.size with h1 | h1
   ·exact h1
   ·rw [Array.getElem?_eq_none h1] at hb; cases hb) (fun he => by
    obtain ⟨cs',fr',h3⟩:=hr b he.symm
    rw [hb] at h3
    injection h3 with h3
    injection h3 with _ h4
    exact hne h4)).trans hb,hc⟩⟩
theorem ownsRow_block {w:World} {base:Nat} {e:TypeId} {size:Nat} {v:Value} {n:Nat} {xs:List Value} (h:w.ownsRow base e size v n xs):∀ g,v.ownBlock = some g → ∃ cs fr,w.heap[g]? = some (.cells cs e fr) := by
 intro g hg
 rcases h.2 with ⟨rfl,_⟩ | ⟨g',cap,cur,rfl,_,h3,_⟩
 ·simp [Value.ownBlock] at hg
 ·simp [Value.ownBlock] at hg
  subst hg
  exact ⟨_,_,h3⟩
def IntsAt (w:World) (A:Option Addr) (n:Nat) (zs:List Int):Prop := RowAt w A n (zs.map (.int .i64))
theorem IntsAt.keep {w w':World} {A:Option Addr} {n:Nat} {zs:List Int} (h:IntsAt w A n zs) (hb:Below w.heap.size w w'):IntsAt w' A n zs := RowAt.keep h hb
theorem IntsAt.len {w:World} {A:Option Addr} {n:Nat} {zs:List Int} (h:IntsAt w A n zs):zs.length = n := by have := h.1; simpa using this
theorem IntsAt.at_ {w:World} {A:Option Addr} {n k:Nat} {zs:List Int} (h:IntsAt w A n zs) (hk:k < n) :
 ∃ b o,A = some ⟨b,o,none⟩ ∧ w.cell? ⟨b,o + k,none⟩ = some (.int .i64 (zs.getD k 0)) := by
 obtain ⟨b,o,e,hc⟩:=RowAt.at_ h hk
 refine ⟨b,o,e,hc.trans ?_⟩
 have:=h.len
 rw [List.getElem_map,List.getD_eq_getElem?_getD,List.getElem?_eq_getElem (by omega)]; rfl
def nats (l:List Nat):List Int := l.map (fun m:Nat => (m:Int))
structure DgAt (w:World) (A:Option Addr) (B:Option Addr) (d:Pl.Dg):Prop where
 s:IntsAt w A d.n d.sg
 m:IntsAt w B (4 * d.n) (nats d.mt)
theorem DgAt.keep {w w':World} {A B:Option Addr} {d:Pl.Dg} (h:DgAt w A B d) (hb:Below w.heap.size w w'):DgAt w' A B d := ⟨h.s.keep hb,h.m.keep hb⟩
theorem DgAt.sign {w:World} {A B:Option Addr} {d:Pl.Dg} (h:DgAt w A B d) {c:Nat} (hc:c < d.n) :
 ∃ b o,A = some ⟨b,o,none⟩ ∧ w.cell? ⟨b,o + c,none⟩ = some (.int .i64 (d.s c)) := h.s.at_ hc
theorem sign_at {w:World} {A:Option Addr} {d:Pl.Dg} (h:IntsAt w A d.n d.sg) {c:Nat} (hc:c < d.n) :
 ∃ b o,A = some ⟨b,o,none⟩ ∧ w.cell? ⟨b,o + c,none⟩ = some (.int .i64 (d.s c)) := h.at_ hc
theorem mate_at {w:World} {B:Option Addr} {d:Pl.Dg} (h:IntsAt w B (4 * d.n) (nats d.mt)) {k:Nat} (hk:k < 4 * d.n) :
 ∃ b o,B = some ⟨b,o,none⟩ ∧ w.cell? ⟨b,o + k,none⟩ = some (.int .i64 (d.m k:Nat)) := by
 obtain ⟨b,o,e,hc⟩:=h.at_ hk
 refine ⟨b,o,e,hc.trans ?_⟩
 have hl:=h.len
 unfold nats at hl
 rw [List.length_map] at hl
 unfold nats Pl.Dg.m
 rw [List.getD_eq_getElem?_getD,List.getD_eq_getElem?_getD,List.getElem?_map,List.getElem?_eq_getElem (by omega)]; rfl
end Go.Proofs.Ytghdiolnonejaaa
end
section
namespace Go.Proofs.Ytghdiolnonejaaa
open Go.RowKit
theorem turn_back (h:Nat) (w:World) (hh:h ≤ 1000000) :
 Calls Try.prog 77 #[.int .i64 (h:Int),.int .i64 (-1)] w fun e w' => e = .returned (.int .i64 (Pl.tn h 3:Nat)) ∧ w = w' := by
 go_enter Try.func77,Try.ntmps77
 go_wp2
 go_ret
 exact ⟨ret_int (by unfold Pl.tn; omega),rfl⟩
theorem turn_opp (h:Nat) (w:World) (hh:h ≤ 1000000) :
 Calls Try.prog 77 #[.int .i64 (h:Int),.int .i64 2] w fun e w' => e = .returned (.int .i64 (Pl.tn h 2:Nat)) ∧ w = w' := by
 go_enter Try.func77,Try.ntmps77
 go_wp2
 go_ret
 exact ⟨ret_int (by unfold Pl.tn; omega),rfl⟩
theorem opposite_any (h:Nat) (w:World) (hh:h ≤ 1000000) :
 Calls Try.prog 100 #[.int .i64 (h:Int)] w fun e w' => e = .returned (.int .i64 (Pl.tn h 2:Nat)) ∧ w = w' := by
 go_enter Try.func100,Try.ntmps100
 go_wp2_with fail
 refine (turn_opp h _ hh).mono ?_
 rintro e w1 ⟨rfl,rfl⟩
 go_wp2
 go_ret
 exact ⟨rfl,rfl⟩
theorem out_zero {d:Pl.Dg} {h:Nat} (e:h % 4 = 0):Pl.out d h = false := by unfold Pl.out; simp [e]
theorem out_one {d:Pl.Dg} {h:Nat} (e:h % 4 = 1):Pl.out d h = (d.s (h / 4) == 1) := by unfold Pl.out; simp [e]
theorem out_two {d:Pl.Dg} {h:Nat} (e:h % 4 = 2):Pl.out d h = true := by unfold Pl.out; simp [e]
theorem out_three {d:Pl.Dg} {h:Nat} (e:h % 4 = 3):Pl.out d h = (d.s (h / 4) == -1) := by unfold Pl.out; simp [e]
theorem out_any (d:Pl.Dg) (A B:Option Addr) (cp q cq:Nat) (l:Value) (h:Nat) (w:World) (hh:h < 4 * d.n) (hn:d.n ≤ 1000) (hs:IntsAt w A d.n d.sg) :
 Calls Try.prog 46 #[.agg #[.slice A d.n cp,.slice B q cq,l],.int .i64 (h:Int)] w fun e w' => e = .returned (.bool (Pl.out d h)) ∧ Below w.heap.size w w' := by
 obtain ⟨b,o,rfl,hc⟩:=sign_at hs (c := h / 4) (by omega)
 have hb:Below w.heap.size w (w.alloc (.cells #[.slice (some ⟨b,o,none⟩) d.n cp,.slice B q cq,l] 24)):=(Below.refl _ _).alloc (Nat.le_refl _) _
 have hc2:=cell_below hc hb
 go_enter Try.func46,Try.ntmps46
 go_wp2
 all_goals
  go_ret
  refine ⟨ret_bool ?_,hb⟩
  simp only [beq_iff_eq,beq_eq_false_iff_ne,ne_eq] at *
 ·rw [out_one (by omega)]
 ·rw [out_two (by omega)]
 ·rw [out_three (by omega)]
 ·rw [out_zero (by omega)]
theorem out_n (d:Pl.Dg) (A B:Option Addr) (n cp q cq:Nat) (l:Value) (h:Nat) (w:World) (e:n = d.n) (hh:h < 4 * n) (hn:n ≤ 1000) (hs:IntsAt w A n d.sg) :
 Calls Try.prog 46 #[.agg #[.slice A n cp,.slice B q cq,l],.int .i64 (h:Int)] w fun e w' => e = .returned (.bool (Pl.out d h)) ∧ Below w.heap.size w w' := by
 subst e; exact out_any d A B cp q cq l h w hh hn hs
theorem out2_any (d:Pl.Dg) (A B:Option Addr) (cp q cq:Nat) (l:Value) (h:Nat) (w:World) (hh:h < 4 * d.n) (hn:d.n ≤ 1000) (hs:IntsAt w A d.n d.sg) :
 Calls Try.prog 129 #[.agg #[.slice A d.n cp,.slice B q cq,l],.int .i64 (h:Int)] w fun e w' => e = .returned (.bool (Pl.out d h)) ∧ Below w.heap.size w w' := by
 obtain ⟨b,o,rfl,hc⟩:=sign_at hs (c := h / 4) (by omega)
 have hb:Below w.heap.size w (w.alloc (.cells #[.slice (some ⟨b,o,none⟩) d.n cp,.slice B q cq,l] 24)):=(Below.refl _ _).alloc (Nat.le_refl _) _
 have hc2:=cell_below hc hb
 go_enter Try.func129,Try.ntmps129
 go_wp2
 all_goals
  go_ret
  refine ⟨ret_bool ?_,hb⟩
 ·rw [out_two (by omega)]
 ·rename_i e1
  rw [out_one (by omega)]; try simp [e1]
 ·rename_i e1
  rw [out_one (by omega)]; try simp [e1]
 ·rw [out_three (by omega)]
 ·rw [out_zero (by omega)]; simp; omega
theorem out2_n (d:Pl.Dg) (A B:Option Addr) (n cp q cq:Nat) (l:Value) (h:Nat) (w:World) (e:n = d.n) (hh:h < 4 * n) (hn:n ≤ 1000) (hs:IntsAt w A n d.sg) :
 Calls Try.prog 129 #[.agg #[.slice A n cp,.slice B q cq,l],.int .i64 (h:Int)] w fun e w' => e = .returned (.bool (Pl.out d h)) ∧ Below w.heap.size w w' := by
 subst e; exact out2_any d A B cp q cq l h w hh hn hs
theorem next_any (d:Pl.Dg) (B:Option Addr) (cq:Nat) (h:Nat) (w:World) (hh:h < 4 * d.n) (hn:d.n ≤ 1000) (hm:IntsAt w B (4 * d.n) (nats d.mt)) (hlt:d.m h < 4 * d.n) :
 Calls Try.prog 96 #[.slice B (4 * d.n) cq,.int .i64 (h:Int)] w fun e w' => e = .returned (.int .i64 (Pl.nx d h:Nat)) ∧ w = w' := by
 obtain ⟨b,o,rfl,hc⟩:=mate_at hm hh
 go_enter Try.func96,Try.ntmps96
 go_wp2_with fail
 refine (turn_back _ _ (by omega)).mono ?_
 rintro e w1 ⟨rfl,rfl⟩
 go_wp2
 go_ret
 exact ⟨rfl,rfl⟩
end Go.Proofs.Ytghdiolnonejaaa
end
section
namespace Go.Proofs.Ytghdiolnonejaaa
open Go Go.RowKit
def OwnT (w:World) (base:Nat) (e:TypeId) (v:Value) (n:Nat) (xs:List Value):Prop :=
 xs.length = n ∧ ∃ g off cap cur,v = .slice (some ⟨g,off,none⟩) n cap ∧ base ≤ g ∧ w.heap[g]? = some (.cells cur e (0,0)) ∧ n ≤ cap ∧ cap ≤ maxLen ∧ off + cap ≤ cur.size ∧ (cur.toList.drop off).take n = xs
theorem lt_of_heap {w:World} {g:Nat} {o:Obj} (h:w.heap[g]? = some o):g < w.heap.size := by
 rcases Nat.lt_or_ge g w.heap.size with h1 | h1
 ·exact h1
 ·rw [Array.getElem?_eq_none h1] at h; cases h
theorem OwnT.keep {w w':World} {base:Nat} {e:TypeId} {v:Value} {n:Nat} {xs:List Value} (h:OwnT w base e v n xs) (hb:∀ g,base ≤ g → g < w.heap.size → v.ownBlock = some g → w'.heap[g]? = w.heap[g]?):OwnT w' base e v n xs := by
 obtain ⟨h0,g,off,cap,cur,rfl,h1,h2,h3⟩:=h
 exact ⟨h0,g,off,cap,cur,rfl,h1,(hb g h1 (lt_of_heap h2) rfl).trans h2,h3⟩
theorem OwnT.below {w w':World} {base:Nat} {e:TypeId} {v:Value} {n:Nat} {xs:List Value} (h:OwnT w base e v n xs) (hb:Below w.heap.size w w'):OwnT w' base e v n xs :=
 h.keep fun g _ h2 _ => hb.block g h2
theorem OwnT.cells {w:World} {base:Nat} {e:TypeId} {v:Value} {n:Nat} {xs:List Value} (h:OwnT w base e v n xs):∃ g off cap,v = .slice (some ⟨g,off,none⟩) n cap ∧ base ≤ g ∧ g < w.heap.size ∧ n ≤ cap ∧ cap ≤ maxLen ∧ ∀ (j:Nat) u,xs[j]? = some u → w.cell? ⟨g,off + j,none⟩ = some u := by
 obtain ⟨h0,g,off,cap,cur,rfl,h1,h2,h3,h4,h5,h6⟩:=h
 refine ⟨g,off,cap,rfl,h1,lt_of_heap h2,h3,h4,fun j u hu => ?_⟩
 rw [cell_of_row w g _ cur e (0,0) h2]
 rw [← h6,List.getElem?_take] at hu
 split at hu
 ·rw [List.getElem?_drop] at hu
  rw [← Array.getElem?_toList]; exact hu
 ·cases hu
theorem OwnT.tail0 {w:World} {base:Nat} {e:TypeId} {g off n cap:Nat} {x:Value} {xs:List Value} (h:OwnT w base e (.slice (some ⟨g,off,none⟩) (n + 1) cap) (n + 1) (x :: xs)) (hc:cap = 1):OwnT w base e (.slice (some ⟨g,off,none⟩) n (cap - 1)) n xs := by
 obtain ⟨h0,g',off',cap',cur,e1,h1,h2,h3,h4,h5,h6⟩:=h
 injection e1 with e1 _ e2
 injection e1 with e1
 injection e1 with e3 e4
 subst e2; subst e3; subst e4
 have hl:xs.length = n:=by simpa using h0
 obtain rfl:n = 0 := by omega
 exact ⟨hl,g,off,cap - 1,cur,rfl,h1,h2,by omega,by omega,by omega,by rw [List.take_zero]; exact (List.eq_nil_of_length_eq_zero hl).symm⟩
theorem OwnT.tail {w:World} {base:Nat} {e:TypeId} {g off n cap:Nat} {x:Value} {xs:List Value} (h:OwnT w base e (.slice (some ⟨g,off,none⟩) (n + 1) cap) (n + 1) (x :: xs)):OwnT w base e (.slice (some ⟨g,off + 1,none⟩) n (cap - 1)) n xs := by
 obtain ⟨h0,g',off',cap',cur,e1,h1,h2,h3,h4,h5,h6⟩:=h
 injection e1 with e1 _ e2
 injection e1 with e1
 injection e1 with e3 e4
 subst e2; subst e3; subst e4
 have hl:xs.length = n:=by simpa using h0
 refine ⟨hl,g,off + 1,cap - 1,cur,rfl,h1,h2,by omega,by omega,by omega,?_⟩
 have e5:cur.toList.drop off = (cur.toList.drop off).head?.getD x :: cur.toList.drop (off + 1):=by
  have:cur.toList.drop off ≠ []:=by
   intro e; rw [e] at h6; simp at h6
  rw [List.drop_eq_getElem_cons (by simp; omega)]
  simp
 rw [e5,List.take_succ_cons] at h6
 injection h6
section
variable {P:Program} (w:World)
theorem run_append_tail (base:Nat) (t ty e:TypeId) (i:TypeInfo) (z:Value) (bytes:Nat) (ht:P.underlying t = some (.slice e)) (hi:P.info? e = some i) (hz:i.zero = some z)
 (hsize:i.size = 1) (hby:i.bytes = bytes) (hzs:z.cells.size = 1)
 (v:Value) (n:Nat) (xs:List Value) (hown:OwnT w base e v n xs)
 (a:Addr) (c:Nat) (x:Value) (hnews:w.cell? (a.add 0) = some x) (h1:x.oneCell' = true)
 (h63:n + 1 ≤ maxLen) (hbytes:(n + 1) * bytes ≤ 140737488355328) (hbase:base ≤ w.heap.size) :
 ∃ v' w',(Builtin.append_ #[t,t] ty #[v,.slice (some a) 1 c]).run P w = .ok v' w' ∧ OwnT w' base e v' (n + 1) (xs ++ [x]) ∧ w.grownBy w' v.ownBlock := by
 subst hby
 have hsmall:n + 1 ≤ 9223372036854775807:=by simp only [maxLen] at h63; omega
 have hlen:(xs ++ [x]).length = n + 1:=by rw [List.length_append,hown.1]; rfl
 have hn1:∀ (j:Nat) u,[x][j]? = some u → w.cell? (a.add j) = some u:=by
  intro j u hu
  match j,hu with
  | 0,hu => simp at hu; subst hu; exact hnews
 obtain ⟨h0,g,off,cap,cur,rfl,hbg,hg,hnc,hcm,hcs,htake⟩:=hown
 by_cases hroom:n + 1 ≤ cap
 ·have hf:=run_firstCells_some (P := P) w i.size 1 a 1 c [x] (by rw [hsize]; rfl) hn1
  have hst:=run_storeCells_at P g (off + n) e [x] 0 cur w hg (by simp; omega) (by simpa using h1)
  simp only [Nat.add_zero] at hst
  rw [hsize] at hf
  have hr:(Builtin.append_ #[t,t] ty #[.slice (some ⟨g,off,none⟩) n cap,.slice (some a) 1 c]).run P w = .ok (.slice (some ⟨g,off,none⟩) (n + 1) cap) (w.setRow g (cur.toList.take (off + n) ++ [x] ++ cur.toList.drop (off + n + [x].length)).toArray):=by
   simp only [List.length_singleton] at hst ⊢
   simp [Builtin.append_,run_underlying ht,sizeOf,typeInfo,hi,hsize,Builtin.lenOf,hroom,hf,Addr.add_lit,hst]
  refine ⟨_,_,hr,⟨hlen,g,off,cap,_,rfl,hbg,setRow_heap w g cur _ e _ hg,hroom,hcm,?_,?_⟩,⟨rfl,rfl,rfl,by simp,fun k _ hk => setRow_other w g k _ (fun e => hk (by simp [Value.ownBlock,e]))⟩⟩
  ·simp only [List.size_toArray,List.length_append,List.length_take,List.length_drop,Array.length_toList,List.length_cons,List.length_nil]
   omega
  ·have e1 : cur.toList.take (off + n) = cur.toList.take off ++ xs := by
    rw [← htake,List.take_add]
   rw [e1]
   simp only [List.append_assoc]
   have e2:(cur.toList.take off).length = off:=by rw [List.length_take,Array.length_toList]; omega
   rw [List.drop_append,e2,Nat.sub_self,List.drop_zero,List.drop_eq_nil_of_le (by omega),List.nil_append,← List.append_assoc,← hlen,List.take_left]
 ·have holds : ∀ (j : Nat) u, xs[j]? = some u → w.cell? ((⟨g, off, none⟩ : Addr).add j) = some u := by
   intro j u hu
   have:(⟨g,off,none⟩:Addr).add j = ⟨g,off + j,none⟩:=by unfold Addr.add; split <;> simp_all
   rw [this,cell_of_row w g _ cur e (0,0) hg]
   rw [← htake,List.getElem?_take] at hu
   split at hu
   ·rw [List.getElem?_drop] at hu
    rw [← Array.getElem?_toList]; exact hu
   ·cases hu
  have hr:=run_append_grow (P := P) w t ty e i z ht hi hz ⟨g,off,none⟩ n cap xs (by rw [hsize,h0]; omega) holds a 1 c [x] (by rw [hsize]; rfl) hn1 (by omega) (by omega) (growslice_fits (by omega) hbytes)
  have hge:=grownCap_ge w (n + 1) cap e
  have hcm':grownCap w (n + 1) cap e ≤ maxLen:=grownCap_le_maxLen w (n + 1) cap e h63
  refine ⟨_,_,hr,⟨hlen,w.heap.size,0,_,_,rfl,hbase,heap_alloc_new w.drew _,hge,hcm',?_,?_⟩,⟨rfl,rfl,rfl,by simp,fun k hk _ => Below.heap_alloc w.drew _ k hk⟩⟩
  ·simp only [Array.size_append,List.size_toArray,size_zeroCells,hzs,h0,List.length_cons,List.length_nil]
   omega
  ·simp only [Array.toList_append,List.drop_zero]
   rw [← hlen]
   exact List.take_left
theorem wp_append_tail {o:Oper} {a:Act} {K:Act → World → Prop} {Q:Exit → Act → World → Prop} (s x:Operand) (t:TypeId)
 (ho:o.op = .call { callee := .builtin .append,args := #[s,x],argTypes := #[t,t] })
 (base:Nat) (e:TypeId) (i:TypeInfo) (z:Value) (bytes:Nat) (ht:P.underlying t = some (.slice e)) (hi:P.info? e = some i) (hz:i.zero = some z)
 (hsize:i.size = 1) (hby:i.bytes = bytes) (hzs:z.cells.size = 1)
 (v:Value) (n:Nat) (xs:List Value) (hs:a.eval s = v) (hown:OwnT w base e v n xs)
 (ad:Addr) (c:Nat) (u:Value) (hx:a.eval x = .slice (some ad) 1 c) (hnews:w.cell? (ad.add 0) = some u) (h1:u.oneCell' = true)
 (h63:n + 1 ≤ maxLen) (hbytes:(n + 1) * bytes ≤ 140737488355328) (hbase:base ≤ w.heap.size)
 (h:∀ v' w',OwnT w' base e v' (n + 1) (xs ++ [u]) → w.grownBy w' v.ownBlock → K (a.put o.dst v') w'):o.wp P a w K Q := by
 obtain ⟨v',w',hr,h2,h3⟩:=run_append_tail (P := P) w base t o.type e i z bytes ht hi hz hsize hby hzs v n xs hown ad c u hnews h1 h63 hbytes hbase
 unfold Oper.wp execOp
 simp only [ho,resolve,invoke,builtin,Sem.run_bind,Sem.run_pure,Result.andThen_ok,List.map_toArray,List.map_cons,List.map_nil,hs,hx,hr]
 exact h v' w' h2 h3
theorem wpList_append_tail {ops:Array Oper} {rest:List Oper} {o:Oper} {a:Act} {Q:Exit → Act → World → Prop} (hgd:o.guard = none) (s x:Operand) (t:TypeId)
 (ho:o.op = .call { callee := .builtin .append,args := #[s,x],argTypes := #[t,t] })
 (base:Nat) (e:TypeId) (i:TypeInfo) (z:Value) (bytes:Nat) (ht:P.underlying t = some (.slice e)) (hi:P.info? e = some i) (hz:i.zero = some z)
 (hsize:i.size = 1) (hby:i.bytes = bytes) (hzs:z.cells.size = 1)
 (v:Value) (n:Nat) (xs:List Value) (hs:a.eval s = v) (hown:OwnT w base e v n xs)
 (ad:Addr) (c:Nat) (u:Value) (hx:a.eval x = .slice (some ad) 1 c) (hnews:w.cell? (ad.add 0) = some u) (h1:u.oneCell' = true)
 (h63:n + 1 ≤ maxLen) (hbytes:(n + 1) * bytes ≤ 140737488355328) (hbase:base ≤ w.heap.size)
 (h:∀ v' w',OwnT w' base e v' (n + 1) (xs ++ [u]) → w.grownBy w' v.ownBlock → wpList P ops Q rest (a.put o.dst v') w'):wpList P ops Q (o :: rest) a w :=
 wpList_plain hgd fun _ hK => wp_append_tail w s x t ho base e i z bytes ht hi hz hsize hby hzs v n xs hs hown ad c u hx hnews h1 h63 hbytes hbase fun v' w' h2 h3 => hK _ _ (h v' w' h2 h3)
end
end Go.Proofs.Ytghdiolnonejaaa
end
section
namespace Go.Proofs.Ytghdiolnonejaaa
open Go Go.RowKit
def Row (w:World) (g:Nat) (t:TypeId) (vs:List Value):Prop := w.heap[g]? = some (.cells vs.toArray t (0,0))
theorem Row.lt {w:World} {g:Nat} {t:TypeId} {vs:List Value} (h:Row w g t vs):g < w.heap.size := lt_of_heap h
theorem Row.cell {w:World} {g:Nat} {t:TypeId} {vs:List Value} (h:Row w g t vs) {i:Nat} (hi:i < vs.length):w.cell? ⟨g,i,none⟩ = some (vs[i]'hi) := by
 rw [cell_of_row w g i _ t (0,0) h]; simp [hi]
theorem Row.free {w:World} {g:Nat} {t:TypeId} {vs:List Value} (h:Row w g t vs) (i:Nat):w.frozen? ⟨g,i,none⟩ = false := frozen_of_row w g i _ t h
theorem Row.set {w:World} {g:Nat} {t:TypeId} {vs:List Value} (h:Row w g t vs) (i:Nat) (v:Value):Row (w.setCell ⟨g,i,none⟩ v) g t (vs.set i v) := by
 unfold Row
 rw [Go.heap_setCell_same w g i _ t v h]
 simp
theorem Row.other {w:World} {g:Nat} {t:TypeId} {vs:List Value} (h:Row w g t vs) {a:Addr} (ha:g ≠ a.block) (v:Value):Row (w.setCell a v) g t vs := (Below.heap_setCell w a v g ha).trans h
theorem Row.alloc {w:World} {g:Nat} {t:TypeId} {vs:List Value} (h:Row w g t vs) (o:Obj):Row (w.alloc o) g t vs := (Below.heap_alloc w o g h.lt).trans h
theorem Row.drew {w:World} {g:Nat} {t:TypeId} {vs:List Value} (h:Row w g t vs):Row w.drew g t vs := h
theorem Row.below {w w':World} {g:Nat} {t:TypeId} {vs:List Value} (h:Row w g t vs) (hb:Below w.heap.size w w'):Row w' g t vs := (hb.block g h.lt).trans h
theorem Row.grown {w w':World} {g:Nat} {t:TypeId} {vs:List Value} {r:Option Nat} (h:Row w g t vs) (hg:w.grownBy w' r) (hr:some g ≠ r):Row w' g t vs := (hg.block g h.lt hr).trans h
theorem Row.new (w:World) (t:TypeId) (vs:List Value):Row (w.alloc (.cells vs.toArray t)) w.heap.size t vs := heap_alloc_new w _
def IRow (w:World) (g:Nat) (zs:List Int):Prop := Row w g 3 (zs.map (.int .i64))
theorem IRow.cell {w:World} {g:Nat} {zs:List Int} (h:IRow w g zs) {i:Nat} (hi:i < zs.length):w.cell? ⟨g,i,none⟩ = some (.int .i64 (Pl.pv zs i)) := by
 refine (Row.cell h (i := i) (by simpa using hi)).trans ?_
 unfold Pl.pv
 rw [List.getElem_map,List.getD_eq_getElem?_getD,List.getElem?_eq_getElem hi]; rfl
theorem IRow.set {w:World} {g:Nat} {zs:List Int} (h:IRow w g zs) (i:Nat) (v:Int):IRow (w.setCell ⟨g,i,none⟩ (.int .i64 v)) g (zs.set i v) := by
 unfold IRow
 rw [List.map_set]
 exact Row.set h i _
theorem IRow.ints {w:World} {g:Nat} {zs:List Int} (h:IRow w g zs):IntsAt w (some ⟨g,0,none⟩) zs.length zs := by
 refine ⟨by simp,fun _ => ⟨g,0,rfl,fun j u hu => ?_⟩⟩
 rw [Nat.zero_add]
 refine (cell_of_row w g j _ _ (0,0) h).trans ?_
 simpa using hu
def BRow (w:World) (g:Nat) (bs:List Bool):Prop := Row w g 4 (bs.map .bool)
theorem BRow.cell {w:World} {g:Nat} {bs:List Bool} (h:BRow w g bs) {i:Nat} (hi:i < bs.length):w.cell? ⟨g,i,none⟩ = some (.bool (bs.getD i false)) := by
 refine (Row.cell h (i := i) (by simpa using hi)).trans ?_
 rw [List.getElem_map,List.getD_eq_getElem?_getD,List.getElem?_eq_getElem hi]; rfl
theorem BRow.set {w:World} {g:Nat} {bs:List Bool} (h:BRow w g bs) (i:Nat) (v:Bool):BRow (w.setCell ⟨g,i,none⟩ (.bool v)) g (bs.set i v) := by
 unfold BRow
 rw [List.map_set]
 exact Row.set h i _
theorem made_rep (v:Value) (n:Nat):madeCells #[v] n = (List.replicate n v).toArray := by
 apply Array.ext'
 simp only [madeCells,Array.toList_map,Array.toList_range]
 refine List.ext_getElem (by simp) (fun i h1 h2 => ?_)
 have:i % 1 = 0:=Nat.mod_one i
 simp [this]
theorem IRow.made (w:World) (n:Nat):IRow (w.alloc (.cells (Array.replicate n (Value.int .i64 0)) 3)) w.heap.size (List.replicate n 0) := by
 unfold IRow Row
 rw [List.map_replicate]
 exact heap_alloc_new w _
theorem BRow.made (w:World) (n:Nat):BRow (w.alloc (.cells (Array.replicate n (Value.bool false)) 4)) w.heap.size (List.replicate n false) := by
 unfold BRow Row
 rw [List.map_replicate]
 exact heap_alloc_new w _
theorem intInfo:(Try.prog.info? 3).map (fun i => (i.zero,i.size,i.bytes)) = some (some (.int .i64 0),1,8) := by kernel_rfl
theorem boolInfo:(Try.prog.info? 4).map (fun i => (i.zero,i.size,i.bytes)) = some (some (.bool false),1,1) := by kernel_rfl
theorem run_ints (n:Nat) (hn:n ≤ 100000) (w:World):(Instr.makeSlice 22 (.int .i64 (n:Int)) (.int .i64 (n:Int))).run Try.prog w = .ok (.slice (some ⟨w.heap.size,0,none⟩) n n) (w.alloc (.cells (Array.replicate n (Value.int .i64 0)) 3)) := by
 obtain ⟨i0,hi,hz0,hz1,hz2⟩:=info_parts intInfo
 have:=run_make (P := Try.prog) w 22 3 i0 (.int .i64 0) Try.underlying22 hi hz0 .i64 .i64 n n (by omega) (Int.le_refl _) (by rw [hz2]; omega) (by omega)
 rw [hz1,Nat.mul_one,Int.toNat_natCast,show madeCells (Value.cells (.int .i64 0)) n = (List.replicate n (.int .i64 0)).toArray from made_rep _ _] at this
 exact this
theorem run_bools (n:Nat) (hn:n ≤ 100000) (w:World):(Instr.makeSlice 82 (.int .i64 (n:Int)) (.int .i64 (n:Int))).run Try.prog w = .ok (.slice (some ⟨w.heap.size,0,none⟩) n n) (w.alloc (.cells (Array.replicate n (Value.bool false)) 4)) := by
 obtain ⟨i0,hi,hz0,hz1,hz2⟩:=info_parts boolInfo
 have:=run_make (P := Try.prog) w 82 4 i0 (.bool false) Try.underlying82 hi hz0 .i64 .i64 n n (by omega) (Int.le_refl _) (by rw [hz2]; omega) (by omega)
 rw [hz1,Nat.mul_one,Int.toNat_natCast,show madeCells (Value.cells (.bool false)) n = (List.replicate n (.bool false)).toArray from made_rep _ _] at this
 exact this
end Go.Proofs.Ytghdiolnonejaaa
end
section
namespace Go.Proofs.Ytghdiolnonejaaa
open Go Go.RowKit
section
variable {P:Program} (w:World)
theorem run_append_ints (base:Nat) (t ty e:TypeId) (i:TypeInfo) (z:Value) (bytes:Nat) (ht:P.underlying t = some (.slice e)) (hi:P.info? e = some i) (hz:i.zero = some z)
 (hsize:i.size = 1) (hby:i.bytes = bytes) (hzs:z.cells.size = 1)
 (v:Value) (n:Nat) (xs:List Value) (hown:w.ownsRow base e 1 v n xs)
 (A:Option Addr) (m c:Nat) (zs:List Int) (hin:IntsAt w A m zs)
 (h63:n + m ≤ maxLen) (hbytes:(n + m) * bytes ≤ 140737488355328) (hbase:base ≤ w.heap.size) :
 ∃ v' w',(Builtin.append_ #[t,t] ty #[v,.slice A m c]).run P w = .ok v' w' ∧ w'.ownsRow base e 1 v' (n + m) (xs ++ zs.map (.int .i64)) ∧ w.grownBy w' v.ownBlock := by
 have hl:=hin.len
 rcases Nat.eq_zero_or_pos m with h0 | h0
 ·subst h0
  obtain rfl:zs = [] := List.eq_nil_of_length_eq_zero hl
  have hr:(Builtin.append_ #[t,t] ty #[v,.slice A 0 c]).run P w = .ok v w:=by
   rcases hown.2 with ⟨rfl,rfl⟩ | ⟨g,cap,cur,rfl,_,_,hnc,_⟩
   ·cases A <;> simp [Builtin.append_,run_underlying ht,sizeOf,typeInfo,hi,Builtin.lenOf,Builtin.firstCells,loadCells,loadCellsFrom]
   ·cases A <;> simp [Builtin.append_,run_underlying ht,sizeOf,typeInfo,hi,Builtin.lenOf,Builtin.firstCells,hnc,storeCells,loadCells,loadCellsFrom]
  refine ⟨v,w,hr,by simpa using hown,⟨rfl,rfl,rfl,Nat.le_refl _,fun _ _ _ => rfl⟩⟩
 ·obtain ⟨b,o,rfl,hc⟩:=hin.2 h0
  obtain ⟨v',w',hr,h2,h3,_⟩:=run_append_own (P := P) w base t ty e i z 1 bytes ht hi hz hsize hby hzs (by omega) v n xs hown ⟨b,o,none⟩ m c (zs.map (.int .i64)) (by rw [List.length_map,hl,Nat.mul_one]) (fun j u hu => by
   have:(⟨b,o,none⟩:Addr).add j = ⟨b,o + j,none⟩:=by unfold Addr.add; split <;> simp_all
   rw [this]; exact hc j u hu) (fun u hu => by
   obtain ⟨x,_,rfl⟩:=List.mem_map.1 hu; rfl) h63 hbytes hbase
  exact ⟨v',w',hr,h2,h3⟩
theorem wp_append_ints {o:Oper} {a:Act} {K:Act → World → Prop} {Q:Exit → Act → World → Prop} (s x:Operand) (t:TypeId)
 (ho:o.op = .call { callee := .builtin .append,args := #[s,x],argTypes := #[t,t] })
 (base:Nat) (e:TypeId) (i:TypeInfo) (z:Value) (bytes:Nat) (ht:P.underlying t = some (.slice e)) (hi:P.info? e = some i) (hz:i.zero = some z)
 (hsize:i.size = 1) (hby:i.bytes = bytes) (hzs:z.cells.size = 1)
 (v:Value) (n:Nat) (xs:List Value) (hs:a.eval s = v) (hown:w.ownsRow base e 1 v n xs)
 (A:Option Addr) (m c:Nat) (zs:List Int) (hx:a.eval x = .slice A m c) (hin:IntsAt w A m zs)
 (h63:n + m ≤ maxLen) (hbytes:(n + m) * bytes ≤ 140737488355328) (hbase:base ≤ w.heap.size)
 (h:∀ v' w',w'.ownsRow base e 1 v' (n + m) (xs ++ zs.map (.int .i64)) → w.grownBy w' v.ownBlock → K (a.put o.dst v') w'):o.wp P a w K Q := by
 obtain ⟨v',w',hr,h2,h3⟩:=run_append_ints (P := P) w base t o.type e i z bytes ht hi hz hsize hby hzs v n xs hown A m c zs hin h63 hbytes hbase
 unfold Oper.wp execOp
 simp only [ho,resolve,invoke,builtin,Sem.run_bind,Sem.run_pure,Result.andThen_ok,List.map_toArray,List.map_cons,List.map_nil,hs,hx,hr]
 exact h v' w' h2 h3
theorem wpList_append_ints {ops:Array Oper} {rest:List Oper} {o:Oper} {a:Act} {Q:Exit → Act → World → Prop} (hgd:o.guard = none) (s x:Operand) (t:TypeId)
 (ho:o.op = .call { callee := .builtin .append,args := #[s,x],argTypes := #[t,t] })
 (base:Nat) (e:TypeId) (i:TypeInfo) (z:Value) (bytes:Nat) (ht:P.underlying t = some (.slice e)) (hi:P.info? e = some i) (hz:i.zero = some z)
 (hsize:i.size = 1) (hby:i.bytes = bytes) (hzs:z.cells.size = 1)
 (v:Value) (n:Nat) (xs:List Value) (hs:a.eval s = v) (hown:w.ownsRow base e 1 v n xs)
 (A:Option Addr) (m c:Nat) (zs:List Int) (hx:a.eval x = .slice A m c) (hin:IntsAt w A m zs)
 (h63:n + m ≤ maxLen) (hbytes:(n + m) * bytes ≤ 140737488355328) (hbase:base ≤ w.heap.size)
 (h:∀ v' w',w'.ownsRow base e 1 v' (n + m) (xs ++ zs.map (.int .i64)) → w.grownBy w' v.ownBlock → wpList P ops Q rest (a.put o.dst v') w'):wpList P ops Q (o :: rest) a w :=
 wpList_plain hgd fun _ hK => wp_append_ints w s x t ho base e i z bytes ht hi hz hsize hby hzs v n xs hs hown A m c zs hx hin h63 hbytes hbase fun v' w' h2 h3 => hK _ _ (h v' w' h2 h3)
end
def growRen:Go.Shelf.Ren := ⟨fun | 4 => 146 | n => n,fun | 22 => 22 | 25 => 3 | 3 => 3 | 4 => 4 | 9 => 9 | 20 => 20 | 0 => 0 | n => n,fun | n => n⟩
theorem growLays:Go.Proofs.Lays8.n4 Try.prog growRen := {
 mixed := by kernel_rfl
 f4 := ⟨Try.f146.name,by decide,Try.func146.trans (congrArg some (by kernel_rfl))⟩
 t0 := Try.underlying0
 a0 := Try.isAgg0
 z0 := Try.sizeOf0
 v0 := Try.zeroValue0
 t3 := Try.underlying3
 a3 := Try.isAgg3
 z3 := Try.sizeOf3
 v3 := Try.zeroValue3
 t4 := Try.underlying4
 a4 := Try.isAgg4
 z4 := Try.sizeOf4
 v4 := Try.zeroValue4
 t9 := Try.underlying9
 a9 := Try.isAgg9
 z9 := Try.sizeOf9
 v9 := Try.zeroValue9
 t20 := Try.underlying20
 a20 := Try.isAgg20
 z20 := Try.sizeOf20
 v20 := Try.zeroValue20
 t22 := Try.underlying22
 a22 := Try.isAgg22
 z22 := Try.sizeOf22
 v22 := Try.zeroValue22 }
theorem grow_nil (n:Nat) (w:World) (hn:n ≤ 100000) :
 Calls Try.prog 146 #[.slice none 0 0,.int .i64 (n:Int)] w fun e w' => ∃ v,e = .returned v ∧ w'.ownsRow w.heap.size 3 1 v 0 [] ∧ Below w.heap.size w w' := by
 rcases Nat.eq_zero_or_pos n with h0 | h0
 ·subst h0
  refine (Any8.slices_Grow_room growLays none 0 0 0 w (by omega) (by omega) (by omega) (by omega)).mono ?_
  rintro e w' ⟨rfl,rfl⟩
  exact ⟨_,rfl,World.ownsRow_nil _ _ _ _,Below.refl _ _⟩
 ·obtain ⟨i0,hi0,hz0,hz1,hz2⟩:=info_parts intInfo
  refine (Any8.slices_Grow_grow growLays i0 (.int .i64 0) hi0 hz0 (by omega) none 0 0 n [] w (by omega) (by omega) (by rw [hz2]; omega) (by omega) (by simp) (fun _ => rfl) (fun a h => by cases h)).mono ?_
  rintro e w' ⟨rfl,rfl⟩
  have hge:=grownCap_ge w (0 + n) 0 3
  have hle:=grownCap_le_maxLen w (0 + n) 0 3 (by unfold maxLen; omega)
  refine ⟨_,rfl,?_,((Below.refl _ _).drew).alloc (by simp) _⟩
  refine ⟨rfl,.inr ⟨w.heap.size,_,_,rfl,Nat.le_refl _,heap_alloc_new w.drew _,Nat.zero_le _,hle,?_,by simp⟩⟩
  show _ = grownCap w (0 + n) 0 3 * 1
  simp only [Array.size_append,List.size_toArray,size_zeroCells,List.length_nil]
  show 0 + (0 + n - 0) * 1 + (grownCap w (0 + n) 0 3 - (0 + n)) * 1 = _
  omega
end Go.Proofs.Ytghdiolnonejaaa
end
section
namespace Go.Proofs.Ytghdiolnonejaaa
open Go.RowKit
def pre (xs ys:List Int) (k:Nat):List Int := if k = 0 then [] else if k = 1 then xs else xs ++ ys
set_option maxRecDepth 100000 in
set_option maxHeartbeats 2000000 in
theorem concat_two (A B:Option Addr) (n m c d h:Nat) (xs ys:List Int) (w:World) (hx:IntsAt w A n xs) (hy:IntsAt w B m ys) (hn:n + m ≤ 100000)
 (c0:w.cell? ⟨h,0,none⟩ = some (.slice A n c)) (c1:w.cell? ⟨h,1,none⟩ = some (.slice B m d)) :
 Calls Try.prog 130 #[.slice (some ⟨h,0,none⟩) 2 2] w fun e w' => ∃ v,e = .returned v ∧ w'.ownsRow w.heap.size 3 1 v (n + m) ((xs ++ ys).map (.int .i64)) ∧ Below w.heap.size w w' := by
 have HX:=hide hx
 have HY:=hide hy
 clear hx hy
 go_enter Try.func130,Try.ntmps130
 go_wp2
 go_loop [3,11] (fun s i => ∃ k:Nat,k ≤ 2 ∧ i = .int .i64 k ∧ s = .int .i64 ((if k = 0 then 0 else if k = 1 then n else n + m:Nat):Int)) (fun _ i => 2 - (intOf i).toNat)
 case atStart => exact ⟨0,by omega,rfl,rfl⟩
 case round =>
  obtain ⟨k,hk,rfl,rfl⟩:=hrel
  have h3:k = 0 ∨ k = 1 ∨ k = 2:=by omega
  rcases h3 with rfl | rfl | rfl
  ·simp only [if_true]
   go_wp2
   go_round
   case rel => exact ⟨1,by omega,by go_num,by simp⟩
   case measure => simp [intOf]
  ·simp only [Nat.one_ne_zero,if_true,if_false]
   go_wp2
   go_round
   case rel => exact ⟨2,by omega,by go_num,by simp⟩
   case measure => simp [intOf]
  ·simp only [show (2:Nat) ≠ 0 by omega,show (2:Nat) ≠ 1 by omega,if_false]
   obtain ⟨s,hs⟩:∃ s,s = n + m := ⟨_,rfl⟩
   rw [← hs]
   have HS:=hide hs
   have hs2:s ≤ 100000:=by omega
   clear hs
   go_wp2_with fail
   refine (grow_nil s _ hs2).mono ?_
   rintro e w1 ⟨v0,rfl,hown,hb1⟩
   have HO:=hide hown
   have HB1:=hide hb1
   clear hown hb1
   go_wp2
   have hxl:=HX.out.len
   have hyl:=HY.out.len
   go_loopg [6,27] 2 (fun g v i wx => ∃ k:Nat,k + g = 2 ∧ i = .int .i64 k ∧ wx.ownsRow w.heap.size 3 1 v (pre xs ys k).length ((pre xs ys k).map (.int .i64)) ∧ Below w.heap.size w wx)
   case atStart => exact ⟨0,rfl,rfl,HO.out,HB1.out⟩
   case round =>
    obtain ⟨k,hkg,rfl,hown,hb⟩:=hrel
    have hcell:=hide hb
    have d0':=cell_below c0 hb
    have d1':=cell_below c1 hb
    have HX':=hide (HX.out.keep hb)
    have HY':=hide (HY.out.keep hb)
    obtain ⟨i0,hi0,hz0,hz1,hz2⟩:=info_parts intInfo
    have hwz:=hb.size
    obtain ⟨g1,rfl⟩:∃ g1,g1 = gk := ⟨_,rfl⟩
    have HK:=hide hkg
    have HO':=hide hown
    clear hb hown
    have h3:k = 0 ∨ k = 1 ∨ k = 2:=by omega
    clear hkg
    rcases h3 with rfl | rfl | rfl
    ·go_wp2_with (at_builtin; refine wpList_append_ints _ rfl _ _ 22 rfl w.heap.size 3 i0 (.int .i64 0) 8 Try.underlying22 hi0 hz0 hz1 hz2 rfl _ 0 [] (by rfl) HO'.out A n c xs (by rfl) HX'.out (by unfold maxLen; omega) (by omega) hwz ?_; intro v2 w2 own2 grow2)
     go_roundg 1
     case measure => have := HK.out; omega
     case rel =>
      refine ⟨1,rfl,rfl,?_,hcell.out.grown grow2 hwz (fun k hk => (HO'.out.lt k hk).1)⟩
      have e:pre xs ys 1 = xs:=rfl
      rw [e,hxl]
      simpa using own2
    ·have e1:(pre xs ys 1).length = n:=hxl
     have HO2:=hide (show wr.ownsRow w.heap.size 3 1 u6 n (xs.map (.int .i64)) by have := HO'.out; rw [e1] at this; exact this)
     go_wp2_with (at_builtin; refine wpList_append_ints _ rfl _ _ 22 rfl w.heap.size 3 i0 (.int .i64 0) 8 Try.underlying22 hi0 hz0 hz1 hz2 rfl _ n (xs.map (.int .i64)) (by rfl) HO2.out B m d ys (by rfl) HY'.out (by unfold maxLen; omega) (by omega) hwz ?_; intro v2 w2 own2 grow2)
     go_roundg 0
     case measure => have := HK.out; omega
     case rel =>
      refine ⟨2,rfl,rfl,?_,hcell.out.grown grow2 hwz (fun k hk => (HO'.out.lt k hk).1)⟩
      have e:pre xs ys 2 = xs ++ ys:=rfl
      rw [e,List.length_append,hxl,hyl,List.map_append]
      exact own2
    ·go_wp2
     go_ret
     refine ⟨_,rfl,?_,hcell.out⟩
     have h7:=HO'.out
     have e:pre xs ys 2 = xs ++ ys:=rfl
     rw [e,List.length_append,hxl,hyl] at h7
     exact h7
theorem owns_slice {w:World} {base:Nat} {e:TypeId} {size:Nat} {v:Value} {n:Nat} {xs:List Value} (h:w.ownsRow base e size v n xs):∃ A c,v = .slice A n c := by
 rcases h.2 with ⟨rfl,rfl⟩ | ⟨g,cap,cur,rfl,_⟩
 ·exact ⟨_,_,rfl⟩
 ·exact ⟨_,_,rfl⟩
theorem concat_ex (n m h:Nat) (xs ys:List Int) (w:World) (hn:n + m ≤ 100000) (h0:∃ A c,w.cell? ⟨h,0,none⟩ = some (.slice A n c) ∧ IntsAt w A n xs) (h1:∃ B d,w.cell? ⟨h,1,none⟩ = some (.slice B m d) ∧ IntsAt w B m ys) :
 Calls Try.prog 130 #[.slice (some ⟨h,0,none⟩) 2 2] w fun e w' => ∃ (A:Option Addr) (c:Nat),e = .returned (.slice A (n + m) c) ∧ w'.ownsRow w.heap.size 3 1 (.slice A (n + m) c) (n + m) ((xs ++ ys).map (.int .i64)) ∧ Below w.heap.size w w' := by
 obtain ⟨A,c,c0,hx⟩:=h0
 obtain ⟨B,d,c1,hy⟩:=h1
 refine (concat_two A B n m c d h xs ys w hx hy hn c0 c1).mono ?_
 rintro e w' ⟨v,rfl,hown,hb⟩
 obtain ⟨A',c',rfl⟩:=owns_slice hown
 exact ⟨A',c',rfl,hown,hb⟩
def OwnN (w:World) (base g n cap:Nat) (l:List Nat):Prop := w.ownsRow base 3 1 (.slice (some ⟨g,0,none⟩) n cap) n (l.map (fun k:Nat => Value.int .i64 k))
theorem OwnN.len {w:World} {base g n cap:Nat} {l:List Nat} (h:OwnN w base g n cap l):l.length = n := by have := h.1; simpa using this
theorem OwnN.cell {w:World} {base g n cap:Nat} {l:List Nat} (h:OwnN w base g n cap l) {k:Nat} (hk:k < n):w.cell? ⟨g,k,none⟩ = some (.int .i64 (l.getD k 0:Nat)) := by
 have hl:=h.len
 rw [World.ownsRow.cellAt h k (by omega),List.getElem?_map,List.getElem?_eq_getElem (by omega),List.getD_eq_getElem?_getD,List.getElem?_eq_getElem (by omega)]; rfl
theorem OwnN.free {w:World} {base g n cap:Nat} {l:List Nat} (h:OwnN w base g n cap l) (k:Nat):w.frozen? ⟨g,k,none⟩ = false := World.ownsRow.frozenAt h k
theorem OwnN.set {w:World} {base g n cap:Nat} {l:List Nat} (h:OwnN w base g n cap l) (k v:Nat):OwnN (w.setCell ⟨g,k,none⟩ (.int .i64 (v:Nat))) base g n cap (l.set k v) ∧ w.grownBy (w.setCell ⟨g,k,none⟩ (.int .i64 (v:Nat))) (some g) := by
 have:=World.ownsRow.stored h k (.int .i64 (v:Nat))
 refine ⟨?_,this.2⟩
 unfold OwnN
 rw [List.map_set]
 exact this.1
theorem grownBy_trans {w w1 w2:World} {r:Option Nat} (h:w.grownBy w1 r) (h2:w1.grownBy w2 r):w.grownBy w2 r :=
 ⟨h2.os.trans h.os,h2.tape.trans h.tape,h2.output.trans h.output,Nat.le_trans h.size h2.size,fun k hk hr => (h2.block k (Nat.lt_of_lt_of_le hk h.size) hr).trans (h.block k hk hr)⟩
def jn (l:List Nat) (a b:Nat):List Nat := (l.set a b).set b a
theorem join_any (base g n cap a b:Nat) (l:List Nat) (w:World) (h:OwnN w base g n cap l) (ha:a < n) (hb:b < n) (hn:n ≤ 100000) :
 Calls Try.prog 80 #[.slice (some ⟨g,0,none⟩) n cap,.int .i64 (a:Int),.int .i64 (b:Int)] w fun e w' => e = .returned (.tuple #[]) ∧ OwnN w' base g n cap (jn l a b) ∧ w.grownBy w' (some g) := by
 have c1:=h.cell ha
 have f1:=h.free a
 obtain ⟨h2,g2⟩:=h.set a b
 have c2:=h2.cell hb
 have f2:=h2.free b
 obtain ⟨h3,g3⟩:=h2.set b a
 have H3:=hide h3
 have G3:=hide (grownBy_trans g2 g3)
 clear h h2 h3 g2 g3
 go_enter Try.func80,Try.ntmps80
 go_wp2
 go_end0
 exact ⟨rfl,H3.out,G3.out⟩
theorem join_int (base g n cap:Nat) (a b:Int) (l:List Nat) (w:World) (h:OwnN w base g n cap l) (ha:0 ≤ a ∧ a < n) (hb:0 ≤ b ∧ b < n) (hn:n ≤ 100000) :
 Calls Try.prog 80 #[.slice (some ⟨g,0,none⟩) n cap,.int .i64 a,.int .i64 b] w fun e w' => e = .returned (.tuple #[]) ∧ OwnN w' base g n cap (jn l a.toNat b.toNat) ∧ w.grownBy w' (some g) := by
 obtain ⟨x,rfl⟩:=Int.eq_ofNat_of_zero_le ha.1
 obtain ⟨y,rfl⟩:=Int.eq_ofNat_of_zero_le hb.1
 rw [Int.toNat_natCast,Int.toNat_natCast]
 exact join_any base g n cap x y l w h (by omega) (by omega) hn
end Go.Proofs.Ytghdiolnonejaaa
end
section
namespace Go.Proofs.Ytghdiolnonejaaa
open Go.RowKit
attribute [local go_sem ↓] Go.wp_at_zero Go.wp_at_succ
structure GS (w:World) (g:Nat) (x0 x1 x2:Value) (W:World):Prop where
 row:∃ vs,Row W g 24 [x0,x1,x2] ∧ Row W (g + 1) 24 vs ∧ vs.length = 3
 bel:Below w.heap.size w W
 lo:w.heap.size ≤ g
theorem GS.drew {w:World} {g:Nat} {x0 x1 x2:Value} {W:World} (h:GS w g x0 x1 x2 W):GS w g x0 x1 x2 W.drew := ⟨h.row,h.bel.drew,h.lo⟩
def cv (W:World) (a:Addr):Value := (W.cell? a).getD (.bool false)
theorem cv_some {W:World} {a:Addr} {v:Value} (h:W.cell? a = some v):W.cell? a = some (cv W a) := by unfold cv; rw [h]; rfl
theorem GS.alloc {w:World} {g:Nat} {x0 x1 x2:Value} {W:World} (h:GS w g x0 x1 x2 W) (o:Obj):GS w g x0 x1 x2 (W.alloc o) :=
 let ⟨vs,r1,r2,r3⟩:=h.row
 ⟨⟨vs,r1.alloc o,r2.alloc o,r3⟩,h.bel.alloc h.bel.size o,h.lo⟩
theorem GS.below {w:World} {g:Nat} {x0 x1 x2:Value} {W W':World} (h:GS w g x0 x1 x2 W) (hb:Below W.heap.size W W'):GS w g x0 x1 x2 W' :=
 let ⟨vs,r1,r2,r3⟩:=h.row
 ⟨⟨vs,r1.below hb,r2.below hb,r3⟩,h.bel.trans (hb.mono h.bel.size),h.lo⟩
theorem GS.set {w:World} {g:Nat} {x0 x1 x2:Value} {W:World} (h:GS w g x0 x1 x2 W) (o:Nat) (v:Value):GS w g x0 x1 x2 (W.setCell ⟨g + 1,o,none⟩ v) :=
 let ⟨vs,r1,r2,r3⟩:=h.row
 ⟨⟨vs.set o v,r1.other (by simp) v,r2.set o v,by rw [List.length_set,r3]⟩,h.bel.setCell (by have := h.lo; simp; omega) v,h.lo⟩
theorem GS.all {w:World} {g:Nat} {x0 x1 x2:Value} {W:World} (h:GS w g x0 x1 x2 W):W.cell? ⟨g,0,none⟩ = some x0 ∧ W.cell? ⟨g,1,none⟩ = some x1 ∧ W.cell? ⟨g,2,none⟩ = some x2 ∧ W.cell? ⟨g + 1,0,none⟩ = some (cv W ⟨g + 1,0,none⟩) ∧ W.cell? ⟨g + 1,1,none⟩ = some (cv W ⟨g + 1,1,none⟩) ∧ W.cell? ⟨g + 1,2,none⟩ = some (cv W ⟨g + 1,2,none⟩) ∧ (∀ o,W.frozen? ⟨g + 1,o,none⟩ = false) ∧ GS w g x0 x1 x2 W := by
 obtain ⟨vs,r1,r2,r3⟩:=h.row
 exact ⟨r1.cell (i := 0) (by show 0 < 3; omega),r1.cell (i := 1) (by show 1 < 3; omega),r1.cell (i := 2) (by show 2 < 3; omega),cv_some (r2.cell (i := 0) (by omega)),cv_some (r2.cell (i := 1) (by omega)),cv_some (r2.cell (i := 2) (by omega)),fun o => r2.free o,h⟩
theorem GS.fin {w:World} {g:Nat} {x0 x1 x2:Value} {W:World} (h:GS w g x0 x1 x2 W) (y0 y1 y2:Value) :
 (((W.setCell ⟨g + 1,0,none⟩ y0).setCell ⟨g + 1,1,none⟩ y1).setCell ⟨g + 1,2,none⟩ y2).cell? ⟨g + 1,0,none⟩ = some y0 ∧ (((W.setCell ⟨g + 1,0,none⟩ y0).setCell ⟨g + 1,1,none⟩ y1).setCell ⟨g + 1,2,none⟩ y2).cell? ⟨g + 1,1,none⟩ = some y1 ∧ (((W.setCell ⟨g + 1,0,none⟩ y0).setCell ⟨g + 1,1,none⟩ y1).setCell ⟨g + 1,2,none⟩ y2).cell? ⟨g + 1,2,none⟩ = some y2 := by
 obtain ⟨vs,_,r2,r3⟩:=h.row
 have r:=((r2.set 0 y0).set 1 y1).set 2 y2
 obtain ⟨a,b,c,rfl⟩:∃ a b c,vs = [a,b,c] := by
  match vs,r3 with
  | [a,b,c],_ => exact ⟨a,b,c,rfl⟩
 exact ⟨r.cell (i := 0) (by simp),r.cell (i := 1) (by simp),r.cell (i := 2) (by simp)⟩
theorem GS.start (w:World) (x0 x1 x2 y0 y1 y2:Value):GS w w.heap.size x0 x1 x2 ((w.alloc (.cells #[x0,x1,x2] 24)).alloc (.cells #[y0,y1,y2] 24)) := by
 refine ⟨⟨[y0,y1,y2],Row.alloc (Row.new w _ [x0,x1,x2]) _,?_,rfl⟩,((Below.refl _ _).alloc (Nat.le_refl _) _).alloc (by simp) _,Nat.le_refl _⟩
 have:=Row.new (w.alloc (.cells #[x0,x1,x2] 24)) 24 [y0,y1,y2]
 simpa using this
theorem IntsAt.alloc {w:World} {A:Option Addr} {n:Nat} {zs:List Int} (h:IntsAt w A n zs) (o:Obj):IntsAt (w.alloc o) A n zs := h.keep ((Below.refl _ _).alloc (Nat.le_refl _) o)
theorem IntsAt.drew {w:World} {A:Option Addr} {n:Nat} {zs:List Int} (h:IntsAt w A n zs):IntsAt w.drew A n zs := h
theorem made_at {w:World} {g:Nat} (h:g = w.heap.size) (n:Nat):IntsAt (w.alloc (.cells (Array.replicate n (Value.int .i64 0)) 3)) (some ⟨g,0,none⟩) n (List.replicate n 0) := by
 subst h
 have:=(IRow.made w n).ints
 rw [List.length_replicate] at this
 exact this
theorem owns_pos {w:World} {base:Nat} {e:TypeId} {A:Option Addr} {n c:Nat} {xs:List Value} (hn:0 < n) (h:w.ownsRow base e 1 (.slice A n c) n xs):∃ g,A = some ⟨g,0,none⟩ ∧ base ≤ g ∧ g < w.heap.size := by
 rcases h.2 with ⟨_,h0⟩ | ⟨g,cap,cur,h1,h2,h3,_⟩
 ·omega
 ·injection h1 with h1
  exact ⟨g,h1,h2,lt_of_heap h3⟩
theorem own_keep {w w':World} {base base':Nat} {e:TypeId} {v:Value} {n:Nat} {xs:List Value} (h:w.ownsRow base e 1 v n xs) (hb:Below w.heap.size w w') (hle:base' ≤ base):w'.ownsRow base' e 1 v n xs := by
 refine ⟨h.1,?_⟩
 rcases h.2 with hz | ⟨g,cap,cur,r1,r2,r3,r4⟩
 ·exact .inl hz
 ·exact .inr ⟨g,cap,cur,r1,Nat.le_trans hle r2,(hb.block g (lt_of_heap r3)).trans r3,r4⟩
theorem own_set {w:World} {base:Nat} {e:TypeId} {g n c b o:Nat} {v:Value} {xs:List Value} (h:w.ownsRow base e 1 (.slice (some ⟨g,0,none⟩) n c) n xs) (hne:g ≠ b):(w.setCell ⟨b,o,none⟩ v).ownsRow base e 1 (.slice (some ⟨g,0,none⟩) n c) n xs := by
 refine ⟨h.1,?_⟩
 rcases h.2 with hz | ⟨g',cap,cur,r1,r2,r3,r4⟩
 ·exact .inl hz
 ·injection r1 with e1 e2 e3
  injection e1 with e1
  injection e1 with e1
  subst e1
  exact .inr ⟨g,cap,cur,by rw [e3],r2,(Below.heap_setCell w _ v g hne).trans r3,r4⟩
theorem nats_rep (l:List Nat) (k:Nat):(nats l ++ List.replicate k 0).map (Value.int .i64) = (l ++ List.replicate k 0).map (fun j:Nat => Value.int .i64 j) := by
 unfold nats
 simp
set_option maxRecDepth 100000 in
set_option maxHeartbeats 8000000 in
theorem grown_any (d:Pl.Dg) (A B:Option Addr) (cp cq s cs h m m4:Nat) (ss:List Int) (w:World) (hm:m = 4 * d.n) (hm4:m4 = 4 * s) (hg:DgAt w A B d) (hs:IntsAt w (some ⟨h,0,none⟩) s ss) (hn:d.n ≤ 1000) (hs1:1 ≤ s) (hs2:s ≤ 10) :
 Calls Try.prog 79 #[.agg #[.slice A d.n cp,.slice B m cq,.int .i64 d.lp],.slice (some ⟨h,0,none⟩) s cs] w fun e w' => ∃ g1 c1 g2 c2:Nat,e = .returned (.agg #[.slice (some ⟨g1,0,none⟩) (d.n + s) c1,.slice (some ⟨g2,0,none⟩) (m + m4) c2,.int .i64 d.lp]) ∧
  w'.ownsRow w.heap.size 3 1 (.slice (some ⟨g1,0,none⟩) (d.n + s) c1) (d.n + s) ((d.sg ++ ss).map (.int .i64)) ∧ OwnN w' w.heap.size g2 (m + m4) c2 (d.mt ++ List.replicate m4 0) ∧ g1 ≠ g2 ∧ Below w.heap.size w w' := by
 have HS:=hide hg.s
 have HMT:=hide (show IntsAt w B m (nats d.mt) by rw [hm]; exact hg.m)
 have HSS:=hide hs
 have HM:=hide hm
 have hmm:m ≤ 4000:=by omega
 have hm44:m4 ≤ 40:=by omega
 have hmk:=fun W:World => run_ints m4 (by omega) W
 have h44:4 * (s:Int) = (m4:Int):=by omega
 clear hm hm4 hg hs
 have HGS:=hide (GS.start w (.slice A d.n cp) (.slice B m cq) (.int .i64 d.lp) (.slice none 0 0) (.slice none 0 0) (.int .i64 0))
 go_enter Try.func79,Try.ntmps79
 go_wp2
 have hwr:IntKind.i64.wrap (m4:Int) = (m4:Int):=IntWalk.i64_in _ (by omega)
 go_region_held3 (fun w' => w'.cell? ⟨w.heap.size,0,none⟩ = some (.slice A d.n cp) ∧ w'.cell? ⟨w.heap.size,1,none⟩ = some (.slice B m cq) ∧ w'.cell? ⟨w.heap.size,2,none⟩ = some (.int .i64 d.lp) ∧ w'.cell? ⟨w.heap.size + 1,0,none⟩ = some (cv w' ⟨w.heap.size + 1,0,none⟩) ∧ w'.cell? ⟨w.heap.size + 1,1,none⟩ = some (cv w' ⟨w.heap.size + 1,1,none⟩) ∧ w'.cell? ⟨w.heap.size + 1,2,none⟩ = some (cv w' ⟨w.heap.size + 1,2,none⟩) ∧ (∀ o,w'.frozen? ⟨w.heap.size + 1,o,none⟩ = false) ∧ GS w w.heap.size (.slice A d.n cp) (.slice B m cq) (.int .i64 d.lp) w')
  ((go_split_ands; refine GS.all ?_; (repeat (first | assumption | (with_reducible exact HGS.out) | (with_reducible refine GS.set ?_ _ _) | (with_reducible refine GS.alloc ?_ _) | (with_reducible refine GS.drew ?_) | (with_reducible refine GS.below ?_ hba) | (with_reducible refine GS.below ?_ hbb)))))
  (first
    | (go_at_call 130
       refine Calls.mono (concat_ex d.n s _ d.sg ss _ (by omega) ?_ ?_) ?_
       ·refine ⟨A,cp,?_,HS.out.keep (GS.bel (g := w.heap.size) (x0 := .slice A d.n cp) (x1 := .slice B m cq) (x2 := .int .i64 d.lp) ?_)⟩
        ·first | (go_simp; done) | ((with_reducible refine cell_below ?_ hbb); go_simp; done)
        ·repeat (first | assumption | (with_reducible exact HGS.out) | (with_reducible refine GS.set ?_ _ _) | (with_reducible refine GS.alloc ?_ _) | (with_reducible refine GS.drew ?_) | (with_reducible refine GS.below ?_ hba) | (with_reducible refine GS.below ?_ hbb))
       ·refine ⟨some ⟨h,0,none⟩,cs,?_,HSS.out.keep (GS.bel (g := w.heap.size) (x0 := .slice A d.n cp) (x1 := .slice B m cq) (x2 := .int .i64 d.lp) ?_)⟩
        ·first | (go_simp; done) | ((with_reducible refine cell_below ?_ hbb); go_simp; done)
        ·repeat (first | assumption | (with_reducible exact HGS.out) | (with_reducible refine GS.set ?_ _ _) | (with_reducible refine GS.alloc ?_ _) | (with_reducible refine GS.drew ?_) | (with_reducible refine GS.below ?_ hba) | (with_reducible refine GS.below ?_ hbb))
       rintro e wa ⟨Aa,ca,rfl,owna,hba⟩)
    | (go_at_call 130
       refine Calls.mono (concat_ex m m4 _ (nats d.mt) (List.replicate m4 0) _ (by omega) ?_ ?_) ?_
       ·refine ⟨B,cq,?_,HMT.out.keep (GS.bel (g := w.heap.size) (x0 := .slice A d.n cp) (x1 := .slice B m cq) (x2 := .int .i64 d.lp) ?_)⟩
        ·first | (go_simp; done) | ((with_reducible refine cell_below ?_ hba); go_simp; done)
        ·repeat (first | assumption | (with_reducible exact HGS.out) | (with_reducible refine GS.set ?_ _ _) | (with_reducible refine GS.alloc ?_ _) | (with_reducible refine GS.drew ?_) | (with_reducible refine GS.below ?_ hba) | (with_reducible refine GS.below ?_ hbb))
       ·refine ⟨?_,m4,?_,?_⟩
        rotate_left 1
        ·first | (go_simp; rfl) | ((with_reducible refine cell_below ?_ hba); go_simp; rfl)
        ·repeat (first | ((with_reducible refine made_at ?_ _); (simp; done)) | (with_reducible refine made_at rfl _) | (with_reducible refine IntsAt.drew ?_) | (with_reducible refine IntsAt.alloc ?_ _) | (with_reducible refine IntsAt.keep ?_ hba))
       rintro e wb ⟨Ab,cb,rfl,ownb,hbb⟩))
 all_goals
  obtain ⟨g1,rfl,b1,l1⟩:=owns_pos (by omega) owna
  obtain ⟨g2,rfl,b2,l2⟩:=owns_pos (by omega) ownb
  go_wp2
  refine bodyPost_ret (v := .agg #[.slice (some ⟨g1,0,none⟩) (d.n + s) ca,.slice (some ⟨g2,0,none⟩) (m + m4) cb,.int .i64 d.lp]) ?_ rfl ⟨g1,ca,g2,cb,rfl,?_,?_,?_,?_⟩
  ·first
    | (have hx : GS w w.heap.size (.slice A d.n cp) (.slice B m cq) (.int .i64 d.lp) wb := by
        repeat (first | assumption | (with_reducible exact HGS.out) | (with_reducible refine GS.set ?_ _ _) | (with_reducible refine GS.alloc ?_ _) | (with_reducible refine GS.drew ?_) | (with_reducible refine GS.below ?_ hba) | (with_reducible refine GS.below ?_ hbb))
       obtain ⟨e0,e1,e2⟩:=hx.fin (.slice (some ⟨g1,0,none⟩) (d.n + s) ca) (.slice (some ⟨g2,0,none⟩) (m + m4) cb) (.int .i64 d.lp)
       simp [results,Try.results79,go_sem,e0,e1,e2]
       done)
    | (have hx : GS w w.heap.size (.slice A d.n cp) (.slice B m cq) (.int .i64 d.lp) wa := by
        repeat (first | assumption | (with_reducible exact HGS.out) | (with_reducible refine GS.set ?_ _ _) | (with_reducible refine GS.alloc ?_ _) | (with_reducible refine GS.drew ?_) | (with_reducible refine GS.below ?_ hba) | (with_reducible refine GS.below ?_ hbb))
       obtain ⟨e0,e1,e2⟩:=hx.fin (.slice (some ⟨g1,0,none⟩) (d.n + s) ca) (.slice (some ⟨g2,0,none⟩) (m + m4) cb) (.int .i64 d.lp)
       simp [results,Try.results79,go_sem,e0,e1,e2]
       done)
  ·simp at b1 b2
   refine own_set (own_set (own_set ?_ (by omega)) (by omega)) (by omega)
   first
    | (refine own_keep owna (Below.refl _ _) ?_; first | omega | (simp; done) | (simp; omega))
    | (refine own_keep owna (Below.trans ?_ (hbb.mono ?_)) ?_; all_goals (repeat (first | exact Below.refl _ _ | (with_reducible refine Below.drew ?_) | (with_reducible refine Below.alloc ?_ ?_ _) | omega | (simp; done) | (simp; omega))))
  ·simp at b1 b2
   unfold OwnN
   rw [← nats_rep]
   refine own_set (own_set (own_set ?_ (by omega)) (by omega)) (by omega)
   first
    | (refine own_keep ownb (Below.refl _ _) ?_; first | omega | (simp; done) | (simp; omega))
    | (refine own_keep ownb (Below.trans ?_ (hba.mono ?_)) ?_; all_goals (repeat (first | exact Below.refl _ _ | (with_reducible refine Below.drew ?_) | (with_reducible refine Below.alloc ?_ ?_ _) | omega | (simp; done) | (simp; omega))))
  ·simp at b1 b2
   omega
  ·refine GS.bel (g := w.heap.size) (x0 := .slice A d.n cp) (x1 := .slice B m cq) (x2 := .int .i64 d.lp) ?_
   repeat (first | assumption | (with_reducible exact HGS.out) | (with_reducible refine GS.set ?_ _ _) | (with_reducible refine GS.alloc ?_ _) | (with_reducible refine GS.drew ?_) | (with_reducible refine GS.below ?_ hba) | (with_reducible refine GS.below ?_ hbb))
end Go.Proofs.Ytghdiolnonejaaa
end
section
namespace Go.Proofs.Ytghdiolnonejaaa
open Go.RowKit
theorem bcell {W w1:World} (hb:Below W.heap.size W w1):(∀ b o,b < W.heap.size → w1.cell? ⟨b,o,none⟩ = W.cell? ⟨b,o,none⟩) ∧ (∀ b o,b < W.heap.size → w1.frozen? ⟨b,o,none⟩ = W.frozen? ⟨b,o,none⟩) :=
 ⟨fun b o h => hb.cell (p := ⟨b,o,none⟩) h,fun b o h => hb.frozen (p := ⟨b,o,none⟩) h⟩
structure Mv where
 kind:Int
 x:Int
 y:Int
 sign:Int
 over:Bool
def Mv.v (m:Mv):Value := .agg #[.int .i64 m.kind,.int .i64 m.x,.int .i64 m.y,.int .i64 m.sign,.bool m.over]
def fullC (n k:Nat):Int := if 64 < n + k then 5 else 0
def curlableC (d:Pl.Dg) (x:Int):Int := if x < 0 then (if d.lp = 0 then 6 else fullC d.n 1) else if Pl.out d x.toNat = true then fullC d.n 1 else 6
set_option maxRecDepth 100000 in
set_option maxHeartbeats 2000000 in
theorem curlable_any (d:Pl.Dg) (A B:Option Addr) (cp cq:Nat) (k x y sg:Int) (ov:Bool) (w:World) (hg:DgAt w A B d) (hn:d.n ≤ 64) (hlp:d.lp ≤ 64) (hx:-1 ≤ x ∧ x < 4 * d.n) :
 Calls Try.prog 78 #[.agg #[.slice A d.n cp,.slice B (4 * d.n) cq,.int .i64 d.lp],.agg #[.int .i64 k,.int .i64 x,.int .i64 y,.int .i64 sg,.bool ov]] w fun e w' => e = .returned (.int .i64 (curlableC d x)) ∧ Below w.heap.size w w' := by
 obtain ⟨m,hm⟩:∃ m,m = 4 * d.n := ⟨_,rfl⟩
 rw [← hm]
 have HM:=hide hm
 clear hm
 have b0:Below w.heap.size w ((w.alloc (.cells #[.slice A d.n cp,.slice B m cq,.int .i64 d.lp] 24)).alloc (.cells #[.int .i64 k,.int .i64 x,.int .i64 y,.int .i64 sg,.bool ov] 37)):=((Below.refl _ _).alloc (Nat.le_refl _) _).alloc (by simp) _
 have HS:=hide (hg.s.keep b0)
 clear hg
 by_cases hx0:0 ≤ x
 ·obtain ⟨q,rfl⟩:=Int.eq_ofNat_of_zero_le hx0
  have hq:q < 4 * d.n:=by omega
  have t1:decide (0 ≤ (q:Int)) = true:=by simp
  go_enter Try.func78,Try.ntmps78
  go_wp2_with fail
  refine (out2_n d A B d.n cp m cq (.int .i64 d.lp) q _ rfl hq (by omega) HS.out).mono ?_
  rintro e w1 ⟨rfl,hb1⟩
  have b1:=b0.trans (hb1.mono b0.size)
  obtain ⟨hc,hf⟩:=bcell hb1
  have hsz:w.heap.size + 1 < w1.heap.size:=by have := hb1.size; simp at this; omega
  have e0:curlableC d (q:Int) = if Pl.out d q = true then fullC d.n 1 else 6:=by unfold curlableC; rw [if_neg (by omega),Int.toNat_natCast]
  have E0:=hide e0
  clear e0
  clear t1
  go_wp2
  all_goals
   go_ret
   refine ⟨ret_int ?_,b1⟩
   rw [E0.out]
   unfold fullC
   repeat' split
   all_goals first | omega | (exfalso; first | omega | (simp_all; done))
 ·go_enter Try.func78,Try.ntmps78
  go_wp2
  all_goals
   go_ret
   refine ⟨ret_int ?_,b0⟩
   unfold curlableC fullC
   rw [if_pos (by omega)]
   simp only [beq_iff_eq,beq_eq_false_iff_ne,ne_eq] at *
   repeat' split
   all_goals omega
theorem curlable_m (d:Pl.Dg) (A B:Option Addr) (cp cq m:Nat) (k x y sg:Int) (ov:Bool) (w:World) (hm:m = 4 * d.n) (hg:DgAt w A B d) (hn:d.n ≤ 64) (hlp:d.lp ≤ 64) (hx:-1 ≤ x ∧ x < 4 * d.n) :
 Calls Try.prog 78 #[.agg #[.slice A d.n cp,.slice B m cq,.int .i64 d.lp],.agg #[.int .i64 k,.int .i64 x,.int .i64 y,.int .i64 sg,.bool ov]] w fun e w' => e = .returned (.int .i64 (curlableC d x)) ∧ Below w.heap.size w w' := by
 subst hm; exact curlable_any d A B cp cq k x y sg ov w hg hn hlp hx
end Go.Proofs.Ytghdiolnonejaaa
end
section
namespace Go.Proofs.Ytghdiolnonejaaa
open Go.RowKit
def nilD:Value := .agg #[.slice none 0 0,.slice none 0 0,.int .i64 0]
def nilM:Value := .agg #[.int .i64 0,.int .i64 0,.int .i64 0,.int .i64 0,.bool false]
def ResErr (k:Int) (e:Ending):Prop := e = .returned (.tuple #[nilD,nilM,.int .i64 k])
structure DgT (w:World) (A:Option Addr) (B:Option Addr) (d:Pl.Dg):Prop where
 s:RowT w 3 A d.n (d.sg.map (.int .i64))
 m:RowT w 3 B (4 * d.n) ((nats d.mt).map (.int .i64))
theorem DgT.at {w:World} {A B:Option Addr} {d:Pl.Dg} (h:DgT w A B d):DgAt w A B d := ⟨h.s.row,h.m.row⟩
theorem DgT.keep {w w':World} {A B:Option Addr} {d:Pl.Dg} (h:DgT w A B d) (hb:Below w.heap.size w w'):DgT w' A B d := ⟨h.s.keep hb,h.m.keep hb⟩
theorem own_intsT {w:World} {base:Nat} {e:TypeId} {A:Option Addr} {n c:Nat} {zs:List Int} (h:w.ownsRow base e 1 (.slice A n c) n (zs.map (.int .i64))):RowT w e A n (zs.map (.int .i64)) := by
 have hl:=h.1
 refine ⟨by simpa using hl,fun hn => ?_⟩
 rcases h.2 with ⟨_,h2⟩ | ⟨g,cap,cur,h1,_,h3,_,_,_,h7⟩
 ·omega
 ·injection h1 with h1 _ _
  refine ⟨g,0,cur,(0,0),h1,h3,fun j u hu => ?_⟩
  rw [Nat.zero_add,← Array.getElem?_toList]
  have h9:=hu
  rw [← h7,List.getElem?_take] at h9
  split at h9
  ·exact h9
  ·exact absurd h9 (by simp)
theorem OwnN.intsT {w:World} {base g n c:Nat} {l:List Nat} (h:OwnN w base g n c l):RowT w 3 (some ⟨g,0,none⟩) n ((nats l).map (.int .i64)) := by
 refine own_intsT (base := base) (e := 3) (c := c) ?_
 unfold OwnN at h
 unfold nats
 rw [List.map_map]
 exact h
def ResOk (r:Pl.Dg) (mv:Mv) (e:Ending) (w':World):Prop :=
 ∃ (A B:Option Addr) (c1 c2:Nat),e = .returned (.tuple #[.agg #[.slice A r.n c1,.slice B (4 * r.n) c2,.int .i64 r.lp],mv.v,.int .i64 0]) ∧ DgT w' A B r
theorem fin8 {W:World} {gd gm:Nat} {vs us:List Value} (h1:Row W gd 24 vs) (h2:Row W gm 37 us) (l1:vs.length = 3) (l2:us.length = 5) (hne:gd ≠ gm) (y0 y1 y2 z0 z1 z2 z3 z4:Value) :
 ((((((((W.setCell ⟨gd,0,none⟩ y0).setCell ⟨gd,1,none⟩ y1).setCell ⟨gd,2,none⟩ y2).setCell ⟨gm,0,none⟩ z0).setCell ⟨gm,1,none⟩ z1).setCell ⟨gm,2,none⟩ z2).setCell ⟨gm,3,none⟩ z3).setCell ⟨gm,4,none⟩ z4).cell? ⟨gd,0,none⟩ = some y0 ∧ ((((((((W.setCell ⟨gd,0,none⟩ y0).setCell ⟨gd,1,none⟩ y1).setCell ⟨gd,2,none⟩ y2).setCell ⟨gm,0,none⟩ z0).setCell ⟨gm,1,none⟩ z1).setCell ⟨gm,2,none⟩ z2).setCell ⟨gm,3,none⟩ z3).setCell ⟨gm,4,none⟩ z4).cell? ⟨gd,1,none⟩ = some y1 ∧ ((((((((W.setCell ⟨gd,0,none⟩ y0).setCell ⟨gd,1,none⟩ y1).setCell ⟨gd,2,none⟩ y2).setCell ⟨gm,0,none⟩ z0).setCell ⟨gm,1,none⟩ z1).setCell ⟨gm,2,none⟩ z2).setCell ⟨gm,3,none⟩ z3).setCell ⟨gm,4,none⟩ z4).cell? ⟨gd,2,none⟩ = some y2 ∧ ((((((((W.setCell ⟨gd,0,none⟩ y0).setCell ⟨gd,1,none⟩ y1).setCell ⟨gd,2,none⟩ y2).setCell ⟨gm,0,none⟩ z0).setCell ⟨gm,1,none⟩ z1).setCell ⟨gm,2,none⟩ z2).setCell ⟨gm,3,none⟩ z3).setCell ⟨gm,4,none⟩ z4).cell? ⟨gm,0,none⟩ = some z0 ∧ ((((((((W.setCell ⟨gd,0,none⟩ y0).setCell ⟨gd,1,none⟩ y1).setCell ⟨gd,2,none⟩ y2).setCell ⟨gm,0,none⟩ z0).setCell ⟨gm,1,none⟩ z1).setCell ⟨gm,2,none⟩ z2).setCell ⟨gm,3,none⟩ z3).setCell ⟨gm,4,none⟩ z4).cell? ⟨gm,1,none⟩ = some z1 ∧ ((((((((W.setCell ⟨gd,0,none⟩ y0).setCell ⟨gd,1,none⟩ y1).setCell ⟨gd,2,none⟩ y2).setCell ⟨gm,0,none⟩ z0).setCell ⟨gm,1,none⟩ z1).setCell ⟨gm,2,none⟩ z2).setCell ⟨gm,3,none⟩ z3).setCell ⟨gm,4,none⟩ z4).cell? ⟨gm,2,none⟩ = some z2 ∧ ((((((((W.setCell ⟨gd,0,none⟩ y0).setCell ⟨gd,1,none⟩ y1).setCell ⟨gd,2,none⟩ y2).setCell ⟨gm,0,none⟩ z0).setCell ⟨gm,1,none⟩ z1).setCell ⟨gm,2,none⟩ z2).setCell ⟨gm,3,none⟩ z3).setCell ⟨gm,4,none⟩ z4).cell? ⟨gm,3,none⟩ = some z3 ∧ ((((((((W.setCell ⟨gd,0,none⟩ y0).setCell ⟨gd,1,none⟩ y1).setCell ⟨gd,2,none⟩ y2).setCell ⟨gm,0,none⟩ z0).setCell ⟨gm,1,none⟩ z1).setCell ⟨gm,2,none⟩ z2).setCell ⟨gm,3,none⟩ z3).setCell ⟨gm,4,none⟩ z4).cell? ⟨gm,4,none⟩ = some z4 := by
 obtain ⟨a,b,c,rfl⟩:∃ a b c,vs = [a,b,c] := by
  match vs,l1 with
  | [a,b,c],_ => exact ⟨a,b,c,rfl⟩
 obtain ⟨a',b',c',d',e',rfl⟩:∃ a b c d e,us = [a,b,c,d,e] := by
  match us,l2 with
  | [a,b,c,d,e],_ => exact ⟨a,b,c,d,e,rfl⟩
 have r1:=((((((((h1.set 0 y0).set 1 y1).set 2 y2).other (a := ⟨gm,0,none⟩) hne z0).other (a := ⟨gm,1,none⟩) hne z1).other (a := ⟨gm,2,none⟩) hne z2).other (a := ⟨gm,3,none⟩) hne z3).other (a := ⟨gm,4,none⟩) hne z4)
 have r2:=((((((((h2.other (a := ⟨gd,0,none⟩) (Ne.symm hne) y0).other (a := ⟨gd,1,none⟩) (Ne.symm hne) y1).other (a := ⟨gd,2,none⟩) (Ne.symm hne) y2).set 0 z0).set 1 z1).set 2 z2).set 3 z3).set 4 z4)
 exact ⟨r1.cell (i := 0) (by simp),r1.cell (i := 1) (by simp),r1.cell (i := 2) (by simp),r2.cell (i := 0) (by simp),r2.cell (i := 1) (by simp),r2.cell (i := 2) (by simp),r2.cell (i := 3) (by simp),r2.cell (i := 4) (by simp)⟩
theorem box3 {W:World} {g:Nat} {t:TypeId} {a b c:Value} (h:Row W g t [a,b,c]):W.cell? ⟨g,0,none⟩ = some a ∧ W.cell? ⟨g,1,none⟩ = some b ∧ W.cell? ⟨g,2,none⟩ = some c ∧ ∀ o,W.frozen? ⟨g,o,none⟩ = false :=
 ⟨h.cell (i := 0) (by simp),h.cell (i := 1) (by simp),h.cell (i := 2) (by simp),h.free⟩
theorem box5 {W:World} {g:Nat} {t:TypeId} {a b c d e:Value} (h:Row W g t [a,b,c,d,e]):W.cell? ⟨g,0,none⟩ = some a ∧ W.cell? ⟨g,1,none⟩ = some b ∧ W.cell? ⟨g,2,none⟩ = some c ∧ W.cell? ⟨g,3,none⟩ = some d ∧ W.cell? ⟨g,4,none⟩ = some e ∧ ∀ o,W.frozen? ⟨g,o,none⟩ = false :=
 ⟨h.cell (i := 0) (by simp),h.cell (i := 1) (by simp),h.cell (i := 2) (by simp),h.cell (i := 3) (by simp),h.cell (i := 4) (by simp),h.free⟩
theorem own_grown {w w':World} {base:Nat} {e:TypeId} {g g' n c:Nat} {xs:List Value} (h:w.ownsRow base e 1 (.slice (some ⟨g,0,none⟩) n c) n xs) (hg:w.grownBy w' (some g')) (hne:g ≠ g'):w'.ownsRow base e 1 (.slice (some ⟨g,0,none⟩) n c) n xs := by
 refine ⟨h.1,?_⟩
 rcases h.2 with hz | ⟨k,cap,cur,r1,r2,r3,r4⟩
 ·exact .inl hz
 ·injection r1 with e1 e2 e3
  injection e1 with e1
  injection e1 with e1
  subst e1
  subst e3
  exact .inr ⟨g,c,cur,rfl,r2,(hg.block g (lt_of_heap r3) (by intro h; injection h; omega)).trans r3,r4⟩
theorem own_ints {w:World} {base:Nat} {e:TypeId} {g n c:Nat} {zs:List Int} (h:w.ownsRow base e 1 (.slice (some ⟨g,0,none⟩) n c) n (zs.map (.int .i64))):IntsAt w (some ⟨g,0,none⟩) n zs := by
 have hl:=h.1
 refine ⟨by simpa using hl,fun _ => ⟨g,0,rfl,fun j u hu => ?_⟩⟩
 rw [Nat.zero_add]
 have hj:j < n:=by
  have:=(List.getElem?_eq_some_iff.mp hu).1
  simp at this hl
  omega
 rw [World.ownsRow.cellAt h j (by simpa using hj)]
 exact hu
theorem OwnN.ints {w:World} {base g n c:Nat} {l:List Nat} (h:OwnN w base g n c l):IntsAt w (some ⟨g,0,none⟩) n (nats l) := by
 refine own_ints (base := base) (e := 3) (c := c) ?_
 unfold OwnN at h
 unfold nats
 rw [List.map_map]
 exact h
theorem Row.drew' {w W:World} {g:Nat} {t:TypeId} {vs:List Value} (e:W = w.drew) (h:Row w g t vs):Row W g t vs := e ▸ h
theorem own_drew {w W:World} {base:Nat} {t:TypeId} {v:Value} {n:Nat} {xs:List Value} (e:W = w.drew) (h:w.ownsRow base t 1 v n xs):W.ownsRow base t 1 v n xs := by subst e; exact h
theorem OwnN.drew' {w W:World} {base g n c:Nat} {l:List Nat} (e:W = w.drew) (h:OwnN w base g n c l):OwnN W base g n c l := by subst e; exact h
def kI0 (n:Nat) (sg:Int) (ov:Bool):Nat := if ov then (if sg = -1 then 4 * n + 1 else 4 * n + 3) else 4 * n
def kO0 (n:Nat) (sg:Int) (ov:Bool):Nat := if ov then (if sg = -1 then 4 * n + 3 else 4 * n + 1) else 4 * n + 2
def kI1 (n:Nat) (sg:Int) (ov:Bool):Nat := if ov then 4 * n else (if sg = -1 then 4 * n + 1 else 4 * n + 3)
def kO1 (n:Nat) (sg:Int) (ov:Bool):Nat := if ov then 4 * n + 2 else (if sg = -1 then 4 * n + 3 else 4 * n + 1)
def crl (d:Pl.Dg) (x sg:Int) (ov:Bool):Pl.Dg where
 sg := d.sg ++ [sg]
 mt := if x < 0 then jn (jn (d.mt ++ List.replicate 4 0) (kO0 d.n sg ov) (kI1 d.n sg ov)) (kO1 d.n sg ov) (kI0 d.n sg ov) else jn (jn (jn (d.mt ++ List.replicate 4 0) (kO0 d.n sg ov) (kI1 d.n sg ov)) (kO1 d.n sg ov) (d.m x.toNat)) x.toNat (kI0 d.n sg ov)
 lp := if x < 0 then d.lp - 1 else d.lp
theorem crl_n (d:Pl.Dg) (x sg:Int) (ov:Bool):(crl d x sg ov).n = d.n + 1 := by unfold Pl.Dg.n crl; simp
def CurlPost (d:Pl.Dg) (x sg:Int) (ov:Bool) (w:World) (e:Ending) (w':World):Prop := (curlableC d x ≠ 0 → ResErr (curlableC d x) e) ∧ (curlableC d x = 0 → ResOk (crl d x sg ov) ⟨2,d.n,0,0,false⟩ e w') ∧ Below w.heap.size w w'
theorem Row.cast {W W3:World} {g:Nat} {t:TypeId} {vs:List Value} (h:W3 = W) (r:Row W g t vs):Row W3 g t vs := h ▸ r
set_option maxRecDepth 100000 in
set_option maxHeartbeats 4000000 in
theorem curl_any (d:Pl.Dg) (hd:Pl.Wf d) (A B:Option Addr) (cp cq:Nat) (k x y sg:Int) (ov:Bool) (w:World) (hg:DgAt w A B d) (hx:-1 ≤ x ∧ x < 4 * d.n) (hsg:sg = 1 ∨ sg = -1) :
 Calls Try.prog 49 #[.agg #[.slice A d.n cp,.slice B (4 * d.n) cq,.int .i64 d.lp],.agg #[.int .i64 k,.int .i64 x,.int .i64 y,.int .i64 sg,.bool ov]] w (CurlPost d x sg ov w) := by
 have hn:=hd.few
 have hlp:=hd.lp
 obtain ⟨m,hm⟩:∃ m,m = 4 * d.n := ⟨_,rfl⟩
 have HG:=hide hg
 clear hg
 rw [← hm]
 have HM:=hide hm
 clear hm
 have b0:Below w.heap.size w ((((w.alloc (.cells #[.slice A d.n cp,.slice B m cq,.int .i64 d.lp] 24)).alloc (.cells #[.int .i64 k,.int .i64 x,.int .i64 y,.int .i64 sg,.bool ov] 37)).alloc (.cells #[.slice none 0 0,.slice none 0 0,.int .i64 0] 24)).alloc (.cells #[.int .i64 0,.int .i64 0,.int .i64 0,.int .i64 0,.bool false] 37)):=((((Below.refl _ _).alloc (Nat.le_refl _) _).alloc (by simp) _).alloc (by simp; omega) _).alloc (by simp; omega) _
 have x2:Row ((((w.alloc (.cells #[.slice A d.n cp,.slice B m cq,.int .i64 d.lp] 24)).alloc (.cells #[.int .i64 k,.int .i64 x,.int .i64 y,.int .i64 sg,.bool ov] 37)).alloc (.cells #[.slice none 0 0,.slice none 0 0,.int .i64 0] 24)).alloc (.cells #[.int .i64 0,.int .i64 0,.int .i64 0,.int .i64 0,.bool false] 37)) (w.heap.size + 1 + 1) 24 [.slice none 0 0,.slice none 0 0,.int .i64 0]:=by
  have:=(Row.new ((w.alloc (.cells #[.slice A d.n cp,.slice B m cq,.int .i64 d.lp] 24)).alloc (.cells #[.int .i64 k,.int .i64 x,.int .i64 y,.int .i64 sg,.bool ov] 37)) 24 [.slice none 0 0,.slice none 0 0,.int .i64 0]).alloc (.cells #[.int .i64 0,.int .i64 0,.int .i64 0,.int .i64 0,.bool false] 37)
  simpa using this
 have x3:Row ((((w.alloc (.cells #[.slice A d.n cp,.slice B m cq,.int .i64 d.lp] 24)).alloc (.cells #[.int .i64 k,.int .i64 x,.int .i64 y,.int .i64 sg,.bool ov] 37)).alloc (.cells #[.slice none 0 0,.slice none 0 0,.int .i64 0] 24)).alloc (.cells #[.int .i64 0,.int .i64 0,.int .i64 0,.int .i64 0,.bool false] 37)) (w.heap.size + 1 + 1 + 1) 37 [.int .i64 0,.int .i64 0,.int .i64 0,.int .i64 0,.bool false]:=by
  have:=Row.new (((w.alloc (.cells #[.slice A d.n cp,.slice B m cq,.int .i64 d.lp] 24)).alloc (.cells #[.int .i64 k,.int .i64 x,.int .i64 y,.int .i64 sg,.bool ov] 37)).alloc (.cells #[.slice none 0 0,.slice none 0 0,.int .i64 0] 24)) 37 [.int .i64 0,.int .i64 0,.int .i64 0,.int .i64 0,.bool false]
  simpa using this
 have X0:=hide (show Row ((((w.alloc (.cells #[.slice A d.n cp,.slice B m cq,.int .i64 d.lp] 24)).alloc (.cells #[.int .i64 k,.int .i64 x,.int .i64 y,.int .i64 sg,.bool ov] 37)).alloc (.cells #[.slice none 0 0,.slice none 0 0,.int .i64 0] 24)).alloc (.cells #[.int .i64 0,.int .i64 0,.int .i64 0,.int .i64 0,.bool false] 37)) w.heap.size 24 [.slice A d.n cp,.slice B m cq,.int .i64 d.lp] from (((Row.new w _ [.slice A d.n cp,.slice B m cq,.int .i64 d.lp]).alloc _).alloc _).alloc _)
 have X1:=hide (show Row ((((w.alloc (.cells #[.slice A d.n cp,.slice B m cq,.int .i64 d.lp] 24)).alloc (.cells #[.int .i64 k,.int .i64 x,.int .i64 y,.int .i64 sg,.bool ov] 37)).alloc (.cells #[.slice none 0 0,.slice none 0 0,.int .i64 0] 24)).alloc (.cells #[.int .i64 0,.int .i64 0,.int .i64 0,.int .i64 0,.bool false] 37)) (w.heap.size + 1) 37 [.int .i64 k,.int .i64 x,.int .i64 y,.int .i64 sg,.bool ov] by
  have:=((Row.new (w.alloc (.cells #[.slice A d.n cp,.slice B m cq,.int .i64 d.lp] 24)) 37 [.int .i64 k,.int .i64 x,.int .i64 y,.int .i64 sg,.bool ov]).alloc (.cells #[.slice none 0 0,.slice none 0 0,.int .i64 0] 24)).alloc (.cells #[.int .i64 0,.int .i64 0,.int .i64 0,.int .i64 0,.bool false] 37)
  simpa using this)
 have X2:=hide x2
 have X3:=hide x3
 clear x2 x3
 go_enter Try.func49,Try.ntmps49
 go_wp2_with fail
 refine (curlable_m d A B cp cq m k x y sg ov _ HM.out (HG.out.keep b0) hn hlp hx).mono ?_
 rintro e w1 ⟨rfl,hb1⟩
 have b1:=b0.trans (hb1.mono b0.size)
 have Y0:=hide (X0.out.below hb1)
 have Y1:=hide (X1.out.below hb1)
 have Y2:=hide (X2.out.below hb1)
 have Y3:=hide (X3.out.below hb1)
 obtain ⟨hc,hf⟩:=bcell hb1
 have hsz:w.heap.size + 3 < w1.heap.size:=by have := hb1.size; simp at this; omega
 have l1:w.heap.size < w1.heap.size:=by omega
 have l2:w.heap.size + 1 < w1.heap.size:=by omega
 have l3:w.heap.size + 1 + 1 < w1.heap.size:=by omega
 have l4:w.heap.size + 1 + 1 + 1 < w1.heap.size:=by omega
 by_cases hC:curlableC d x = 0
 ·have t1:(curlableC d x != 0) = false:=by rw [bne_eq_false_iff_eq]; exact hC
  have HC:=hide hC
  clear hC
  have b2:Below w.heap.size w (w1.alloc (.cells #[.int .i64 sg] 3)):=b1.alloc (by omega) _
  have HSS:=hide (show IntsAt (w1.alloc (.cells #[.int .i64 sg] 3)) (some ⟨w1.heap.size,0,none⟩) 1 [sg] by
   refine ⟨rfl,fun _ => ⟨_,0,rfl,fun j u hu => ?_⟩⟩
   match j,hu with
   | 0,hu => simp at hu; subst hu; exact (Lib.cell_of_heap (heap_alloc_new w1 _) 0).trans rfl)
  rcases hsg with rfl | rfl <;> cases ov
  all_goals
   go_wp2_with fail
   refine (grown_any d A B cp cq 1 1 w1.heap.size m 4 [_] _ HM.out (by omega) (HG.out.keep b2) HSS.out (by omega) (by omega) (by omega)).mono ?_
   rintro e w2 ⟨g1,c1,g2,c2,rfl,own1,own2,hne,hb2⟩
   have b3:=b2.trans (hb2.mono b2.size)
   have hsz2:w1.heap.size + 1 ≤ w2.heap.size:=by have := hb2.size; simp at this; omega
   have k1:w.heap.size + 1 + 1 + 1 < w2.heap.size:=by omega
   obtain ⟨W3,hW3⟩:∃ W3:World,W3 = w2.alloc (.cells #[.slice (some ⟨g1,0,none⟩) (d.n + 1) c1,.slice (some ⟨g2,0,none⟩) (m + 4) c2,.int .i64 d.lp] 24) := ⟨_,rfl⟩
   have Z0:=hide (show Row W3 w.heap.size 24 [.slice A d.n cp,.slice B m cq,.int .i64 d.lp] by rw [hW3]; exact ((Y0.out.alloc _).below hb2).alloc _)
   have Z1:=hide (Row.cast hW3 (((Y1.out.alloc _).below hb2).alloc _))
   have T2:=hide (show Row W3 (w.heap.size + 1 + 1) 24 [.slice none 0 0,.slice none 0 0,.int .i64 0] by rw [hW3]; exact ((Y2.out.alloc _).below hb2).alloc _)
   have T3:=hide (show Row W3 (w.heap.size + 1 + 1 + 1) 37 [.int .i64 0,.int .i64 0,.int .i64 0,.int .i64 0,.bool false] by rw [hW3]; exact ((Y3.out.alloc _).below hb2).alloc _)
   have Z9:=hide (show Row W3 w2.heap.size 24 [.slice (some ⟨g1,0,none⟩) (d.n + 1) c1,.slice (some ⟨g2,0,none⟩) (m + 4) c2,.int .i64 d.lp] by rw [hW3]; exact Row.new w2 _ _)
   have ZN:=hide (show OwnN W3 w1.heap.size g2 (m + 4) c2 (d.mt ++ List.replicate 4 0) by rw [hW3]; exact own_keep own2 ((Below.refl _ _).alloc (Nat.le_refl _) _) (by simp))
   obtain ⟨e0,e1,e2,e3,e4,e5⟩:=box5 (((Y1.out.alloc (.cells #[.int .i64 _] 3)).below hb2).alloc (.cells #[.slice (some ⟨g1,0,none⟩) (d.n + 1) c1,.slice (some ⟨g2,0,none⟩) (m + 4) c2,.int .i64 d.lp] 24))
   have T1:=hide (own_keep own1 ((Below.refl _ _).alloc (Nat.le_refl _) (.cells #[.slice (some ⟨g1,0,none⟩) (d.n + 1) c1,.slice (some ⟨g2,0,none⟩) (m + 4) c2,.int .i64 d.lp] 24)) (Nat.le_refl _))
   rw [← hW3] at T1
   obtain ⟨g2',eg2,lg2,ug2⟩:=owns_pos (by omega) own2
   injection eg2 with eg2
   injection eg2 with eg2 eg3
   subst eg2
   simp at lg2
   obtain ⟨g1',eg1,lg1,ug1⟩:=owns_pos (by omega) own1
   injection eg1 with eg1
   injection eg1 with eg1 eg4
   subst eg1
   simp at lg1
   clear own1 own2 t1 eg3 eg4
   go_wp2_with fail
   rw [← hW3]
   clear e0 e1 e2 e3 e4 e5
   refine (join_int w1.heap.size g2 (m + 4) c2 _ _ (d.mt ++ List.replicate 4 0) W3 ZN.out (by have := HM.out; omega) (by have := HM.out; omega) (by have := HM.out; omega)).mono ?_
   rintro e w4 ⟨rfl,own4,gr4⟩
   have V0:=hide (Z0.out.grown gr4 (by intro h; injection h; omega))
   have V1:=hide (Z1.out.grown gr4 (by intro h; injection h; omega))
   have V9:=hide (Z9.out.grown gr4 (by intro h; injection h; omega))
   have hs4:w2.heap.size + 1 ≤ w4.heap.size:=by have := gr4.size; rw [hW3] at this; simpa using this
   have b33:Below w.heap.size w W3:=by rw [hW3]; exact b3.alloc (by omega) _
   have b4:Below w.heap.size w w4:=b33.grown gr4 b33.size (fun k hk => by injection hk with hk; omega)
   clear b33
   have HG4:=hide (HG.out.keep b4)
   have v1:w4.cell? ⟨w.heap.size + 1,1,none⟩ = some (.int .i64 x):=V1.out.cell (i := 1) (by show 1 < 5; omega)
   have OWN4:=hide own4
   have v9:w4.cell? ⟨w2.heap.size,1,none⟩ = some (.slice (some ⟨g2,0,none⟩) (m + 4) c2):=V9.out.cell (i := 1) (by show 1 < 3; omega)
   have v0:w4.cell? ⟨w.heap.size,1,none⟩ = some (.slice B m cq):=V0.out.cell (i := 1) (by show 1 < 3; omega)
   clear own4
   by_cases hx0:x < 0
   ·have t2:decide (x < 0) = true:=by simpa using hx0
    go_wp2_with fail
    refine (join_int w1.heap.size g2 (m + 4) c2 _ _ _ w4 OWN4.out (by have := HM.out; omega) (by have := HM.out; omega) (by have := HM.out; omega)).mono ?_
    rintro e w5 ⟨rfl,own5,gr5⟩
    have U9:=hide (V9.out.grown gr5 (by intro h; injection h; omega))
    have hs5:=gr5.size
    have b5:Below w.heap.size w w5:=b4.grown gr5 b4.size (fun k hk => by injection hk with hk; omega)
    have R2:=hide (show Row w5 (w.heap.size + 1 + 1) 24 [.slice none 0 0,.slice none 0 0,.int .i64 0] from (T2.out.grown gr4 (by intro h; injection h; omega)).grown gr5 (by intro h; injection h; omega))
    have R3:=hide (show Row w5 (w.heap.size + 1 + 1 + 1) 37 [.int .i64 0,.int .i64 0,.int .i64 0,.int .i64 0,.bool false] from (T3.out.grown gr4 (by intro h; injection h; omega)).grown gr5 (by intro h; injection h; omega))
    obtain ⟨q0,q1,q2,q3⟩:=box3 R2.out
    obtain ⟨p0,p1,p2,p3,p4,p5⟩:=box5 R3.out
    have u9:w5.cell? ⟨w2.heap.size,2,none⟩ = some (.int .i64 d.lp):=U9.out.cell (i := 2) (by show 2 < 3; omega)
    have u90:w5.cell? ⟨w2.heap.size,0,none⟩ = some (.slice (some ⟨g1,0,none⟩) (d.n + 1) c1):=U9.out.cell (i := 0) (by show 0 < 3; omega)
    have u91:w5.cell? ⟨w2.heap.size,1,none⟩ = some (.slice (some ⟨g2,0,none⟩) (m + 4) c2):=U9.out.cell (i := 1) (by show 1 < 3; omega)
    have uf:w5.frozen? ⟨w2.heap.size,2,none⟩ = false:=U9.out.free 2
    have OWN5:=hide own5
    have S5:=hide (own_grown (own_grown T1.out gr4 hne) gr5 hne)
    clear own5 gr4 gr5 v9 v0 v1
    go_wp2_with fail
    clear q0 q1 q2 q3 p0 p1 p2 p3 p4 p5
    refine bodyPost_ret (v := .tuple #[.agg #[.slice (some ⟨g1,0,none⟩) (d.n + 1) c1,.slice (some ⟨g2,0,none⟩) (m + 4) c2,.int .i64 ((d.lp:Int) - 1)],.agg #[.int .i64 2,.int .i64 d.n,.int .i64 0,.int .i64 0,.bool false],.int .i64 0]) ?_ rfl ?_
    ·obtain ⟨e0,e1,e2,e3,e4,e5,e6,e7⟩:=fin8 (R2.out.other (a := ⟨w2.heap.size,2,none⟩) (by show _ ≠ w2.heap.size; omega) (.int .i64 ((d.lp:Int) - 1))) (R3.out.other (a := ⟨w2.heap.size,2,none⟩) (by show _ ≠ w2.heap.size; omega) (.int .i64 ((d.lp:Int) - 1))) rfl rfl (by omega) (.slice (some ⟨g1,0,none⟩) (d.n + 1) c1) (.slice (some ⟨g2,0,none⟩) (m + 4) c2) (.int .i64 ((d.lp:Int) - 1)) (.int .i64 2) (.int .i64 d.n) (.int .i64 0) (.int .i64 0) (.bool false)
     simp [results,Try.results49,go_sem,e0,e1,e2,e3,e4,e5,e6,e7]
    ·have hl1 : 1 ≤ d.lp := by
      have:=HC.out
      unfold curlableC at this
      rw [if_pos hx0] at this
      by_cases h0:d.lp = 0
      ·rw [if_pos h0] at this; omega
      ·omega
     have en:=crl_n d x
     have em:m + 4 = 4 * (d.n + 1):=by have := HM.out; omega
     have el:((d.lp:Int) - 1) = ((d.lp - 1:Nat):Int):=by omega
     have O5:=OWN5.out
     simp only [show (4 * (d.n:Int)).toNat = 4 * d.n by omega,show (4 * (d.n:Int) + 1).toNat = 4 * d.n + 1 by omega,show (4 * (d.n:Int) + 2).toNat = 4 * d.n + 2 by omega,show (4 * (d.n:Int) + 3).toNat = 4 * d.n + 3 by omega] at O5
     refine ⟨fun h => absurd HC.out h,fun _ => ⟨some ⟨g1,0,none⟩,some ⟨g2,0,none⟩,c1,c2,?_,?_,?_⟩,?_⟩
     ·rw [en,el,em]
      unfold crl Mv.v
      simp only [if_pos hx0]
     ·rw [en]
      refine own_intsT (base := w1.heap.size + 1) (e := 3) (c := c1) ?_
      (iterate 9 refine own_set ?_ (by omega))
      have:=S5.out
      simp at this
      simpa [crl] using this
     ·rw [en,← em]
      refine OwnN.intsT (base := w1.heap.size) (c := c2) ?_
      unfold OwnN
      (iterate 9 refine own_set ?_ (by omega))
      unfold OwnN at O5
      unfold crl kI0 kI1 kO0 kO1
      simp only [if_pos hx0]
      first
       | exact O5
       | (simp; exact O5)
       | (simp at O5 ⊢; exact O5)
     ·exact (((((((((b5.setCell (by simp; omega) _).setCell (by simp; omega) _).setCell (by simp; omega) _).setCell (by simp; omega) _).setCell (by simp; omega) _).setCell (by simp; omega) _).setCell (by simp; omega) _).setCell (by simp; omega) _).setCell (by simp; omega) _)
   ·obtain ⟨q,rfl⟩:=Int.eq_ofNat_of_zero_le (show 0 ≤ x by omega)
    have t2:decide ((q:Int) < 0) = false:=by simp
    have hq:q < 4 * d.n:=by omega
    obtain ⟨b,o,rfl,cm⟩:=mate_at HG4.out.m hq
    have hmn:d.m q < 4 * d.n:=hd.lt q hq
    have hqm:q < m:=by have := HM.out; omega
    have hqm2:(q:Int) < (m:Int):=by omega
    have hqm3:(0:Int) ≤ (q:Int):=by omega
    go_upto_region 17 with fail
    go_still_tail 9,(by kernel_rfl)
    change wpList _ _ _ _ _ w4.drew
    obtain ⟨W6,hW6⟩:∃ W6:World,W6 = w4.drew := ⟨_,rfl⟩
    rw [← hW6]
    have OWN6:=hide (OwnN.drew' hW6 OWN4.out)
    have S6:=hide (own_drew hW6 (own_grown T1.out gr4 hne))
    have R26:=hide (Row.drew' hW6 (T2.out.grown gr4 (by intro h; injection h; omega)))
    have R36:=hide (Row.drew' hW6 (T3.out.grown gr4 (by intro h; injection h; omega)))
    have V16:=hide (Row.drew' hW6 V1.out)
    have V96:=hide (Row.drew' hW6 V9.out)
    have b6:Below w.heap.size w W6:=by rw [hW6]; exact b4.drew
    have hs6:w2.heap.size + 1 ≤ W6.heap.size:=by rw [hW6]; exact hs4
    clear hW6
    clear gr4 v9 v0 v1 cm
    go_wp2_with fail
    refine (join_int w1.heap.size g2 (m + 4) c2 _ _ _ W6 OWN6.out (by have := HM.out; omega) (by have := HM.out; omega) (by have := HM.out; omega)).mono ?_
    rintro e w5 ⟨rfl,own5,gr5⟩
    have V15:=hide (V16.out.grown gr5 (by intro h; injection h; omega))
    have V95:=hide (V96.out.grown gr5 (by intro h; injection h; omega))
    have S5:=hide (own_grown S6.out gr5 hne)
    have R25:=hide (R26.out.grown gr5 (by intro h; injection h; omega))
    have R35:=hide (R36.out.grown gr5 (by intro h; injection h; omega))
    have b5:Below w.heap.size w w5:=b6.grown gr5 b6.size (fun k hk => by injection hk with hk; omega)
    have hs5:=gr5.size
    have OWN5:=hide own5
    have v9:w5.cell? ⟨w2.heap.size,1,none⟩ = some (.slice (some ⟨g2,0,none⟩) (m + 4) c2):=V95.out.cell (i := 1) (by show 1 < 3; omega)
    have v1:w5.cell? ⟨w.heap.size + 1,1,none⟩ = some (.int .i64 (q:Int)):=V15.out.cell (i := 1) (by show 1 < 5; omega)
    clear own5 gr5
    go_wp2_with fail
    refine (join_int w1.heap.size g2 (m + 4) c2 _ _ _ w5 OWN5.out (by have := HM.out; omega) (by have := HM.out; omega) (by have := HM.out; omega)).mono ?_
    rintro e w7 ⟨rfl,own7,gr7⟩
    have S7:=hide (own_grown S5.out gr7 hne)
    have R2:=hide (show Row w7 (w.heap.size + 1 + 1) 24 [.slice none 0 0,.slice none 0 0,.int .i64 0] from R25.out.grown gr7 (by intro h; injection h; omega))
    have R3:=hide (show Row w7 (w.heap.size + 1 + 1 + 1) 37 [.int .i64 0,.int .i64 0,.int .i64 0,.int .i64 0,.bool false] from R35.out.grown gr7 (by intro h; injection h; omega))
    have b7:Below w.heap.size w w7:=b5.grown gr7 b5.size (fun k hk => by injection hk with hk; omega)
    obtain ⟨q0,q1,q2,q3⟩:=box3 R2.out
    obtain ⟨p0,p1,p2,p3,p4,p5⟩:=box5 R3.out
    obtain ⟨u0,u1,u2,u3⟩:=box3 (V95.out.grown gr7 (by intro h; injection h; omega))
    have OWN7:=hide own7
    clear own7 gr7 v9 v1
    go_wp2_with fail
    clear q0 q1 q2 q3 p0 p1 p2 p3 p4 p5 u0 u1 u2 u3
    refine bodyPost_ret (v := .tuple #[.agg #[.slice (some ⟨g1,0,none⟩) (d.n + 1) c1,.slice (some ⟨g2,0,none⟩) (m + 4) c2,.int .i64 (d.lp:Int)],.agg #[.int .i64 2,.int .i64 d.n,.int .i64 0,.int .i64 0,.bool false],.int .i64 0]) ?_ rfl ?_
    ·obtain ⟨e0,e1,e2,e3,e4,e5,e6,e7⟩:=fin8 R2.out R3.out rfl rfl (by omega) (.slice (some ⟨g1,0,none⟩) (d.n + 1) c1) (.slice (some ⟨g2,0,none⟩) (m + 4) c2) (.int .i64 (d.lp:Int)) (.int .i64 2) (.int .i64 d.n) (.int .i64 0) (.int .i64 0) (.bool false)
     simp [results,Try.results49,go_sem,e0,e1,e2,e3,e4,e5,e6,e7]
    ·have en:=crl_n d (q:Int)
     have em:m + 4 = 4 * (d.n + 1):=by have := HM.out; omega
     have O5:=OWN7.out
     simp only [Int.toNat_natCast,show (4 * (d.n:Int)).toNat = 4 * d.n by omega,show (4 * (d.n:Int) + 1).toNat = 4 * d.n + 1 by omega,show (4 * (d.n:Int) + 2).toNat = 4 * d.n + 2 by omega,show (4 * (d.n:Int) + 3).toNat = 4 * d.n + 3 by omega] at O5
     refine ⟨fun h => absurd HC.out h,fun _ => ⟨some ⟨g1,0,none⟩,some ⟨g2,0,none⟩,c1,c2,?_,?_,?_⟩,?_⟩
     ·rw [en,em]
      unfold crl Mv.v
      simp only [if_neg (show ¬ ((q:Int) < 0) by omega)]
     ·rw [en]
      refine own_intsT (base := w1.heap.size + 1) (e := 3) (c := c1) ?_
      (iterate 8 refine own_set ?_ (by omega))
      have:=S7.out
      simp at this
      simpa [crl] using this
     ·rw [en,← em]
      refine OwnN.intsT (base := w1.heap.size) (c := c2) ?_
      unfold OwnN
      (iterate 8 refine own_set ?_ (by omega))
      unfold OwnN at O5
      unfold crl kI0 kI1 kO0 kO1
      simp only [if_neg (show ¬ ((q:Int) < 0) by omega),Int.toNat_natCast]
      first
       | exact O5
       | (simp; exact O5)
       | (simp at O5 ⊢; exact O5)
     ·exact ((((((((b7.setCell (by simp; omega) _).setCell (by simp; omega) _).setCell (by simp; omega) _).setCell (by simp; omega) _).setCell (by simp; omega) _).setCell (by simp; omega) _).setCell (by simp; omega) _).setCell (by simp; omega) _)
 ·have t1:(curlableC d x != 0) = true:=by rw [bne_iff_ne]; exact hC
  go_wp2
  refine bodyPost_ret (v := .tuple #[nilD,nilM,.int .i64 (curlableC d x)]) ?_ rfl ?_
  rotate_left 1
  ·refine ⟨fun _ => (show ResErr _ _ from rfl),fun h => absurd h hC,?_⟩
   exact (((((((b1.setCell (by simp; omega) _).setCell (by simp; omega) _).setCell (by simp; omega) _).setCell (by simp; omega) _).setCell (by simp; omega) _).setCell (by simp; omega) _).setCell (by simp; omega) _).setCell (by simp; omega) _
  ·obtain ⟨e0,e1,e2,e3,e4,e5,e6,e7⟩:=fin8 Y2.out Y3.out rfl rfl (by omega) (.slice none 0 0) (.slice none 0 0) (.int .i64 0) (.int .i64 0) (.int .i64 0) (.int .i64 0) (.int .i64 0) (.bool false)
   unfold nilD nilM
   simp [results,Try.results49,go_sem,e0,e1,e2,e3,e4,e5,e6,e7]
end Go.Proofs.Ytghdiolnonejaaa
end
section
namespace Go.Proofs.Ytghdiolnonejaaa
open Go.RowKit
def ClosedPost (l:List Nat) (base g n cap a b:Nat) (w:World) (e:Ending) (w':World):Prop :=
 e = .returned (.int .i64 (if l.getD a 0 = b then 1 else 0)) ∧ OwnN w' base g n cap (if l.getD a 0 = b then l else jn l (l.getD a 0) (l.getD b 0)) ∧ w.grownBy w' (some g)
theorem grown_refl (w:World) (r:Option Nat):w.grownBy w r := ⟨rfl,rfl,rfl,Nat.le_refl _,fun _ _ _ => rfl⟩
theorem grown_drew {w W w':World} {r:Option Nat} (e:W = w.drew) (h:W.grownBy w' r):w.grownBy w' r := by subst e; exact ⟨h.os,h.tape,h.output,h.size,h.block⟩
set_option maxRecDepth 100000 in
set_option maxHeartbeats 1000000 in
theorem closed_any (base g n cap a b:Nat) (l:List Nat) (w:World) (h:OwnN w base g n cap l) (ha:a < n) (hb:b < n) (hn:n ≤ 100000) (hl:∀ k,k < n → l.getD k 0 < n) :
 Calls Try.prog 82 #[.slice (some ⟨g,0,none⟩) n cap,.int .i64 (a:Int),.int .i64 (b:Int)] w (ClosedPost l base g n cap a b w) := by
 have c1:=h.cell ha
 have c2:=h.cell hb
 have la:=hl a ha
 have lb:=hl b hb
 obtain ⟨x,hx⟩:∃ x,x = l.getD a 0 := ⟨_,rfl⟩
 obtain ⟨y,hy⟩:∃ y,y = l.getD b 0 := ⟨_,rfl⟩
 rw [← hx] at c1 la
 rw [← hy] at c2 lb
 have HH:=hide h
 have HX:=hide hx
 have HY:=hide hy
 clear h hx hy
 go_enter Try.func82,Try.ntmps82
 by_cases hxb:x = b
 ·subst hxb
  go_wp2
  go_ret
  refine ⟨ret_int ?_,?_,grown_refl _ _⟩
  ·rw [if_pos HX.out.symm]
  ·rw [if_pos HX.out.symm]; exact HH.out
 ·have t1:((x:Int) == (b:Int)) = false:=by rw [beq_eq_false_iff_ne]; omega
  have i1:(a:Int) < (n:Int):=by omega
  have i2:(b:Int) < (n:Int):=by omega
  have i3:(0:Int) ≤ (a:Int):=by omega
  have i4:(0:Int) ≤ (b:Int):=by omega
  go_wp2_with fail
  go_still_tail 9,(by kernel_rfl)
  change wpList _ _ _ _ _ w.drew
  obtain ⟨W6,hW6⟩:∃ W6:World,W6 = w.drew := ⟨_,rfl⟩
  rw [← hW6]
  have O6:=hide (OwnN.drew' hW6 HH.out)
  have HW:=hide hW6
  clear hW6 c1 c2
  go_wp2_with fail
  refine (join_any base g n cap x y l W6 O6.out la lb hn).mono ?_
  rintro e w5 ⟨rfl,own5,gr5⟩
  have OWN5:=hide own5
  have GR5:=hide gr5
  clear own5 gr5
  go_wp2_with fail
  go_ret
  have hne:¬ l.getD a 0 = b:=by rw [← HX.out]; exact hxb
  refine ⟨ret_int ?_,?_,grown_drew HW.out GR5.out⟩
  ·rw [if_neg hne]
  ·rw [if_neg hne,← HX.out,← HY.out]; exact OWN5.out
end Go.Proofs.Ytghdiolnonejaaa
end
section
namespace Go.Proofs.Ytghdiolnonejaaa
open Go.RowKit
def boxV (A B:Option Addr) (n cp q cq:Nat) (l:Value):List Value := [.slice A n cp,.slice B q cq,l]
set_option maxRecDepth 100000 in
set_option maxHeartbeats 4000000 in
theorem label_any (d:Pl.Dg) (hd:Pl.Wf d) (A B:Option Addr) (cp cq:Nat) (l:Value) (w:World) (hg:DgAt w A B d) :
 Calls Try.prog 76 #[.agg #[.slice A d.n cp,.slice B (4 * d.n) cq,l]] w fun e w' =>
  ∃ (ps:List Int) (P g:Nat),e = .returned (.tuple #[.slice (some ⟨g,0,none⟩) d.n d.n,.int .i64 (P:Int)]) ∧ Pl.LB d ps P ∧ (∀ a,a < d.n → 0 ≤ Pl.pv ps a) ∧ w.heap.size ≤ g ∧ IRow w' g ps ∧ Below w.heap.size w w' := by
 have hn:=hd.few
 have HF:=hide hd
 clear hd
 have hmk:=run_ints d.n (by omega) (w.alloc (.cells #[.slice A d.n cp,.slice B (4 * d.n) cq,l] 24))
 go_enter Try.func76,Try.ntmps76
 go_wp2
 clear hmk
 obtain ⟨W1,hW1⟩:∃ W1:World,W1 = (w.alloc (.cells #[.slice A d.n cp,.slice B (4 * d.n) cq,l] 24)).alloc (.cells (Array.replicate d.n (Value.int .i64 0)) 3) := ⟨_,rfl⟩
 have B1:=hide (show Below w.heap.size w W1 by rw [hW1]; exact ((Below.refl _ _).alloc (Nat.le_refl _) _).alloc (by simp) _)
 have X1:=hide (show Row W1 w.heap.size 24 (boxV A B d.n cp (4 * d.n) cq l) by rw [hW1]; exact (Row.new w _ _).alloc _)
 have R1:=hide (show IRow W1 (w.heap.size + 1) (List.replicate d.n 0) by
  rw [hW1]
  have:=IRow.made (w.alloc (.cells #[.slice A d.n cp,.slice B (4 * d.n) cq,l] 24)) d.n
  simpa using this)
 rw [← hW1]
 clear hW1
 go_loopg [18] d.n (fun g i wx => ∃ k:Nat,k + g = d.n ∧ i = .int .i64 k ∧ Below w.heap.size w wx ∧ Row wx w.heap.size 24 (boxV A B d.n cp (4 * d.n) cq l) ∧ IRow wx (w.heap.size + 1) (List.replicate k (-1) ++ List.replicate (d.n - k) 0))
 case atStart => exact ⟨0,by omega,rfl,B1.out,X1.out,by simpa using R1.out⟩
 case round =>
  obtain ⟨k,hkg,rfl,b2,x2,r2⟩:=hrel
  have HG:=hide hkg
  have hks:k ≤ d.n:=by omega
  clear hkg
  by_cases hlt:k < d.n
  ·have c1:=r2.cell (i := k) (by simp; omega)
   have f1:=Row.free r2 k
   have B2:=hide b2
   have X2:=hide x2
   have R2:=hide r2
   clear b2 x2 r2
   go_wp2
   go_roundg (gk - 1)
   case measure => have := HG.out; omega
   case rel =>
    refine ⟨k + 1,by have := HG.out; omega,by go_num,?_,X2.out.other (by simp) _,?_⟩
    ·exact B2.out.setCell (by simp) _
    ·have:=R2.out.set k (-1)
     rwa [Pl.fill_set hlt] at this
  ·have hkn:k = d.n:=by omega
   have B2:=hide b2
   have X2:=hide x2
   have R2:=hide (show IRow wr (w.heap.size + 1) (List.replicate d.n (-1)) by subst hkn; simpa using r2)
   clear b2 x2 r2 hkn
   go_wp2
   go_loopg [6,27] d.n (fun g p i wx => ∃ (k P:Nat) (ps:List Int),k + g = d.n ∧ i = .int .i64 k ∧ p = .int .i64 P ∧ Pl.LB d ps P ∧ (∀ a,a < k → 0 ≤ Pl.pv ps a) ∧ Below w.heap.size w wx ∧ Row wx w.heap.size 24 (boxV A B d.n cp (4 * d.n) cq l) ∧ IRow wx (w.heap.size + 1) ps)
   case atStart => exact ⟨0,0,_,by omega,rfl,rfl,Pl.LB.start d,fun a ha => absurd ha (by omega),B2.out,X2.out,R2.out⟩
   case round =>
    clear B2 X2 R2 B1 X1 R1 HG hks hlt
    obtain ⟨j,P,ps,hjg,rfl,rfl,hlb,hall,b3,x3,r3⟩:=hrel
    have HG:=hide hjg
    have HL:=hide hlb
    have HA:=hide hall
    have hjs:j ≤ d.n:=by omega
    have hlen:ps.length = d.n:=hlb.len
    have hP:=hlb.le
    have HLen:=hide hlen
    clear hjg hlb hall
    by_cases hjn:j < d.n
    ·have c1:=r3.cell (i := j) (by omega)
     have f1:=Row.free r3 j
     have B3:=hide b3
     have X3:=hide x3
     have R3:=hide r3
     clear b3 x3 r3 hlen
     by_cases hlab:0 ≤ Pl.pv ps j
     ·go_wp2
      go_roundg (gk - 1)
      case measure => have := HG.out; omega
      case rel =>
       refine ⟨j + 1,P,ps,by have := HG.out; omega,by go_num,rfl,HL.out,fun a ha => ?_,B3.out,X3.out,R3.out⟩
       by_cases e:a = j
       ·rw [e]; exact hlab
       ·exact HA.out a (by omega)
     ·have hneg:Pl.pv ps j < 0:=by omega
      have hjl:j < ps.length:=by have := HLen.out; omega
      obtain ⟨wo,rfl⟩:∃ wo:World,wo = wr := ⟨_,rfl⟩
      have hwz:w.heap.size + 2 ≤ wo.heap.size:=by have := R3.out.lt; omega
      go_wp2
      obtain ⟨W2,hW2⟩:∃ W2:World,W2 = (wo.setCell ⟨w.heap.size + 1,j,none⟩ (.int .i64 P)).alloc (.cells #[.int .i64 j] 3) := ⟨_,rfl⟩
      have B4:=hide (show Below w.heap.size w W2 by rw [hW2]; exact (B3.out.setCell (by simp) _).alloc (by simp; omega) _)
      have X4:=hide (show Row W2 w.heap.size 24 (boxV A B d.n cp (4 * d.n) cq l) by rw [hW2]; exact (X3.out.other (by simp) _).alloc _)
      have R4:=hide (show IRow W2 (w.heap.size + 1) (ps.set j P) by rw [hW2]; exact Row.alloc (R3.out.set j P) _)
      have Q4:=hide (show OwnT W2 (w.heap.size + 2) 3 (.slice (some ⟨wo.heap.size,0,none⟩) 1 1) 1 [.int .i64 j] by
       rw [hW2]
       refine ⟨rfl,wo.heap.size,0,1,#[.int .i64 j],rfl,hwz,?_,by omega,by unfold maxLen; omega,by simp,rfl⟩
       have:=heap_alloc_new (wo.setCell ⟨w.heap.size + 1,j,none⟩ (.int .i64 P)) (.cells #[.int .i64 j] 3)
       simpa using this)
      have HQ:=hide (Pl.LQ.start HL.out hjn hneg)
      have HU:=hide (Pl.unl_set hjl hneg (v := (P:Int)) (by omega))
      rw [← hW2]
      clear hW2 B3 X3 R3 c1 f1 hneg hlab
      go_loopg [8] (Pl.unl (ps.set j P) + 1) (fun g v wx => ∃ (p1:List Int) (qs:List Nat),g = Pl.unl p1 + qs.length ∧ Pl.unl p1 + qs.length ≤ d.n ∧ Pl.LQ d j ps P p1 qs d.n 0 ∧ OwnT wx (w.heap.size + 2) 3 v qs.length (qs.map (fun q:Nat => Value.int .i64 q)) ∧ Below w.heap.size w wx ∧ Row wx w.heap.size 24 (boxV A B d.n cp (4 * d.n) cq l) ∧ IRow wx (w.heap.size + 1) p1)
      case atStart => exact ⟨_,[j],rfl,by have h1 := HU.out; have h2:Pl.unl ps ≤ ps.length := List.countP_le_length; have h3 := HLen.out; simp only [List.length_singleton]; omega,HQ.out,Q4.out,B4.out,X4.out,R4.out⟩
      case round =>
       clear B4 X4 R4 Q4 HQ HU
       obtain ⟨p1,qs,hgk,hgn,hlq,hown,b5,x5,r5⟩:=hrel
       have HGN:=hide hgn
       have HGK:=hide hgk
       have HQ:=hide hlq
       have B5:=hide b5
       have X5:=hide x5
       have R5:=hide r5
       clear hgk hgn hlq b5 x5 r5
       cases qs with
       | nil =>
         obtain ⟨g0,off,cap,rfl,_,_,_,_,_⟩:=hown.cells
         have HD:=hide (Pl.LQ.done HF.out HQ.out)
         simp only [List.length_nil]
         go_wp2
         go_roundg (d.n - (j + 1))
         case measure => have := HG.out; omega
         case rel =>
          refine ⟨j + 1,P + 1,p1,by omega,by go_num,by go_num,HD.out.1,fun a ha => ?_,B5.out,X5.out,R5.out⟩
          by_cases e:a = j
          ·rw [e]; exact HD.out.2.2
          ·exact HD.out.2.1 a (by omega) (HA.out a (by omega))
       | cons q qs =>
         have hqn:q < d.n:=(HQ.out.wait q (by simp)).1
         have HQP:=hide ((HQ.out.wait q (by simp)).2)
         have hown':=hown
         obtain ⟨g0,off,cap,rfl,hg0,hg1,hcl,hcm,hcells⟩:=hown'.cells
         have cq0:wr.cell? ⟨g0,off,none⟩ = some (.int .i64 (q:Int)):=by
          have:=hcells 0 (.int .i64 (q:Int)) rfl
          simpa using this
         rw [List.length_cons] at hown hcl
         rw [List.map_cons] at hown
         have HO:=hide hown
         simp only [List.length_cons]
         unfold maxLen at hcm
         clear hown hcells
         obtain ⟨wo,rfl⟩:∃ wo:World,wo = wr := ⟨_,rfl⟩
         have HP:=hide (HQ.out.pop rfl)
         by_cases hcap:cap = 1
         case' pos =>
          have Q6:=hide (HO.out.tail0 hcap)
          have hq0:qs.length = 0:=by omega
          have HQ0:=hide hq0
          go_wp2
          have HC:=hide hcap
          clear hq0 hcap
         case' neg =>
          have Q6:=hide (show OwnT wo (w.heap.size + 2) 3 (.slice (some ⟨g0,off + 1,none⟩) qs.length (cap - 1)) qs.length (qs.map (fun q:Nat => Value.int .i64 q)) from HO.out.tail)
          go_wp2
         all_goals
          clear HO cq0
          go_loopg [8,49] 4 (fun g v i wx => ∃ (p2:List Int) (qs2:List Nat) (s:Nat),s + g = 4 ∧ i = .int .i64 s ∧ Pl.unl p2 + qs2.length = Pl.unl p1 + qs.length ∧ Pl.LQ d j ps P p2 qs2 q s ∧ Pl.pv p2 q = P ∧ OwnT wx (w.heap.size + 2) 3 v qs2.length (qs2.map (fun q:Nat => Value.int .i64 q)) ∧ Below w.heap.size w wx ∧ Row wx w.heap.size 24 (boxV A B d.n cp (4 * d.n) cq l) ∧ IRow wx (w.heap.size + 1) p2)
          case atStart =>
           refine ⟨p1,qs,0,rfl,rfl,rfl,HP.out,HQP.out,?_,B5.out,X5.out,R5.out⟩
           first
            | exact Q6.out
            | (have h6 := Q6.out; rw [HQ0.out,HC.out] at h6; rw [HQ0.out]; exact h6)
          case round =>
           clear B5 X5 R5 HP HQP Q6
           obtain ⟨p2,qs2,s,hsg,rfl,hum,hlq2,hpq,hown2,b6,x6,r6⟩:=hrel
           have HSG:=hide hsg
           have HUM:=hide hum
           have HQ2:=hide hlq2
           have HPQ:=hide hpq
           have HO2:=hide hown2
           have hs4:s ≤ 4:=by omega
           have HL2:=hide hlq2.len
           obtain ⟨g2,off2,cap2,rfl,hg20,hg21,hcl2,hcm2,_⟩:=hown2.cells
           unfold maxLen at hcm2
           clear hsg hum hlq2 hpq hown2
           by_cases hs:s < 4
           ·have hi:4 * q + s < 4 * d.n:=by omega
            obtain ⟨bb,bo,rfl,hmc⟩:=mate_at hg.m hi
            have hmc':=cell_below hmc b6
            have hnb:=Pl.nb_lt HF.out hqn hs
            have hml:=HF.out.lt _ hi
            have hnl:Pl.nb d q s < p2.length:=by have := HL2.out; omega
            have c7:=r6.cell hnl
            have f7:=Row.free r6 (Pl.nb d q s)
            have B6:=hide b6
            have X6:=hide x6
            have R6:=hide r6
            have x7:=x6.cell (i := 1) (by show 1 < 3; omega)
            have x7':wr.cell? ⟨w.heap.size,1,none⟩ = some (.slice (some ⟨bb,bo,none⟩) (4 * d.n) cq):=x7
            unfold Pl.nb at c7 f7
            clear b6 x6 r6 x7 hmc
            by_cases hneg:Pl.pv p2 (d.m (4 * q + s) / 4) < 0
            ·obtain ⟨wq,rfl⟩:∃ wq:World,wq = wr := ⟨_,rfl⟩
             have hq65:qs2.length ≤ 1000:=by
              have h1:=HUM.out
              have h2:=HGN.out
              rw [List.length_cons] at h2
              omega
             obtain ⟨i0,hi0,hz0,hz1,hz2⟩:=info_parts intInfo
             have hwz2:w.heap.size + 2 ≤ wq.heap.size:=by have := R6.out.lt; omega
             have HC1:=hide (show ((wq.setCell ⟨w.heap.size + 1,d.m (4 * q + s) / 4,none⟩ (.int .i64 P)).alloc (.cells #[.int .i64 ((d.m (4 * q + s):Int) / 4)] 3)).cell? ((⟨wq.heap.size,0,none⟩:Addr).add 0) = some (.int .i64 ((d.m (4 * q + s):Int) / 4)) by
              have h8:=Lib.cell_of_heap (heap_alloc_new (wq.setCell ⟨w.heap.size + 1,d.m (4 * q + s) / 4,none⟩ (.int .i64 P)) (.cells #[.int .i64 ((d.m (4 * q + s):Int) / 4)] 3)) 0
              simpa [Addr.add] using h8)
             go_wp2_with (at_builtin; refine wpList_append_tail _ rfl _ _ 22 rfl (w.heap.size + 2) 3 i0 (.int .i64 0) 8 Try.underlying22 hi0 hz0 hz1 hz2 rfl (.slice (some ⟨g2,off2,none⟩) qs2.length cap2) qs2.length (qs2.map (fun q:Nat => Value.int .i64 q)) (by rfl) (OwnT.below (OwnT.keep HO2.out (w' := wq.setCell ⟨w.heap.size + 1,d.m (4 * q + s) / 4,none⟩ (.int .i64 P)) (fun g h1 h2 h3 => Below.heap_setCell _ _ _ _ (by simp; omega))) ((Below.refl _ _).alloc (Nat.le_refl _) _)) ⟨wq.heap.size,0,none⟩ 1 (.int .i64 ((d.m (4 * q + s):Int) / 4)) (by rfl) HC1.out rfl (by unfold maxLen; omega) (by omega) (by simp; omega) ?_; intro v7 w7 own7 grow7)
             have hne2:(Value.slice (some ⟨g2,off2,none⟩) qs2.length cap2).ownBlock = some g2:=rfl
             rw [hne2] at grow7
             go_roundg (gk - 1)
             case measure => have := HSG.out; omega
             case rel =>
              have hu:=Pl.unl_set (ps := p2) (i := Pl.nb d q s) (by have := HL2.out; omega) hneg (v := (P:Int)) (by omega)
              refine ⟨p2.set (Pl.nb d q s) P,qs2 ++ [Pl.nb d q s],s + 1,by have := HSG.out; omega,by go_num,?_,HQ2.out.push HF.out hqn HPQ.out hs hneg,?_,?_,?_,?_,?_⟩
              ·have:=HUM.out; rw [List.length_append,List.length_singleton]; omega
              ·rw [Pl.pv_set (by have := HL2.out; omega)]; split; rfl; exact HPQ.out
              ·rw [List.length_append,List.length_singleton,List.map_append]
               have e9:(Value.int .i64 ((Pl.nb d q s:Nat):Int)) = Value.int .i64 ((d.m (4 * q + s):Int) / 4):=by
                congr 1
               rw [List.map_cons,List.map_nil,e9]
               exact own7
              ·exact (Below.alloc (B6.out.setCell (by simp) _) (by simp; omega) _).grown grow7 (by simp; omega) (fun k hk => by injection hk with hk; omega)
              ·exact Row.grown ((X6.out.other (by simp) _).alloc _) grow7 (by intro e; injection e with e; omega)
              ·exact Row.grown (Row.alloc (R6.out.set _ P) _) grow7 (by intro e; injection e with e; omega)
            ·go_wp2
             go_roundg (gk - 1)
             case measure => have := HSG.out; omega
             case rel =>
              exact ⟨p2,qs2,s + 1,by have := HSG.out; omega,by go_num,HUM.out,HQ2.out.skip (by unfold Pl.nb; omega),HPQ.out,HO2.out,B6.out,X6.out,R6.out⟩
           ·have hs4':s = 4:=by omega
            have B6:=hide b6
            have X6:=hide x6
            have R6:=hide r6
            clear b6 x6 r6
            go_wp2
            go_roundg (Pl.unl p1 + qs.length)
            case measure => have := HGK.out; rw [List.length_cons] at this; omega
            case rel =>
             exact ⟨p2,qs2,HUM.out.symm,by have h8 := HUM.out; have h9 := HGN.out; rw [List.length_cons] at h9; omega,by have h7 := HQ2.out; rw [hs4'] at h7; exact h7.rest,HO2.out,B6.out,X6.out,R6.out⟩
    ·have hjn':j = d.n:=by omega
     have B3:=hide b3
     have R3:=hide r3
     have hwz3:w.heap.size + 1 < wr.heap.size:=r3.lt
     clear b3 x3 r3 hlen
     go_wp2
     go_ret2
     exact ⟨ps,P,w.heap.size + 1,rfl,HL.out,fun a ha => HA.out a (by omega),by omega,R3.out,B3.out⟩
theorem label_m (d:Pl.Dg) (hd:Pl.Wf d) (A B:Option Addr) (cp cq m:Nat) (l:Value) (w:World) (hm:m = 4 * d.n) (hg:DgAt w A B d) :
 Calls Try.prog 76 #[.agg #[.slice A d.n cp,.slice B m cq,l]] w fun e w' =>
  ∃ (ps:List Int) (P g:Nat),e = .returned (.tuple #[.slice (some ⟨g,0,none⟩) d.n d.n,.int .i64 (P:Int)]) ∧ Pl.LB d ps P ∧ (∀ a,a < d.n → 0 ≤ Pl.pv ps a) ∧ w.heap.size ≤ g ∧ IRow w' g ps ∧ Below w.heap.size w w' := by
 subst hm; exact label_any d hd A B cp cq l w hg
end Go.Proofs.Ytghdiolnonejaaa
end
section
namespace Go.Proofs.Ytghdiolnonejaaa
open Go.RowKit
def ahd (gs:List Nat) (h k:Nat):Nat := ((gs.take k).filter (fun c => decide (c < h / 4))).length
theorem ahd_le (gs:List Nat) (h k:Nat):ahd gs h k ≤ k := by
 unfold ahd
 have:=List.length_filter_le (fun c => decide (c < h / 4)) (gs.take k)
 have:=List.length_take_le k gs
 omega
theorem ahd_succ {gs:List Nat} {k:Nat} (hk:k < gs.length) (h:Nat):ahd gs h (k + 1) = ahd gs h k + if gs.getD k 0 < h / 4 then 1 else 0 := by
 unfold ahd
 rw [List.take_succ_eq_append_getElem hk,List.filter_append,List.length_append,List.getD_eq_getElem?_getD,List.getElem?_eq_getElem hk]
 by_cases e:gs[k] < h / 4 <;> simp [List.filter_cons,e]
theorem ahd_all {gs:List Nat} {k:Nat} (hk:gs.length ≤ k) (h:Nat):ahd gs h k = (gs.filter (fun c => decide (c < h / 4))).length := by
 unfold ahd
 rw [List.take_of_length_le hk]
theorem nats_at {w:World} {A:Option Addr} {n k:Nat} {gs:List Nat} (h:IntsAt w A n (nats gs)) (hk:k < n) :
 ∃ b o,A = some ⟨b,o,none⟩ ∧ w.cell? ⟨b,o + k,none⟩ = some (.int .i64 (gs.getD k 0:Nat)) := by
 obtain ⟨b,o,e,hc⟩:=h.at_ hk
 refine ⟨b,o,e,hc.trans ?_⟩
 have hl:=h.len
 unfold nats at hl ⊢
 rw [List.length_map] at hl
 rw [List.getD_eq_getElem?_getD,List.getD_eq_getElem?_getD,List.getElem?_map,List.getElem?_eq_getElem (by omega)]; rfl
set_option maxRecDepth 100000 in
set_option maxHeartbeats 1000000 in
theorem shifted_any (gs:List Nat) (A:Option Addr) (n c h:Nat) (w:World) (hg:IntsAt w A n (nats gs)) (hn:n ≤ 100) (hh:h ≤ 100000) (hf:Pl.Few gs) :
 Calls Try.prog 83 #[.int .i64 (h:Int),.slice A n c] w fun e w' => e = .returned (.int .i64 (Pl.shf gs h:Nat)) ∧ w' = w := by
 have hl:=hg.len
 unfold nats at hl
 rw [List.length_map] at hl
 have HL:=hide hl
 have HG:=hide hg
 clear hl hg
 go_enter Try.func83,Try.ntmps83
 go_wp2
 go_loop [5,10] (fun b i => ∃ k:Nat,k ≤ n ∧ i = .int .i64 k ∧ b = .int .i64 (4 * (ahd gs h k:Nat))) (fun _ i => n - (intOf i).toNat)
 case atStart => exact ⟨0,by omega,rfl,rfl⟩
 case round =>
  obtain ⟨k,hk,rfl,rfl⟩:=hrel
  have hle:=ahd_le gs h k
  by_cases hlt:k < n
  ·obtain ⟨b,o,rfl,hc⟩:=nats_at HG.out hlt
   have HS:=hide (ahd_succ (gs := gs) (k := k) (by have := HL.out; omega) h)
   obtain ⟨x,hx⟩:∃ x,x = gs.getD k 0 := ⟨_,rfl⟩
   rw [← hx] at hc HS
   clear hx
   by_cases ht:x < h / 4
   ·have HT:=hide ht
    have t1:decide ((x:Int) < (h:Int) / 4) = true:=by simp; omega
    clear ht
    go_wp2
    go_round
    case rel => exact ⟨k + 1,by omega,by go_num,by rw [HS.out,if_pos HT.out]; go_num⟩
    case measure => simp [intOf]; omega
   ·have HT:=hide ht
    have t1:decide ((x:Int) < (h:Int) / 4) = false:=by simp; omega
    clear ht
    go_wp2
    go_round
    case rel => exact ⟨k + 1,by omega,by go_num,by rw [HS.out,if_neg HT.out]; go_num⟩
    case measure => simp [intOf]; omega
  ·go_wp2
   go_ret
   refine ⟨ret_int ?_,rfl⟩
   have h1:=ahd_all (gs := gs) (k := k) (by have := HL.out; omega) h
   have h2:=Pl.shf_le hf h
   unfold Pl.shf
   rw [h1]
   omega
end Go.Proofs.Ytghdiolnonejaaa
end
section
namespace Go.Proofs.Ytghdiolnonejaaa
open Go.RowKit
theorem jn_get {l:List Nat} {a b:Nat} (ha:a < l.length) (hb:b < l.length) (k:Nat):(jn l a b).getD k 0 = if k = b then a else if k = a then b else l.getD k 0 := by
 unfold jn
 rw [List.getD_eq_getElem?_getD,List.getElem?_set]
 by_cases h1:b = k
 ·rw [if_pos h1,if_pos (by rw [List.length_set]; omega),if_pos h1.symm]; rfl
 ·rw [if_neg h1,if_neg (fun e => h1 e.symm),List.getElem?_set]
  by_cases h2:a = k
  ·rw [if_pos h2,if_pos (by omega),if_pos h2.symm]; rfl
  ·rw [if_neg h2,if_neg (fun e => h2 e.symm),List.getD_eq_getElem?_getD]
end Go.Proofs.Ytghdiolnonejaaa
end
