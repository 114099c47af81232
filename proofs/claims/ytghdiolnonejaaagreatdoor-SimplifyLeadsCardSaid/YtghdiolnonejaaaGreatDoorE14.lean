/-
 The texts Ncr.
-/
import Derived.Test.YtghdiolnonejaaaGreatDoorE03
import Derived.Test.YtghdiolnonejaaaGreatDoorE05
set_option linter.unusedVariables false
set_option linter.unusedSimpArgs false
section
namespace Go.Proofs.YtghdiolnonejaaaGreatDoor.Pl
variable {d:Dg} {h u:Nat}
theorem con_tn {a:Nat → Nat} {x y:Nat} (e:Con rot a x y):∀ k,Con rot a x (tn y (3 * k))
 | 0 => by rw [show 3 * 0 = 0 from rfl,tn_zero]; exact e
 | k + 1 => by
   have:=(con_tn e k).left
   rwa [show rot (tn y (3 * k)) = tn y (3 * (k + 1)) from by unfold rot; rw [tn_tn]; congr 1] at this
theorem tn_m4 (y j k:Nat) (e:j % 4 = k % 4):tn y j = tn y k := by unfold tn; omega
theorem con_at {a:Nat → Nat} {x y z:Nat} (e:Con rot a x y) (hz:z / 4 = y / 4):Con rot a x z := by
 have:=con_tn e ((y % 4 + 4 - z % 4) % 4)
 rwa [show tn y (3 * ((y % 4 + 4 - z % 4) % 4)) = z from by unfold tn; omega] at this
theorem Lens.no_cross (hd:Valid d) (L:Lens d h u):d.m (tn h 3) ≠ tn u 2 := by
 intro e
 have hv:=Valid.iff.1 hd
 have hw:=hv.1
 have hu:=L.hu hw
 have hh:=L.hh
 have E:=L.ne
 have m0:=L.m0
 have m1:=L.m1
 have m2:=L.m2 hw
 have m3:=L.m3 hw
 have h3:tn h 3 < 4 * d.n:=tn_lt hh
 have h2:tn h 2 < 4 * d.n:=tn_lt hh
 have h1:tn h 1 < 4 * d.n:=tn_lt hh
 have u2:tn u 2 < 4 * d.n:=tn_lt hu
 have u1:tn u 1 < 4 * d.n:=tn_lt hu
 have u3:tn u 3 < 4 * d.n:=tn_lt hu
 have e':d.m (tn u 2) = tn h 3:=by rw [← e,hw.inv _ h3]
 have n32:tn h 3 ≠ tn u 2:=pm E
 -- the first edge cut
 obtain ⟨c1,c2,c3⟩:=Hm.cut hw.hm h3 (by rw [e]; exact Ne.symm n32)
 rw [e] at c1 c2 c3
 obtain ⟨a1,ha1⟩:∃ a1,a1 = tr d.m (tn h 3) (tn u 2) := ⟨_,rfl⟩
 rw [← ha1] at c1 c2 c3
 have ea:d.m = tr a1 (tn h 3) (tn u 2):=by rw [ha1,tr_tr]
 have f0:=hv.2
 rw [ea] at f0
 obtain ⟨f1,k1⟩:=Flat.del c1 h3 u2 n32 c2 c3 f0
 have at1:∀ z,z ≠ tn h 3 → z ≠ tn u 2 → a1 z = d.m z:=fun z z1 z2 => by rw [ha1,tr_ne z1 z2]
 have ah:a1 h = u:=by rw [at1 h (pmz (by omega)) (pm1 E),m0]
 have con1:Con rot a1 (tn h 3) (tn u 2):=by
  have s1:Con rot a1 (tn h 3) h:=con_at .refl (by rw [tn_div])
  have s2:=s1.right
  rw [ah] at s2
  exact con_at s2 (by rw [tn_div])
 have o1:=k1 con1
 -- the second edge cut
 obtain ⟨w,hwm⟩:∃ w,w = d.m (tn h 2) := ⟨_,rfl⟩
 have p2a:a1 (tn h 2) = w:=by rw [at1 _ (tn_ne (by omega)) (pm E),hwm]
 have nw:w ≠ tn h 2:=by rw [hwm]; exact hw.ne _ h2
 have hwl:w < 4 * d.n:=by rw [hwm]; exact hw.lt _ h2
 have hwb:d.m w = tn h 2:=by rw [hwm,hw.inv _ h2]
 obtain ⟨g1,g2,g3⟩:=Hm.cut c1 h2 (by rw [p2a]; exact nw)
 rw [p2a] at g1 g2 g3
 obtain ⟨a2,ha2⟩:∃ a2,a2 = tr a1 (tn h 2) w := ⟨_,rfl⟩
 rw [← ha2] at g1 g2 g3
 have ea1:a1 = tr a2 (tn h 2) w:=by rw [ha2,tr_tr]
 have f1':=f1
 rw [ea1] at f1'
 obtain ⟨f2,k2⟩:=Flat.del g1 h2 hwl (Ne.symm nw) g2 g3 f1'
 have w0:w ≠ tn h 3:=fun q => by rw [q,e] at hwb; exact pm E hwb.symm
 have w1:w ≠ tn u 2:=fun q => by rw [q,e'] at hwb; exact tn_ne (by omega) hwb
 have w2:w ≠ h:=fun q => by rw [q,m0] at hwb; exact pm0 E hwb.symm
 have w3:w ≠ u:=fun q => by rw [q,m2] at hwb; exact pmz (by omega) hwb
 have w4:w ≠ tn h 1:=fun q => by rw [q,m1] at hwb; exact pm E hwb.symm
 have w5:w ≠ tn u 3:=fun q => by rw [q,m3] at hwb; exact tn_ne (by omega) hwb
 have at2:∀ z,z ≠ tn h 3 → z ≠ tn u 2 → z ≠ tn h 2 → z ≠ w → a2 z = d.m z:=fun z z1 z2 z3 z4 => by rw [ha2,tr_ne z3 z4,at1 z z1 z2]
 -- the faces
 have s1:phi rot a1 (tn h 3) = tn h 2:=by unfold phi; rw [c2]; unfold rot; rw [tn_tn]; exact tn_m4 _ _ _ (by omega)
 have s2:phi rot a1 w = tn h 1:=by
  unfold phi
  rw [at1 w w0 w1,hwb]; unfold rot; rw [tn_tn]; exact tn_m4 _ _ _ (by omega)
 have s3:phi rot a1 (tn h 1) = tn u 2:=by
  unfold phi
  rw [at1 _ (tn_ne (by omega)) (pm E),m1]; unfold rot; rw [tn_tn]; exact tn_m4 _ _ _ (by omega)
 have oB:=c1.pb
 have o2:Orb (phi rot a1) (tn h 2) (tn h 3):=oB.symm h3 (by have := Orb.step (phi rot a1) (tn h 3); rwa [s1] at this)
 have o3:Orb (phi rot a1) w (tn u 2):=by
  have q1:=Orb.step (phi rot a1) w
  have q2:=Orb.step (phi rot a1) (tn h 1)
  rw [s2] at q1
  rw [s3] at q2
  exact q1.trans q2
 have o4:Orb (phi rot a1) (tn h 2) w:=(o2.trans o1).trans (oB.symm hwl o3)
 have no:¬ Orb (phi rot a2) (tn h 2) w:=fun q => by
  have:=g1.pb.part h2 hwl (Ne.symm nw) q
  rw [← phi_tr,← ea1] at this
  exact this o4
 have nc:¬ Con rot a2 (tn h 2) w:=fun q => no (k2 q)
 -- along the strand
 have ah2:a2 h = u:=by rw [at2 h (pmz (by omega)) (pm1 E) (pmz (by omega)) (Ne.symm w2),m0]
 have blob:∀ z,z / 4 = h / 4 ∨ z / 4 = u / 4 → Con rot a2 (tn h 2) z:=fun z hz => by
  have q1:Con rot a2 (tn h 2) h:=con_at .refl (by rw [tn_div])
  rcases hz with hz | hz
  ·exact con_at q1 hz
  ·have q2:=q1.right
   rw [ah2] at q2
   exact con_at q2 hz
 obtain ⟨s,hs⟩:∃ s:Nat → Nat,s = fun z => d.m (tn z 2) := ⟨_,rfl⟩
 have sb:Bij (4 * d.n) (dart d) s:=by
  refine ⟨fun _ q => q,fun z hz => by rw [hs]; exact hw.lt _ (tn_lt hz),fun x y hx hy q => ?_⟩
  rw [hs] at q
  have q1:d.m (d.m (tn x 2)) = d.m (d.m (tn y 2)):=congrArg d.m q
  rw [hw.inv _ (tn_lt hx),hw.inv _ (tn_lt hy)] at q1
  have q2:tn (tn x 2) 2 = tn (tn y 2) 2:=by rw [q1]
  rwa [tn_tn,tn_tn,tn_four,tn_four] at q2
 have sh:s h = w:=by rw [hs,hwm]
 have ob:Orb s w h:=sb.symm hh (by have := Orb.step s h; rwa [sh] at this)
 obtain ⟨k,hk⟩:=ob
 have key:∀ k,it s k w < 4 * d.n ∧ Con rot a2 w (it s k w) ∧ out d (it s k w) = out d w:=by
  intro k
  induction k with
  | zero => exact ⟨hwl,.refl,rfl⟩
  | succ k ih =>
    obtain ⟨i1,i2,i3⟩:=ih
    obtain ⟨z,hz⟩:∃ z,z = it s k w := ⟨_,rfl⟩
    rw [← hz] at i1 i2 i3
    have hst:it s (k + 1) w = d.m (tn z 2):=by
     show s (it s k w) = _
     rw [← hz,hs]
    rw [hst]
    have z2:tn z 2 < 4 * d.n:=tn_lt i1
    have nb:¬ (z / 4 = h / 4 ∨ z / 4 = u / 4):=fun q => nc (g1.con_symm hwl (i2.trans (g1.con_symm h2 (blob z q))))
    have t1:tn z 2 ≠ tn h 3:=fun q => nb (.inl (by have := congrArg (· / 4) q; simpa [tn_div] using this))
    have t2:tn z 2 ≠ tn u 2:=fun q => nb (.inr (by have := congrArg (· / 4) q; simpa [tn_div] using this))
    have t3:tn z 2 ≠ tn h 2:=fun q => nb (.inl (by have := congrArg (· / 4) q; simpa [tn_div] using this))
    have t4:tn z 2 ≠ w:=fun q => by
     have:=out_opp hw i1
     rw [q,i3] at this
     cases hq:out d w <;> simp [hq] at this
    have am:=at2 _ t1 t2 t3 t4
    refine ⟨hw.lt _ z2,?_,?_⟩
    ·have q1:Con rot a2 w (tn z 2):=con_at i2 (by rw [tn_div])
     have q2:=q1.right
     rwa [am] at q2
    ·rw [out_way hw z2,out_opp hw i1,i3,Bool.not_not]
 have fin:=(key k).2.1
 rw [hk] at fin
 exact nc (g1.con_symm hwl (fin.trans (g1.con_symm h2 (blob h (.inl rfl)))))
end Go.Proofs.YtghdiolnonejaaaGreatDoor.Pl
end
