/-
 The text Rr.
-/
import Derived.Test.YtobbepmlmbbamaaCRq
import Derived.Test.YtobbepmlmbbamaaB05
import Derived.Test.YtobbepmlmbbamaaShelf
set_option linter.unusedVariables false
set_option linter.unusedSimpArgs false
section
namespace Go.Proofs.Ytobbepmlmbbamaa
open Go.RowKit
set_option maxHeartbeats 4000000 in
theorem clo_same {l:List Nat} (hlt:∀ k,k < l.length → l.getD k 0 < l.length) (hinv:∀ k,k < l.length → l.getD (l.getD k 0) 0 = k) (hne:∀ k,k < l.length → l.getD k 0 ≠ k) {a b c e k:Nat} (ha:a < l.length) (hb:b < l.length) (hc:c < l.length) (he:e < l.length) (hk:k < l.length)
 (d1:a ≠ b) (d2:a ≠ c) (d3:a ≠ e) (d4:b ≠ c) (d5:b ≠ e) (d6:c ≠ e) (k1:k ≠ a) (k2:k ≠ b) (k3:k ≠ c) (k4:k ≠ e) :
 (clo (clo l a b) c e).getD k 0 = (clo (clo l c e) b a).getD k 0 := by
 rw [clo_two hlt hinv hne ha hb hc he hk d1 d2 d3 d4 d5 d6 k1 k2 k3 k4,clo_two hlt hinv hne hc he hb ha hk d6 (fun h => d4 h.symm) (fun h => d2 h.symm) (fun h => d5 h.symm) (fun h => d3 h.symm) (fun h => d1 h.symm) k3 k4 k2 k1]
 rw [clo_j hlt hinv ha hb d1 hk k1 k2,clo_j hlt hinv ha hb d1 hc (fun h => d2 h.symm) (fun h => d4 h.symm),clo_j hlt hinv ha hb d1 he (fun h => d3 h.symm) (fun h => d5 h.symm)]
 rw [clo_j hlt hinv hc he d6 hk k3 k4,clo_j hlt hinv hc he d6 ha d2 d3,clo_j hlt hinv hc he d6 hb d4 d5]
 have sw:∀ x y,x < l.length → y < l.length → (l.getD x 0 = y ↔ l.getD y 0 = x):=fun x y hx hy => ⟨fun h => by rw [← h,hinv x hx],fun h => by rw [← h,hinv y hy]⟩
 have s1:=sw a b ha hb
 have s2:=sw a c ha hc
 have s3:=sw a e ha he
 have s4:=sw b c hb hc
 have s5:=sw b e hb he
 have s6:=sw c e hc he
 have t1:=sw k a hk ha
 have t2:=sw k b hk hb
 have t3:=sw k c hk hc
 have t4:=sw k e hk he
 obtain ⟨A,hA⟩:∃ A,A = l.getD a 0 := ⟨_,rfl⟩
 obtain ⟨B,hB⟩:∃ A,A = l.getD b 0 := ⟨_,rfl⟩
 obtain ⟨C,hC⟩:∃ A,A = l.getD c 0 := ⟨_,rfl⟩
 obtain ⟨E,hE⟩:∃ A,A = l.getD e 0 := ⟨_,rfl⟩
 obtain ⟨K,hK⟩:∃ A,A = l.getD k 0 := ⟨_,rfl⟩
 rw [← hA,← hB] at s1
 rw [← hA,← hC] at s2
 rw [← hA,← hE] at s3
 rw [← hB,← hC] at s4
 rw [← hB,← hE] at s5
 rw [← hC,← hE] at s6
 rw [← hK,← hA] at t1
 rw [← hK,← hB] at t2
 rw [← hK,← hC] at t3
 rw [← hK,← hE] at t4
 rw [← hA,← hB,← hC,← hE,← hK]
 clear hA hB hC hE hK sw hlt hinv hne
 by_cases q1:K = a
 ·have z:=t1.1 q1
  have nB:B ≠ a:=fun h => k2 (z.symm.trans (s1.2 h))
  have nC:C ≠ a:=fun h => k3 (z.symm.trans (s2.2 h))
  have nE:E ≠ a:=fun h => k4 (z.symm.trans (s3.2 h))
  rw [q1]
  simp only [if_true,if_neg nC,if_neg nE,if_neg d1,if_neg d2,if_neg d3]
  by_cases p1:B = c
  ·rw [if_pos p1,if_pos p1,if_neg (fun h => d6 (p1.symm.trans (s5.2 h)))]
  ·rw [if_neg p1,if_neg p1]
   by_cases p2:B = e
   ·rw [if_pos p2,if_pos p2,if_neg (fun h => p1 (s4.2 h))]
   ·rw [if_neg p2,if_neg p2]
 ·by_cases q2:K = b
  ·have z:=t2.1 q2
   have nA:A ≠ b:=fun h => k1 (z.symm.trans (s1.1 h))
   have nC:C ≠ b:=fun h => k3 (z.symm.trans (s4.2 h))
   have nE:E ≠ b:=fun h => k4 (z.symm.trans (s5.2 h))
   rw [q2]
   simp only [if_true,if_neg nC,if_neg nE,if_neg (fun h => d1 h.symm:¬ b = a),if_neg d4,if_neg d5]
   by_cases p1:A = c
   ·rw [if_pos p1,if_pos p1,if_neg (fun h => d6 (p1.symm.trans (s3.2 h)))]
   ·rw [if_neg p1,if_neg p1]
    by_cases p2:A = e
    ·rw [if_pos p2,if_pos p2,if_neg (fun h => p1 (s2.2 h))]
    ·rw [if_neg p2,if_neg p2]
  ·by_cases q3:K = c
   ·have z:=t3.1 q3
    have nA:A ≠ c:=fun h => k1 (z.symm.trans (s2.1 h))
    have nB:B ≠ c:=fun h => k2 (z.symm.trans (s4.1 h))
    have nE:E ≠ c:=fun h => k4 (z.symm.trans (s6.2 h))
    rw [q3]
    simp only [if_true,if_neg nA,if_neg nB,if_neg (fun h => d2 h.symm:¬ c = a),if_neg (fun h => d4 h.symm:¬ c = b)]
    by_cases p1:E = a
    ·have p2:¬ E = b:=fun h => d1 (p1.symm.trans h)
     rw [if_pos p1,if_neg p2,if_pos p1,if_neg (fun h => by
      have h2:E = b:=s5.1 h
      omega)]
    ·rw [if_neg p1]
     by_cases p2:E = b
     ·rw [if_pos p2,if_pos p2,if_neg (fun h => p1 (s3.1 h))]
     ·rw [if_neg p2,if_neg p2,if_neg p1]
   ·by_cases q4:K = e
    ·have z:=t4.1 q4
     have nA:A ≠ e:=fun h => k1 (z.symm.trans (s3.1 h))
     have nB:B ≠ e:=fun h => k2 (z.symm.trans (s5.1 h))
     have nC:C ≠ e:=fun h => k3 (z.symm.trans (s6.1 h))
     rw [q4]
     simp only [if_true,if_neg nA,if_neg nB,if_neg (fun h => d3 h.symm:¬ e = a),if_neg (fun h => d5 h.symm:¬ e = b),if_neg (fun h => d6 h.symm:¬ e = c)]
     by_cases p1:C = a
     ·have p2:¬ C = b:=fun h => d1 (p1.symm.trans h)
      rw [if_pos p1,if_neg p2,if_pos p1,if_neg (fun h => by
       have h2:C = b:=s4.1 h
       omega)]
     ·rw [if_neg p1]
      by_cases p2:C = b
      ·rw [if_pos p2,if_pos p2,if_neg (fun h => p1 (s2.1 h))]
      ·rw [if_neg p2,if_neg p2,if_neg p1]
    ·simp only [if_neg q1,if_neg q2,if_neg q3,if_neg q4]
end Go.Proofs.Ytobbepmlmbbamaa
end
