/-
 The texts Rq, Rr.
-/
import Derived.Test.YtobbepmlmbbamaaE01
import Derived.Deep.CutBlock
import Derived.Deep.DeepCutAuto
import Derived.Outline
import Derived.RegionTactic
set_option linter.unusedVariables false
set_option linter.unusedSimpArgs false
section
namespace Go.Proofs.Ytobbepmlmbbamaa
open Go.RowKit
theorem jn_get {l:List Nat} {a b:Nat} (ha:a < l.length) (hb:b < l.length) (k:Nat):(jn l a b).getD k 0 = if k = b then a else if k = a then b else l.getD k 0 := by
 unfold jn
 rw [List.getD_eq_getElem?_getD,List.getElem?_set]
 by_cases h1:b = k
 ·rw [if_pos h1,if_pos (by rw [List.length_set]; omega),if_pos h1.symm]; rfl
 ·rw [if_neg h1,if_neg (fun e => h1 e.symm),List.getElem?_set]
  by_cases h2:a = k
  ·rw [if_pos h2,if_pos (by omega),if_pos h2.symm]; rfl
  ·rw [if_neg h2,if_neg (fun e => h2 e.symm),List.getD_eq_getElem?_getD]
def clo (l:List Nat) (a b:Nat):List Nat := if l.getD a 0 = b then l else jn l (l.getD a 0) (l.getD b 0)
def clk (l:List Nat) (a b:Nat):Nat := if l.getD a 0 = b then 1 else 0
theorem clo_len (l:List Nat) (a b:Nat):(clo l a b).length = l.length := by unfold clo; split <;> simp [jn]
theorem clo_get {l:List Nat} {a b:Nat} (ha:l.getD a 0 < l.length) (hb:l.getD b 0 < l.length) (k:Nat):(clo l a b).getD k 0 = if l.getD a 0 = b then l.getD k 0 else if k = l.getD b 0 then l.getD a 0 else if k = l.getD a 0 then l.getD b 0 else l.getD k 0 := by
 unfold clo
 split
 ·rfl
 ·exact jn_get ha hb k
theorem clo_lt {l:List Nat} {a b:Nat} (h:∀ k,k < l.length → l.getD k 0 < l.length) (ha:a < l.length) (hb:b < l.length):∀ k,k < (clo l a b).length → (clo l a b).getD k 0 < (clo l a b).length := by
 intro k hk
 rw [clo_len] at hk ⊢
 rw [clo_get (h a ha) (h b hb)]
 have:=h a ha
 have:=h b hb
 have:=h k hk
 split
 ·exact h k hk
 ·split
  ·exact h a ha
  ·split
   ·exact h b hb
   ·exact h k hk
theorem clo_g {l:List Nat} {a b k:Nat} (la:l.getD a 0 < l.length) (lb:l.getD b 0 < l.length) (ia:l.getD (l.getD a 0) 0 = a) (ib:l.getD (l.getD b 0) 0 = b) (ik:l.getD (l.getD k 0) 0 = k) (hab:a ≠ b) (k1:k ≠ a) (k2:k ≠ b) :
 (clo l a b).getD k 0 = if l.getD k 0 = a then l.getD b 0 else if l.getD k 0 = b then l.getD a 0 else l.getD k 0 := by
 have t1:k = l.getD a 0 ↔ l.getD k 0 = a:=⟨fun h => by rw [h,ia],fun h => by rw [← h,ik]⟩
 have t2:k = l.getD b 0 ↔ l.getD k 0 = b:=⟨fun h => by rw [h,ib],fun h => by rw [← h,ik]⟩
 have t3:l.getD a 0 = b → l.getD b 0 = a:=fun h => by rw [← h,ia]
 rw [clo_get la lb]
 by_cases q1:l.getD k 0 = a
 ·have e1:=t1.2 q1
  rw [if_pos q1,if_neg (fun h => k2 (e1.trans h)),if_neg (fun h => hab (by rw [← q1,t2.1 h])),if_pos e1]
 ·rw [if_neg q1]
  by_cases q2:l.getD k 0 = b
  ·have e2:=t2.2 q2
   rw [if_pos q2,if_neg (fun h => k1 (e2.trans (t3 h))),if_pos e2]
  ·rw [if_neg q2]
   split
   ·rfl
   ·rw [if_neg (fun h => q2 (t2.1 h)),if_neg (fun h => q1 (t1.1 h))]
theorem clo_j {l:List Nat} (hlt:∀ k,k < l.length → l.getD k 0 < l.length) (hinv:∀ k,k < l.length → l.getD (l.getD k 0) 0 = k) {a b k:Nat} (ha:a < l.length) (hb:b < l.length) (hab:a ≠ b) (hk:k < l.length) (k1:k ≠ a) (k2:k ≠ b) :
 (clo l a b).getD k 0 = if l.getD k 0 = a then l.getD b 0 else if l.getD k 0 = b then l.getD a 0 else l.getD k 0 :=
 clo_g (hlt a ha) (hlt b hb) (hinv a ha) (hinv b hb) (hinv k hk) hab k1 k2
theorem clo_inv {l:List Nat} (hlt:∀ k,k < l.length → l.getD k 0 < l.length) (hinv:∀ k,k < l.length → l.getD (l.getD k 0) 0 = k) (hne:∀ k,k < l.length → l.getD k 0 ≠ k) {a b k:Nat} (ha:a < l.length) (hb:b < l.length) (hab:a ≠ b) (hk:k < l.length) (k1:k ≠ a) (k2:k ≠ b) :
 (clo l a b).getD k 0 ≠ a ∧ (clo l a b).getD k 0 ≠ b ∧ (clo l a b).getD k 0 < l.length ∧ (clo l a b).getD ((clo l a b).getD k 0) 0 = k := by
 have ia:=hinv a ha
 have ib:=hinv b hb
 have ik:=hinv k hk
 have J:=fun x hx x1 x2 => clo_j (k := x) hlt hinv ha hb hab hx x1 x2
 by_cases q1:l.getD k 0 = a
 ·have e:(clo l a b).getD k 0 = l.getD b 0:=by rw [J k hk k1 k2,if_pos q1]
  have n2:=hne b hb
  have n1:l.getD b 0 ≠ a:=fun h => k2 (by rw [← ik,q1,← h,ib])
  rw [e]
  refine ⟨n1,n2,hlt b hb,?_⟩
  rw [J _ (hlt b hb) n1 n2,ib,if_neg (fun h => hab h.symm),if_pos rfl,← q1,ik]
 ·by_cases q2:l.getD k 0 = b
  ·have e:(clo l a b).getD k 0 = l.getD a 0:=by rw [J k hk k1 k2,if_neg q1,if_pos q2]
   have n1:=hne a ha
   have n2:l.getD a 0 ≠ b:=fun h => k1 (by rw [← ik,q2,← h,ia])
   rw [e]
   refine ⟨n1,n2,hlt a ha,?_⟩
   rw [J _ (hlt a ha) n1 n2,ia,if_pos rfl,← q2,ik]
  ·have e:(clo l a b).getD k 0 = l.getD k 0:=by rw [J k hk k1 k2,if_neg q1,if_neg q2]
   rw [e]
   refine ⟨q1,q2,hlt k hk,?_⟩
   rw [J _ (hlt k hk) q1 q2,ik,if_neg k1,if_neg k2]
theorem clo_two {l:List Nat} (hlt:∀ k,k < l.length → l.getD k 0 < l.length) (hinv:∀ k,k < l.length → l.getD (l.getD k 0) 0 = k) (hne:∀ k,k < l.length → l.getD k 0 ≠ k) {a b c e k:Nat} (ha:a < l.length) (hb:b < l.length) (hc:c < l.length) (he:e < l.length) (hk:k < l.length)
 (d1:a ≠ b) (d2:a ≠ c) (d3:a ≠ e) (d4:b ≠ c) (d5:b ≠ e) (d6:c ≠ e) (k1:k ≠ a) (k2:k ≠ b) (k3:k ≠ c) (k4:k ≠ e) :
 (clo (clo l a b) c e).getD k 0 = if (clo l a b).getD k 0 = c then (clo l a b).getD e 0 else if (clo l a b).getD k 0 = e then (clo l a b).getD c 0 else (clo l a b).getD k 0 := by
 have I:=fun x hx x1 x2 => clo_inv (k := x) hlt hinv hne ha hb d1 hx x1 x2
 obtain ⟨_,_,c3,c4⟩:=I c hc (fun h => d2 h.symm) (fun h => d4 h.symm)
 obtain ⟨_,_,e3,e4⟩:=I e he (fun h => d3 h.symm) (fun h => d5 h.symm)
 obtain ⟨_,_,_,f4⟩:=I k hk k1 k2
 exact clo_g (by rw [clo_len]; exact c3) (by rw [clo_len]; exact e3) c4 e4 f4 d6 k3 k4
set_option maxHeartbeats 4000000 in
theorem clo_comm {l:List Nat} (hlt:∀ k,k < l.length → l.getD k 0 < l.length) (hinv:∀ k,k < l.length → l.getD (l.getD k 0) 0 = k) {a b c e:Nat} (ha:a < l.length) (hb:b < l.length) (hc:c < l.length) (he:e < l.length)
 (d1:a ≠ b) (d2:a ≠ c) (d3:a ≠ e) (d4:b ≠ c) (d5:b ≠ e) (d6:c ≠ e):clk l a b + clk (clo l a b) c e = clk l c e + clk (clo l c e) b a := by
 have e1:=clo_j hlt hinv ha hb d1 hc (fun h => d2 h.symm) (fun h => d4 h.symm)
 have e2:=clo_j hlt hinv hc he d6 hb d4 d5
 unfold clk
 rw [e1,e2]
 have sw:∀ x y,x < l.length → y < l.length → (l.getD x 0 = y ↔ l.getD y 0 = x):=fun x y hx hy => ⟨fun h => by rw [← h,hinv x hx],fun h => by rw [← h,hinv y hy]⟩
 have s1:=sw a b ha hb
 have s2:=sw a c ha hc
 have s3:=sw a e ha he
 have s4:=sw b c hb hc
 have s5:=sw b e hb he
 have s6:=sw c e hc he
 obtain ⟨A,hA⟩:∃ A,A = l.getD a 0 := ⟨_,rfl⟩
 obtain ⟨B,hB⟩:∃ A,A = l.getD b 0 := ⟨_,rfl⟩
 obtain ⟨C,hC⟩:∃ A,A = l.getD c 0 := ⟨_,rfl⟩
 obtain ⟨E,hE⟩:∃ A,A = l.getD e 0 := ⟨_,rfl⟩
 rw [← hA,← hB] at s1
 rw [← hA,← hC] at s2
 rw [← hA,← hE] at s3
 rw [← hB,← hC] at s4
 rw [← hB,← hE] at s5
 rw [← hC,← hE] at s6
 rw [← hA,← hB,← hC,← hE]
 clear hA hB hC hE
 clear e1 e2 sw hlt hinv
 by_cases q1:C = a
 ·rw [if_pos q1]
  have:=s2.2 q1
  (repeat' split) <;> omega
 ·rw [if_neg q1]
  by_cases q2:C = b
  ·rw [if_pos q2]
   have:=s4.2 q2
   (repeat' split) <;> omega
  ·rw [if_neg q2]
   (repeat' split) <;> omega
end Go.Proofs.Ytobbepmlmbbamaa
end
section
namespace Go.Proofs.Ytobbepmlmbbamaa
open Go.RowKit
set_option maxHeartbeats 4000000 in
theorem clo_same {l:List Nat} (hlt:∀ k,k < l.length → l.getD k 0 < l.length) (hinv:∀ k,k < l.length → l.getD (l.getD k 0) 0 = k) (hne:∀ k,k < l.length → l.getD k 0 ≠ k) {a b c e k:Nat} (ha:a < l.length) (hb:b < l.length) (hc:c < l.length) (he:e < l.length) (hk:k < l.length)
 (d1:a ≠ b) (d2:a ≠ c) (d3:a ≠ e) (d4:b ≠ c) (d5:b ≠ e) (d6:c ≠ e) (k1:k ≠ a) (k2:k ≠ b) (k3:k ≠ c) (k4:k ≠ e) :
 (clo (clo l a b) c e).getD k 0 = (clo (clo l c e) b a).getD k 0 := by
 rw [clo_two hlt hinv hne ha hb hc he hk d1 d2 d3 d4 d5 d6 k1 k2 k3 k4,clo_two hlt hinv hne hc he hb ha hk d6 (fun h => d4 h.symm) (fun h => d2 h.symm) (fun h => d5 h.symm) (fun h => d3 h.symm) (fun h => d1 h.symm) k3 k4 k2 k1]
 rw [clo_j hlt hinv ha hb d1 hk k1 k2,clo_j hlt hinv ha hb d1 hc (fun h => d2 h.symm) (fun h => d4 h.symm),clo_j hlt hinv ha hb d1 he (fun h => d3 h.symm) (fun h => d5 h.symm)]
 rw [clo_j hlt hinv hc he d6 hk k3 k4,clo_j hlt hinv hc he d6 ha d2 d3,clo_j hlt hinv hc he d6 hb d4 d5]
 have sw:∀ x y,x < l.length → y < l.length → (l.getD x 0 = y ↔ l.getD y 0 = x):=fun x y hx hy => ⟨fun h => by rw [← h,hinv x hx],fun h => by rw [← h,hinv y hy]⟩
 have s1:=sw a b ha hb
 have s2:=sw a c ha hc
 have s3:=sw a e ha he
 have s4:=sw b c hb hc
 have s5:=sw b e hb he
 have s6:=sw c e hc he
 have t1:=sw k a hk ha
 have t2:=sw k b hk hb
 have t3:=sw k c hk hc
 have t4:=sw k e hk he
 obtain ⟨A,hA⟩:∃ A,A = l.getD a 0 := ⟨_,rfl⟩
 obtain ⟨B,hB⟩:∃ A,A = l.getD b 0 := ⟨_,rfl⟩
 obtain ⟨C,hC⟩:∃ A,A = l.getD c 0 := ⟨_,rfl⟩
 obtain ⟨E,hE⟩:∃ A,A = l.getD e 0 := ⟨_,rfl⟩
 obtain ⟨K,hK⟩:∃ A,A = l.getD k 0 := ⟨_,rfl⟩
 rw [← hA,← hB] at s1
 rw [← hA,← hC] at s2
 rw [← hA,← hE] at s3
 rw [← hB,← hC] at s4
 rw [← hB,← hE] at s5
 rw [← hC,← hE] at s6
 rw [← hK,← hA] at t1
 rw [← hK,← hB] at t2
 rw [← hK,← hC] at t3
 rw [← hK,← hE] at t4
 rw [← hA,← hB,← hC,← hE,← hK]
 clear hA hB hC hE hK sw hlt hinv hne
 by_cases q1:K = a
 ·have z:=t1.1 q1
  have nB:B ≠ a:=fun h => k2 (z.symm.trans (s1.2 h))
  have nC:C ≠ a:=fun h => k3 (z.symm.trans (s2.2 h))
  have nE:E ≠ a:=fun h => k4 (z.symm.trans (s3.2 h))
  rw [q1]
  simp only [if_true,if_neg nC,if_neg nE,if_neg d1,if_neg d2,if_neg d3]
  by_cases p1:B = c
  ·rw [if_pos p1,if_pos p1,if_neg (fun h => d6 (p1.symm.trans (s5.2 h)))]
  ·rw [if_neg p1,if_neg p1]
   by_cases p2:B = e
   ·rw [if_pos p2,if_pos p2,if_neg (fun h => p1 (s4.2 h))]
   ·rw [if_neg p2,if_neg p2]
 ·by_cases q2:K = b
  ·have z:=t2.1 q2
   have nA:A ≠ b:=fun h => k1 (z.symm.trans (s1.1 h))
   have nC:C ≠ b:=fun h => k3 (z.symm.trans (s4.2 h))
   have nE:E ≠ b:=fun h => k4 (z.symm.trans (s5.2 h))
   rw [q2]
   simp only [if_true,if_neg nC,if_neg nE,if_neg (fun h => d1 h.symm:¬ b = a),if_neg d4,if_neg d5]
   by_cases p1:A = c
   ·rw [if_pos p1,if_pos p1,if_neg (fun h => d6 (p1.symm.trans (s3.2 h)))]
   ·rw [if_neg p1,if_neg p1]
    by_cases p2:A = e
    ·rw [if_pos p2,if_pos p2,if_neg (fun h => p1 (s2.2 h))]
    ·rw [if_neg p2,if_neg p2]
  ·by_cases q3:K = c
   ·have z:=t3.1 q3
    have nA:A ≠ c:=fun h => k1 (z.symm.trans (s2.1 h))
    have nB:B ≠ c:=fun h => k2 (z.symm.trans (s4.1 h))
    have nE:E ≠ c:=fun h => k4 (z.symm.trans (s6.2 h))
    rw [q3]
    simp only [if_true,if_neg nA,if_neg nB,if_neg (fun h => d2 h.symm:¬ c = a),if_neg (fun h => d4 h.symm:¬ c = b)]
    by_cases p1:E = a
    ·have p2:¬ E = b:=fun h => d1 (p1.symm.trans h)
     rw [if_pos p1,if_neg p2,if_pos p1,if_neg (fun h => by
      have h2:E = b:=s5.1 h
      omega)]
    ·rw [if_neg p1]
     by_cases p2:E = b
     ·rw [if_pos p2,if_pos p2,if_neg (fun h => p1 (s3.1 h))]
     ·rw [if_neg p2,if_neg p2,if_neg p1]
   ·by_cases q4:K = e
    ·have z:=t4.1 q4
     have nA:A ≠ e:=fun h => k1 (z.symm.trans (s3.1 h))
     have nB:B ≠ e:=fun h => k2 (z.symm.trans (s5.1 h))
     have nC:C ≠ e:=fun h => k3 (z.symm.trans (s6.1 h))
     rw [q4]
     simp only [if_true,if_neg nA,if_neg nB,if_neg (fun h => d3 h.symm:¬ e = a),if_neg (fun h => d5 h.symm:¬ e = b),if_neg (fun h => d6 h.symm:¬ e = c)]
     by_cases p1:C = a
     ·have p2:¬ C = b:=fun h => d1 (p1.symm.trans h)
      rw [if_pos p1,if_neg p2,if_pos p1,if_neg (fun h => by
       have h2:C = b:=s4.1 h
       omega)]
     ·rw [if_neg p1]
      by_cases p2:C = b
      ·rw [if_pos p2,if_pos p2,if_neg (fun h => p1 (s2.1 h))]
      ·rw [if_neg p2,if_neg p2,if_neg p1]
    ·simp only [if_neg q1,if_neg q2,if_neg q3,if_neg q4]
end Go.Proofs.Ytobbepmlmbbamaa
end
