/-
 The texts Wq, Rq, Ra, Re, Rr, Rf, Sa.
-/
import Derived.Test.YtobbepmlmbbamaaH01
import Derived.Deep.CutBlock
set_option linter.unusedVariables false
set_option linter.unusedSimpArgs false
section
namespace Go.Proofs.Ytobbepmlmbbamaa
open Go Go.RowKit
def needP (x y sg:Int):Nat:=(if x<0 then 1 else 0)+(if y<0∧sg=0 then 1 else 0)
def pkC (d:Pl.Dg)(F P:List Nat)(x y sg:Int):Int :=
 if d.lp<needP x y sg then 6 else if 0≤x∧0≤y∧x≠y∧nearB F P d x.toNat y.toNat=false then 6 else if 64<d.n+2 then 5 else 0
def PkPost (d:Pl.Dg)(F P:List Nat)(x y sg:Int)(w:World)(e:Ending)(w':World):Prop:=e = .returned (.int .i64 (pkC d F P x y sg))∧Below w.heap.size w w'
set_option maxRecDepth 100000 in
set_option maxHeartbeats 2000000 in
theorem pokeable_any (d:Pl.Dg)(F P:List Nat)(A B L R:Option Addr)(cp cq cl cr m:Nat)(k x y sg:Int)(ov:Bool)(w:World)(hm:m=4 * d.n)(hs:ShAt w A B L R d F P)(hn:d.n≤64)(hlp:d.lp≤64)(hx:-2≤x∧x<4 * d.n)(hy:-2≤y∧y<4 * d.n) :
 Calls Try.prog 84 #[sheetV A B L R d.n m d.lp cp cq cl cr,.agg #[.int .i64 k,.int .i64 x,.int .i64 y,.int .i64 sg,.bool ov]] w (PkPost d F P x y sg w):=by
 unfold sheetV
 obtain ⟨W,hW⟩:∃W,W=(w.alloc (.cells #[.slice A d.n cp,.slice B m cq,.int .i64 d.lp,.slice L m cl,.slice R d.n cr] 64)).alloc (.cells #[.int .i64 k,.int .i64 x,.int .i64 y,.int .i64 sg,.bool ov] 28):=⟨_,rfl⟩
 have BX:=hide (show Row W w.heap.size 64 [.slice A d.n cp,.slice B m cq,.int .i64 d.lp,.slice L m cl,.slice R d.n cr] by rw [hW];exact (Row.new w _ [_,_,_,_,_]).alloc _)
 have BM:=hide (show Row W (w.heap.size+1) 28 [.int .i64 k,.int .i64 x,.int .i64 y,.int .i64 sg,.bool ov] by rw [hW];exact row_at (vs:=[_,_,_,_,_]) (by simp))
 have B0:=hide (show Below w.heap.size w W by rw [hW];exact ((Below.refl _ _).alloc (Nat.le_refl _) _).alloc (by simp) _)
 have HS:=hide (hs.keep B0.out)
 have HM:=hide hm
 have HW:=hide hW
 clear hs hW hm
 go_enter Try.func84,Try.ntmps84
 go_upto_region 2 with (fail)
 rw [←HW.out]
 obtain ⟨f0,f1,f2,f3,f4,f5⟩:=box5 BX.out
 obtain ⟨m0,m1,m2,m3,m4,m5⟩:=box5 BM.out
 by_cases hx0:0≤x <;> by_cases hy0:0≤y
 ·obtain ⟨a,rfl⟩:=Int.eq_ofNat_of_zero_le hx0
  obtain ⟨b,rfl⟩:=Int.eq_ofNat_of_zero_le hy0
  have t1:decide ((d.lp:Int)<0)=false:=by simp
  have HN:=hide (show ∀a b:Nat,needP (a:Int) (b:Int) sg=0 from fun a b=>by unfold needP;rw [if_neg (by omega),if_neg (by omega)])
  by_cases hab:a=b
  ·subst hab
   go_wp2
   all_goals
    go_ret
    refine ⟨ret_int ?_,B0.out⟩
    unfold pkC
    rw [HN.out,if_neg (by omega),if_neg (by simp)]
    first | rw [if_pos (by omega)] | rw [if_neg (by omega)]
  ·have t2:((a:Int) != (b:Int))=true:=by rw [bne_iff_ne];omega
   go_wp2_with fail
   refine (near_any d F P A B L R cp cq cl cr m a b _ HM.out HS.out hn (by omega) (by omega)).mono ?_
   rintro e w1 ⟨rfl,hb1⟩
   have B1:=hide (B0.out.trans (hb1.mono B0.out.size))
   obtain ⟨q0,q1,q2,q3,q4,q5⟩:=box5 (BX.out.below hb1)
   clear hb1
   cases hnb:nearB F P d a b with
   | true =>
     have HNB:=hide hnb
     clear hnb
     go_wp2
     all_goals
      go_ret
      refine ⟨ret_int ?_,B1.out⟩
      unfold pkC
      rw [HN.out,if_neg (by omega),if_neg (by simp [HNB.out])]
      first | rw [if_pos (by omega)] | rw [if_neg (by omega)]
   | false =>
     have HNB:=hide hnb
     clear hnb
     go_wp2
     all_goals
      go_ret
      refine ⟨ret_int ?_,B1.out⟩
      unfold pkC
      rw [HN.out,if_neg (by omega),if_pos ⟨by omega,by omega,by omega,by simpa using HNB.out⟩]
 all_goals
  by_cases hs0:sg=0
  all_goals
   go_wp2
   all_goals
    go_ret
    refine ⟨ret_int ?_,B0.out⟩
    unfold pkC needP
    simp only [ne_eq,beq_iff_eq,beq_eq_false_iff_ne,and_true] at *
    repeat' split
    all_goals omega
end Go.Proofs.Ytobbepmlmbbamaa
end
section
namespace Go.Proofs.Ytobbepmlmbbamaa
open Go.RowKit
theorem jn_get {l:List Nat}{a b:Nat}(ha:a<l.length)(hb:b<l.length)(k:Nat):(jn l a b).getD k 0=if k=b then a else if k=a then b else l.getD k 0:=by
 unfold jn
 rw [List.getD_eq_getElem?_getD,List.getElem?_set]
 by_cases h1:b=k
 ·rw [if_pos h1,if_pos (by rw [List.length_set];omega),if_pos h1.symm];rfl
 ·rw [if_neg h1,if_neg (fun e=>h1 e.symm),List.getElem?_set]
  by_cases h2:a=k
  ·rw [if_pos h2,if_pos (by omega),if_pos h2.symm];rfl
  ·rw [if_neg h2,if_neg (fun e=>h2 e.symm),List.getD_eq_getElem?_getD]
def clo (l:List Nat)(a b:Nat):List Nat:=if l.getD a 0=b then l else jn l (l.getD a 0) (l.getD b 0)
def clk (l:List Nat)(a b:Nat):Nat:=if l.getD a 0=b then 1 else 0
theorem clo_len (l:List Nat)(a b:Nat):(clo l a b).length=l.length:=by unfold clo;split <;> simp [jn]
theorem clo_get {l:List Nat}{a b:Nat}(ha:l.getD a 0<l.length)(hb:l.getD b 0<l.length)(k:Nat):(clo l a b).getD k 0=if l.getD a 0=b then l.getD k 0 else if k=l.getD b 0 then l.getD a 0 else if k=l.getD a 0 then l.getD b 0 else l.getD k 0:=by
 unfold clo
 split
 ·rfl
 ·exact jn_get ha hb k
theorem clo_lt {l:List Nat}{a b:Nat}(h:∀k,k<l.length→l.getD k 0<l.length)(ha:a<l.length)(hb:b<l.length):∀k,k<(clo l a b).length→(clo l a b).getD k 0<(clo l a b).length:=by
 intro k hk
 rw [clo_len] at hk ⊢
 rw [clo_get (h a ha) (h b hb)]
 have:=h a ha
 have:=h b hb
 have:=h k hk
 split
 ·exact h k hk
 ·split
  ·exact h a ha
  ·split
   ·exact h b hb
   ·exact h k hk
theorem clo_g {l:List Nat}{a b k:Nat}(la:l.getD a 0<l.length)(lb:l.getD b 0<l.length)(ia:l.getD (l.getD a 0) 0=a)(ib:l.getD (l.getD b 0) 0=b)(ik:l.getD (l.getD k 0) 0=k)(hab:a≠b)(k1:k≠a)(k2:k≠b) :
 (clo l a b).getD k 0=if l.getD k 0=a then l.getD b 0 else if l.getD k 0=b then l.getD a 0 else l.getD k 0:=by
 have t1:k=l.getD a 0↔l.getD k 0=a:=⟨fun h=>by rw [h,ia],fun h=>by rw [←h,ik]⟩
 have t2:k=l.getD b 0↔l.getD k 0=b:=⟨fun h=>by rw [h,ib],fun h=>by rw [←h,ik]⟩
 have t3:l.getD a 0=b→l.getD b 0=a:=fun h=>by rw [←h,ia]
 rw [clo_get la lb]
 by_cases q1:l.getD k 0=a
 ·have e1:=t1.2 q1
  rw [if_pos q1,if_neg (fun h=>k2 (e1.trans h)),if_neg (fun h=>hab (by rw [←q1,t2.1 h])),if_pos e1]
 ·rw [if_neg q1]
  by_cases q2:l.getD k 0=b
  ·have e2:=t2.2 q2
   rw [if_pos q2,if_neg (fun h=>k1 (e2.trans (t3 h))),if_pos e2]
  ·rw [if_neg q2]
   split
   ·rfl
   ·rw [if_neg (fun h=>q2 (t2.1 h)),if_neg (fun h=>q1 (t1.1 h))]
theorem clo_j {l:List Nat}(hlt:∀k,k<l.length→l.getD k 0<l.length)(hinv:∀k,k<l.length→l.getD (l.getD k 0) 0=k){a b k:Nat}(ha:a<l.length)(hb:b<l.length)(hab:a≠b)(hk:k<l.length)(k1:k≠a)(k2:k≠b) :
 (clo l a b).getD k 0=if l.getD k 0=a then l.getD b 0 else if l.getD k 0=b then l.getD a 0 else l.getD k 0 :=
 clo_g (hlt a ha) (hlt b hb) (hinv a ha) (hinv b hb) (hinv k hk) hab k1 k2
theorem clo_inv {l:List Nat}(hlt:∀k,k<l.length→l.getD k 0<l.length)(hinv:∀k,k<l.length→l.getD (l.getD k 0) 0=k)(hne:∀k,k<l.length→l.getD k 0≠k){a b k:Nat}(ha:a<l.length)(hb:b<l.length)(hab:a≠b)(hk:k<l.length)(k1:k≠a)(k2:k≠b) :
 (clo l a b).getD k 0≠a∧(clo l a b).getD k 0≠b∧(clo l a b).getD k 0<l.length∧(clo l a b).getD ((clo l a b).getD k 0) 0=k:=by
 have ia:=hinv a ha
 have ib:=hinv b hb
 have ik:=hinv k hk
 have J:=fun x hx x1 x2=>clo_j (k:=x) hlt hinv ha hb hab hx x1 x2
 by_cases q1:l.getD k 0=a
 ·have e:(clo l a b).getD k 0=l.getD b 0:=by rw [J k hk k1 k2,if_pos q1]
  have n2:=hne b hb
  have n1:l.getD b 0≠a:=fun h=>k2 (by rw [←ik,q1,←h,ib])
  rw [e]
  refine ⟨n1,n2,hlt b hb,?_⟩
  rw [J _ (hlt b hb) n1 n2,ib,if_neg (fun h=>hab h.symm),if_pos rfl,←q1,ik]
 ·by_cases q2:l.getD k 0=b
  ·have e:(clo l a b).getD k 0=l.getD a 0:=by rw [J k hk k1 k2,if_neg q1,if_pos q2]
   have n1:=hne a ha
   have n2:l.getD a 0≠b:=fun h=>k1 (by rw [←ik,q2,←h,ia])
   rw [e]
   refine ⟨n1,n2,hlt a ha,?_⟩
   rw [J _ (hlt a ha) n1 n2,ia,if_pos rfl,←q2,ik]
  ·have e:(clo l a b).getD k 0=l.getD k 0:=by rw [J k hk k1 k2,if_neg q1,if_neg q2]
   rw [e]
   refine ⟨q1,q2,hlt k hk,?_⟩
   rw [J _ (hlt k hk) q1 q2,ik,if_neg k1,if_neg k2]
theorem clo_two {l:List Nat}(hlt:∀k,k<l.length→l.getD k 0<l.length)(hinv:∀k,k<l.length→l.getD (l.getD k 0) 0=k)(hne:∀k,k<l.length→l.getD k 0≠k){a b c e k:Nat}(ha:a<l.length)(hb:b<l.length)(hc:c<l.length)(he:e<l.length)(hk:k<l.length)
 (d1:a≠b) (d2:a≠c) (d3:a≠e) (d4:b≠c) (d5:b≠e) (d6:c≠e) (k1:k≠a) (k2:k≠b) (k3:k≠c) (k4:k≠e) :
 (clo (clo l a b) c e).getD k 0=if (clo l a b).getD k 0=c then (clo l a b).getD e 0 else if (clo l a b).getD k 0=e then (clo l a b).getD c 0 else (clo l a b).getD k 0:=by
 have I:=fun x hx x1 x2=>clo_inv (k:=x) hlt hinv hne ha hb d1 hx x1 x2
 obtain ⟨_,_,c3,c4⟩:=I c hc (fun h=>d2 h.symm) (fun h=>d4 h.symm)
 obtain ⟨_,_,e3,e4⟩:=I e he (fun h=>d3 h.symm) (fun h=>d5 h.symm)
 obtain ⟨_,_,_,f4⟩:=I k hk k1 k2
 exact clo_g (by rw [clo_len];exact c3) (by rw [clo_len];exact e3) c4 e4 f4 d6 k3 k4
set_option maxHeartbeats 4000000 in
theorem clo_comm {l:List Nat}(hlt:∀k,k<l.length→l.getD k 0<l.length)(hinv:∀k,k<l.length→l.getD (l.getD k 0) 0=k){a b c e:Nat}(ha:a<l.length)(hb:b<l.length)(hc:c<l.length)(he:e<l.length)
 (d1:a≠b) (d2:a≠c) (d3:a≠e) (d4:b≠c) (d5:b≠e) (d6:c≠e):clk l a b+clk (clo l a b) c e=clk l c e+clk (clo l c e) b a:=by
 have e1:=clo_j hlt hinv ha hb d1 hc (fun h=>d2 h.symm) (fun h=>d4 h.symm)
 have e2:=clo_j hlt hinv hc he d6 hb d4 d5
 unfold clk
 rw [e1,e2]
 have sw:∀x y,x<l.length→y<l.length→(l.getD x 0=y↔l.getD y 0=x):=fun x y hx hy=>⟨fun h=>by rw [←h,hinv x hx],fun h=>by rw [←h,hinv y hy]⟩
 have s1:=sw a b ha hb
 have s2:=sw a c ha hc
 have s3:=sw a e ha he
 have s4:=sw b c hb hc
 have s5:=sw b e hb he
 have s6:=sw c e hc he
 obtain ⟨A,hA⟩:∃A,A=l.getD a 0:=⟨_,rfl⟩
 obtain ⟨B,hB⟩:∃A,A=l.getD b 0:=⟨_,rfl⟩
 obtain ⟨C,hC⟩:∃A,A=l.getD c 0:=⟨_,rfl⟩
 obtain ⟨E,hE⟩:∃A,A=l.getD e 0:=⟨_,rfl⟩
 rw [←hA,←hB] at s1
 rw [←hA,←hC] at s2
 rw [←hA,←hE] at s3
 rw [←hB,←hC] at s4
 rw [←hB,←hE] at s5
 rw [←hC,←hE] at s6
 rw [←hA,←hB,←hC,←hE]
 clear hA hB hC hE
 clear e1 e2 sw hlt hinv
 by_cases q1:C=a
 ·rw [if_pos q1]
  have:=s2.2 q1
  (repeat' split) <;> omega
 ·rw [if_neg q1]
  by_cases q2:C=b
  ·rw [if_pos q2]
   have:=s4.2 q2
   (repeat' split) <;> omega
  ·rw [if_neg q2]
   (repeat' split) <;> omega
end Go.Proofs.Ytobbepmlmbbamaa
end
section
namespace Go.Proofs.Ytobbepmlmbbamaa
open Go Go.RowKit
theorem rturn_any (h k:Nat)(w:World)(hh:h≤1000000)(hk:k≤3) :
 Calls Try.prog 129 #[.int .i64 (h:Int),.int .i64 (k:Int)] w fun e w'=>e = .returned (.int .i64 (Pl.tn h k:Nat))∧w=w':=by
 go_enter Try.func129,Try.ntmps129
 go_wp2
 go_ret
 exact ⟨ret_int (by unfold Pl.tn;omega),rfl⟩
theorem rturn3 (h:Nat)(w:World)(hh:h≤1000000) :
 Calls Try.prog 129 #[.int .i64 (h:Int),.int .i64 3] w fun e w'=>e = .returned (.int .i64 (Pl.tn h 3:Nat))∧w=w':=rturn_any h 3 w hh (by omega)
theorem ropp_any (h:Nat)(w:World)(hh:h≤1000000) :
 Calls Try.prog 98 #[.int .i64 (h:Int)] w fun e w'=>e = .returned (.int .i64 (Pl.tn h 2:Nat))∧w=w':=by
 go_enter Try.func98,Try.ntmps98
 go_wp2_with fail
 refine (rturn_any h 2 _ hh (by omega)).mono ?_
 rintro e w1 ⟨rfl,rfl⟩
 go_wp2
 go_ret
 exact ⟨rfl,rfl⟩
theorem rout_any (d:Pl.Dg)(A B:Option Addr)(n cp q cq:Nat)(l:Value)(h:Nat)(w:World)(e:n=d.n)(hh:h<4 * n)(hn:n≤1000)(hs:IntsAt w A n d.sg) :
 Calls Try.prog 62 #[.agg #[.slice A n cp,.slice B q cq,l],.int .i64 (h:Int)] w fun e w'=>e = .returned (.bool (Pl.out d h))∧Below w.heap.size w w':=by
 subst e
 obtain ⟨b,o,rfl,hc⟩:=sign_at hs (c:=h / 4) (by omega)
 have hb:Below w.heap.size w (w.alloc (.cells #[.slice (some ⟨b,o,none⟩) d.n cp,.slice B q cq,l] 24)):=(Below.refl _ _).alloc (Nat.le_refl _) _
 have hc2:=cell_below hc hb
 have h4:h % 4=0∨h % 4=1∨h % 4=2∨h % 4=3:=by omega
 go_enter Try.func62,Try.ntmps62
 rcases h4 with h4 | h4 | h4 | h4
 ·have E:=out_zero (d:=d) h4
  go_wp2
  all_goals
   go_ret
   refine ⟨ret_bool ?_,hb⟩
   rw [E]
   first
    | done
    | rfl
    | (simp;done)
    | (simp;omega)
    | simp_all
 ·have E:=out_one (d:=d) h4
  go_wp2
  all_goals
   go_ret
   refine ⟨ret_bool ?_,hb⟩
   rw [E]
   first
    | done
    | rfl
    | (simp;done)
    | (simp;omega)
    | simp_all
 ·have E:=out_two (d:=d) h4
  go_wp2
  all_goals
   go_ret
   refine ⟨ret_bool ?_,hb⟩
   rw [E]
   first
    | done
    | rfl
    | (simp;done)
    | (simp;omega)
    | simp_all
 ·have E:=out_three (d:=d) h4
  go_wp2
  all_goals
   go_ret
   refine ⟨ret_bool ?_,hb⟩
   rw [E]
   first
    | done
    | rfl
    | (simp;done)
    | (simp;omega)
    | simp_all
theorem rnext_any (d:Pl.Dg)(hd:Pl.Wf d)(A B:Option Addr)(cp cq m:Nat)(l:Value)(h:Nat)(w:World)(hm:m=4 * d.n)(hb:IntsAt w B m (nats d.mt))(hh:h<4 * d.n) :
 Calls Try.prog 104 #[.agg #[.slice A d.n cp,.slice B m cq,l],.int .i64 (h:Int)] w fun e w'=>e = .returned (.int .i64 (Pl.nx d h:Nat))∧Below w.heap.size w w':=by
 subst hm
 have hn:=hd.few
 have lt:=hd.lt h hh
 obtain ⟨b,o,rfl,hc⟩:=mate_at hb hh
 have hbw:Below w.heap.size w (w.alloc (.cells #[.slice A d.n cp,.slice (some ⟨b,o,none⟩) (4 * d.n) cq,l] 24)):=(Below.refl _ _).alloc (Nat.le_refl _) _
 have hc2:=cell_below hc hbw
 obtain ⟨u,hu⟩:∃u,u=d.m h:=⟨_,rfl⟩
 have HU:=hide (show Pl.nx d h=Pl.tn u 3 by rw [hu];rfl)
 rw [←hu] at hc2 lt
 clear hu hc
 go_enter Try.func104,Try.ntmps104
 go_wp2_with fail
 refine (rturn3 u _ (by omega)).mono ?_
 rintro e w1 ⟨rfl,rfl⟩
 go_wp2
 go_ret
 exact ⟨by rw [HU.out];rfl,hbw⟩
theorem rin_any (A:Option Addr)(n c:Nat)(zs:List Int)(x:Int)(w:World)(hs:IntsAt w A n zs)(hn:n≤1000000) :
 Calls Try.prog 130 #[.slice A n c,.int .i64 x] w fun e w'=>e = .returned (.bool (decide (x ∈ zs)))∧w'=w:=by
 have HS:=hide hs
 have HL:=hide hs.len
 go_enter Try.func130,Try.ntmps130
 go_wp2
 go_loopg [5] n (fun g i wx=>∃k:Nat,k+g=n∧i = .int .i64 k∧(∀j,j<k→Pl.pv zs j≠x)∧wx=w)
 case atStart=>exact ⟨0,by omega,rfl,fun j hj=>absurd hj (by omega),rfl⟩
 case round =>
  obtain ⟨k,hkg,rfl,hno,rfl⟩:=hrel
  have HG:=hide hkg
  have HN:=hide hno
  have hkn:k≤n:=by omega
  clear hkg hno
  by_cases hlt:k<n
  ·obtain ⟨b,o,rfl,hc⟩:=HS.out.at_ hlt
   obtain ⟨u,hu⟩:∃u,u=Pl.pv zs k:=⟨_,rfl⟩
   rw [show zs.getD k 0=u from hu.symm] at hc
   have HU:=hide hu
   clear hu
   by_cases he:u=x
   ·have E:=hide (show x ∈ zs by rw [←he,HU.out];exact Pl.pv_mem (by have:=HL.out;omega))
    go_wp2
    go_ret
    exact ⟨ret_bool (by simpa using E.out),rfl⟩
   ·have t1:(u == x)=false:=by simpa using he
    have HE:=hide he
    clear he
    go_wp2
    go_roundg (gk - 1)
    case measure=>have:=HG.out;omega
    case rel =>
     refine ⟨k+1,by have:=HG.out;omega,by go_num,fun j hj=>?_,rfl⟩
     by_cases e:j=k
     ·subst e;rw [←HU.out];exact HE.out
     ·exact HN.out j (by omega)
  ·have E := hide (show x ∉ zs from fun hx => by
    obtain ⟨j,hj,e⟩:=Pl.mem_pv hx
    exact HN.out j (by have:=HL.out;omega) e)
   go_wp2
   go_ret
   exact ⟨ret_bool (by simpa using E.out),rfl⟩
set_option maxRecDepth 100000 in
set_option maxHeartbeats 2000000 in
theorem rface_any (d:Pl.Dg)(hd:Pl.Wf d)(A B:Option Addr)(cp cq m:Nat)(l:Value)(h p:Nat)(w:World)(hm:m=4 * d.n)(hb:IntsAt w B m (nats d.mt))(hh:h<4 * d.n)(hp:Pl.Per (Pl.nx d) h p)(hpN:p≤4 * d.n) :
 Calls Try.prog 64 #[.agg #[.slice A d.n cp,.slice B m cq,l],.int .i64 (h:Int)] w (fun e w'=>∃(A5:Option Addr) (c5:Nat),e = .returned (.slice A5 p c5)∧w'.ownsRow w.heap.size 3 1 (.slice A5 p c5) p ((Pl.cyc (Pl.nx d) h p).map (fun k:Nat=>Value.int .i64 k))∧Below w.heap.size w w'):=by
 have hn:=hd.few
 have HD:=hide hd
 have HP:=hide hp
 have HM:=hide hm
 have HB:=hide hb
 have hp0:=hp.1
 have HPN:=hide hpN
 have hp4:p≤256:=by omega
 have hm4:m≤256:=by omega
 have hb1:Below w.heap.size w (w.alloc (.cells #[.slice A d.n cp,.slice B m cq,l] 24)):=(Below.refl _ _).alloc (Nat.le_refl _) _
 have B0:=hide hb1
 have X0:=hide (row_at (W:=w) (g:=w.heap.size) (t:=24) (vs:=[.slice A d.n cp,.slice B m cq,l]) rfl)
 clear hp hm hb hd hb1 hpN
 obtain ⟨W1,hW1⟩:∃W1:World,W1=(w.alloc (.cells #[.slice A d.n cp,.slice B m cq,l] 24)).alloc (.cells #[.int .i64 (h:Int)] 3):=⟨_,rfl⟩
 have B1:=hide (show Below w.heap.size w W1 by rw [hW1];exact B0.out.alloc (by simp) _)
 have X1:=hide (show Row W1 w.heap.size 24 [.slice A d.n cp,.slice B m cq,l] by rw [hW1];exact X0.out.alloc _)
 have O1:=hide (show W1.ownsRow (w.heap.size+1) 3 1 (.slice (some ⟨w.heap.size+1,0,none⟩) 1 1) 1 [.int .i64 (h:Int)] by
  rw [hW1]
  have:=own_one (w.alloc (.cells #[.slice A d.n cp,.slice B m cq,l] 24)) (.int .i64 (h:Int))
  simpa using this)
 obtain ⟨d0,d1,d2,_⟩:=box3 X1.out
 go_enter Try.func64,Try.ntmps64
 rw [hW1] at d0 d1 d2
 go_wp2_with fail
 rw [←hW1]
 clear hW1 d0 d1 d2
 refine (rnext_any d HD.out A B cp cq m l h _ HM.out (HB.out.keep B1.out) hh).mono ?_
 rintro e w2 ⟨rfl,hb2⟩
 have B2:=hide (B1.out.trans (hb2.mono B1.out.size))
 have O2:=hide (own_keep O1.out hb2 (Nat.le_refl _))
 have X2:=hide (X1.out.below hb2)
 clear hb2
 go_wp2_with fail
 go_loopg [5,6] (p - 1) (fun g v i wx=>∃j:Nat,j+1+g=p∧i = .int .i64 (Pl.it (Pl.nx d) (j+1) h:Nat)∧wx.ownsRow (w.heap.size+1) 3 1 v (j+1) ((Pl.cyc (Pl.nx d) h (j+1)).map (fun k:Nat=>Value.int .i64 k))∧Below w.heap.size w wx∧Row wx w.heap.size 24 [.slice A d.n cp,.slice B m cq,l])
 case atStart=>exact ⟨0,by omega,rfl,O2.out,B2.out,X2.out⟩
 case round =>
  clear O2 B2 B1 X2 X1 O1 X0 B0
  obtain ⟨j,hjg,rfl,own,hb,hx0⟩:=hrel
  have HJ:=hide hjg
  have hjp:j+1≤p:=by omega
  have OWN:=hide own
  have HBL:=hide hb
  have X:=hide hx0
  have hbs:=hb.size
  obtain ⟨x,hx⟩:∃x,x=Pl.it (Pl.nx d) (j+1) h:=⟨_,rfl⟩
  rw [←hx]
  have HX:=hide hx
  have hxN:x<4 * d.n:=by rw [hx];exact it_lt (fun y hy=>HD.out.hm.pb.maps y hy) hh (j+1)
  clear hjg own hb hx hx0
  by_cases he:x=h
  ·have hjj:¬j+1<p:=fun hlt=>HP.out.2.2 (j+1) (by omega) hlt (by rw [←HX.out,he])
   have t1:((x:Int) != (h:Int))=false:=by rw [bne_eq_false_iff_eq];omega
   have HE:=hide he
   obtain rfl:j+1=p:=by omega
   obtain ⟨A5,c5,rfl⟩:=owns_slice OWN.out
   clear he hjj
   go_wp2
   go_ret
   exact ⟨A5,c5,rfl,own_keep OWN.out (Below.refl _ _) (by omega),HBL.out⟩
  ·have t1:((x:Int) != (h:Int))=true:=by rw [bne_iff_ne];omega
   have hjj:j+1<p:=by
    rcases Nat.lt_or_ge (j+1) p with h1 | h1
    ·exact h1
    ·have:j+1=p:=by omega
     exact absurd (by rw [HX.out,this];exact HP.out.2.1) he
   clear he
   obtain ⟨i0,hi0,hz0,hz1,hz2⟩:=info_parts intInfo
   have hwz1:w.heap.size+1≤wr.heap.size:=X.out.lt
   go_wp2_with (at_builtin;refine wpList_append_lies _ (by rfl) _ _ 22 (by rfl) (w.heap.size+1) 3 i0 (.int .i64 0) 1 8 Try.underlying22 hi0 hz0 hz1 hz2 rfl (by omega) _ (j+1) _ (by rfl) (OWN.out.alloc _) ⟨wr.heap.size,0,none⟩ 1 1 [.int .i64 (x:Int)] (by rfl) (by rfl) (one_news wr (.int .i64 (x:Int))) (by simp [Value.oneCell']) (by omega) (by unfold maxLen;omega) (by omega) (by simp;omega) (wr.heap.size+1) (by simp) ?_;intro g3 c3 w3 own3 grow3 at3 lt3;have OWN3:=hide own3;have GR3:=hide grow3;have X3:=hide (Row.grown (X.out.alloc (.cells #[.int .i64 (x:Int)] 3)) grow3 (fun e=>by have:=(OWN.out.lt _ e.symm).1;omega));obtain ⟨d0,d1,d2,_⟩:=box3 X3.out;clear own3 grow3 at3)
   have B3:=hide ((HBL.out.alloc hbs (.cells #[.int .i64 (x:Int)] 3)).grown GR3.out (by simp;omega) (fun k hk=>by have:=(OWN.out.lt k hk).1;omega))
   clear d0 d1 d2
   refine (rnext_any d HD.out A B cp cq m l x _ HM.out (HB.out.keep B3.out) hxN).mono ?_
   rintro e w4 ⟨rfl,hb4⟩
   go_wp2_with fail
   go_roundg (gk - 1)
   case measure=>have:=HJ.out;omega
   case rel =>
    refine ⟨j+1,by have:=HJ.out;omega,?_,?_,B3.out.trans (hb4.mono B3.out.size),X3.out.below hb4⟩
    ·rw [HX.out];rfl
    ·have:=own_keep OWN3.out hb4 (Nat.le_refl _)
     rw [Pl.cyc_succ,List.map_append,←HX.out]
     exact this
end Go.Proofs.Ytobbepmlmbbamaa
end
section
namespace Go.Proofs.Ytobbepmlmbbamaa
open Go Go.RowKit
theorem rovers_any (A B:Option Addr)(n cp q cq c:Nat)(lp:Value)(sg:List Int)(w:World)(hs:IntsAt w A n sg)(hc:c<n)(hn:n≤1000) :
 Calls Try.prog 96 #[.agg #[.slice A n cp,.slice B q cq,lp],.int .i64 (c:Int)] w fun e w'=>e = .returned (.tuple #[.int .i64 (if Pl.pv sg c=1 then 4 * (c:Int)+3 else 4 * (c:Int)+1),.int .i64 (if Pl.pv sg c=1 then 4 * (c:Int)+1 else 4 * (c:Int)+3)])∧Below w.heap.size w w':=by
 obtain ⟨b,o,rfl,h1⟩:=hs.at_ hc
 have hb:Below w.heap.size w (w.alloc (.cells #[.slice (some ⟨b,o,none⟩) n cp,.slice B q cq,lp] 24)):=(Below.refl _ _).alloc (Nat.le_refl _) _
 obtain ⟨u,hu⟩:∃u,u=Pl.pv sg c:=⟨_,rfl⟩
 rw [show sg.getD c 0=u from hu.symm] at h1
 rw [←hu]
 have h2:=cell_below h1 hb
 clear hs hu h1
 by_cases h:u=1
 ·have t1:(u == 1)=true:=by simpa using h
  rw [if_pos h,if_pos h]
  clear h
  go_enter Try.func96,Try.ntmps96
  go_wp2
  go_ret2
  exact ⟨rfl,hb⟩
 ·have t1:(u == 1)=false:=by simpa using h
  rw [if_neg h,if_neg h]
  clear h
  go_enter Try.func96,Try.ntmps96
  go_wp2
  go_ret2
  exact ⟨rfl,hb⟩
theorem own_empty (W:World):(W.alloc (.cells #[] 3)).ownsRow W.heap.size 3 1 (.slice (some ⟨W.heap.size,0,none⟩) 0 0) 0 [] :=
 ⟨rfl,.inr ⟨W.heap.size,0,#[],rfl,Nat.le_refl _,heap_alloc_new W _,Nat.le_refl _,by unfold maxLen;omega,rfl,rfl⟩⟩
set_option maxRecDepth 100000 in
set_option maxHeartbeats 1000000 in
theorem rcopy_any (A B:Option Addr)(n cp q cq:Nat)(lp:Int)(sg mt:List Int)(w:World)(hs:IntsAt w A n sg)(hm:IntsAt w B q mt)(hn:n≤1000)(hq:q≤4000) :
 Calls Try.prog 25 #[.agg #[.slice A n cp,.slice B q cq,.int .i64 lp]] w fun e w'=>∃(A2 B2:Option Addr) (c2 d2:Nat),e = .returned (.agg #[.slice A2 n c2,.slice B2 q d2,.int .i64 lp])∧w'.ownsRow w.heap.size 3 1 (.slice A2 n c2) n (sg.map (.int .i64))∧w'.ownsRow w.heap.size 3 1 (.slice B2 q d2) q (mt.map (.int .i64))∧Below w.heap.size w w'∧(∀g,(Value.slice A2 n c2).ownBlock=some g→(Value.slice B2 q d2).ownBlock≠some g):=by
 have HS:=hide hs
 have HM:=hide hm
 clear hs hm
 obtain ⟨i0,hi0,hz0,hz1,hz2⟩:=info_parts intInfo
 have B0:=hide (show Below w.heap.size w ((w.alloc (.cells #[.slice A n cp,.slice B q cq,.int .i64 lp] 24)).alloc (.cells #[.slice none 0 0,.slice none 0 0,.int .i64 0] 24)) from ((Below.refl _ _).alloc (Nat.le_refl _) _).alloc (by simp) _)
 have X0:=hide (show Row ((w.alloc (.cells #[.slice A n cp,.slice B q cq,.int .i64 lp] 24)).alloc (.cells #[.slice none 0 0,.slice none 0 0,.int .i64 0] 24)) w.heap.size 24 [.slice A n cp,.slice B q cq,.int .i64 lp] from (Row.new w _ _).alloc _)
 have Y0:=hide (show Row ((w.alloc (.cells #[.slice A n cp,.slice B q cq,.int .i64 lp] 24)).alloc (.cells #[.slice none 0 0,.slice none 0 0,.int .i64 0] 24)) (w.heap.size+1) 24 [.slice none 0 0,.slice none 0 0,.int .i64 0] from row_at (vs:=[.slice none 0 0,.slice none 0 0,.int .i64 0]) (by simp))
 obtain ⟨W0,hW0⟩:∃W0:World,W0=(w.alloc (.cells #[.slice A n cp,.slice B q cq,.int .i64 lp] 24)).alloc (.cells #[.slice none 0 0,.slice none 0 0,.int .i64 0] 24):=⟨_,rfl⟩
 rw [←hW0] at B0 X0 Y0
 have HZ:=hide (show W0.heap.size=w.heap.size+1+1 by rw [hW0];simp)
 obtain ⟨x0,x1,x2,x3⟩:=box3 X0.out
 go_enter Try.func25,Try.ntmps25
 go_upto_region 1 with fail
 rw [←hW0]
 clear hW0
 have E0:=hide (own_empty W0)
 have X1:=hide (X0.out.alloc (.cells #[] 3))
 have Y1:=hide (Y0.out.alloc (.cells #[] 3))
 clear x0 x1 x2 x3
 obtain ⟨x0,x1,x2,x3⟩:=box3 X1.out
 have B1:=hide (B0.out.alloc (by have:=HZ.out;omega) (.cells #[] 3))
 have hn1:0+n≤maxLen:=by unfold maxLen;omega
 have hn2:(0+n) * 8≤140737488355328:=by omega
 have hq1:0+q≤maxLen:=by unfold maxLen;omega
 have hq2:(0+q) * 8≤140737488355328:=by omega
 have hk1:W0.heap.size≤(W0.alloc (.cells #[] 3)).heap.size:=by simp
 go_upto_region 2 with (at_builtin;refine wpList_append_ints _ rfl _ _ 22 rfl W0.heap.size 3 i0 (.int .i64 0) 8 Try.underlying22 hi0 hz0 hz1 hz2 rfl _ 0 [] (by rfl) E0.out A n cp sg (by rfl) (HS.out.keep B1.out) hn1 hn2 hk1 ?_;intro v2 w2 own2 grow2;rw [Nat.zero_add,List.nil_append] at own2;obtain ⟨A2,c2,rfl⟩:=owns_slice own2;have X2:=hide (X1.out.grown grow2 (fun e=>by have:=(E0.out.lt _ e.symm).1;have:=HZ.out;omega));have Y2:=hide (Y1.out.grown grow2 (fun e=>by have:=(E0.out.lt _ e.symm).1;have:=HZ.out;omega));have B2:=hide (B1.out.grown grow2 (by have:=B1.out.size;omega) (fun k hk=>by have:=(E0.out.lt k hk).1;have:=HZ.out;omega));have OWN2:=hide own2;clear own2 grow2 x0 x1 x2 x3;obtain ⟨x0,x1,x2,x3⟩:=box3 X2.out)
 obtain ⟨W3,hW3⟩:∃W3:World,W3=w2.setCell ⟨w.heap.size,0,none⟩ (.slice A2 n c2):=⟨_,rfl⟩
 have X3:=hide (show Row W3 w.heap.size 24 [.slice A2 n c2,.slice B q cq,.int .i64 lp] by rw [hW3];exact X2.out.set 0 _)
 have Y3:=hide (show Row W3 (w.heap.size+1) 24 [.slice none 0 0,.slice none 0 0,.int .i64 0] by rw [hW3];exact Y2.out.other (by simp) _)
 have B3:=hide (show Below w.heap.size w W3 by rw [hW3];exact B2.out.setCell (by show w.heap.size≤w.heap.size;omega) _)
 have OWN3:=hide (show W3.ownsRow W0.heap.size 3 1 (.slice A2 n c2) n (sg.map (.int .i64)) by rw [hW3];exact ownsRow_setCell_below OWN2.out (by have:=HZ.out;show w.heap.size<W0.heap.size;omega) _)
 rw [←hW3]
 have hz3:w.heap.size+1<W3.heap.size:=Y3.out.lt
 have hlt3:∀g,(Value.slice A2 n c2).ownBlock=some g→g<W3.heap.size:=fun g hg=>(OWN3.out.lt g hg).2
 clear hW3 x0 x1 x2 x3 X2 Y2 B2 OWN2 X1 Y1 B1 E0 X0 Y0 B0
 have E4:=hide (own_empty W3)
 have X4:=hide (X3.out.alloc (.cells #[] 3))
 have Y4:=hide (Y3.out.alloc (.cells #[] 3))
 have B4:=hide (B3.out.alloc (by omega) (.cells #[] 3))
 have O4:=hide (OWN3.out.alloc (.cells #[] 3))
 obtain ⟨x0,x1,x2,x3⟩:=box3 X4.out
 have hk2:W3.heap.size≤(W3.alloc (.cells #[] 3)).heap.size:=by simp
 go_upto_region 3 with (at_builtin;refine wpList_append_ints _ rfl _ _ 22 rfl W3.heap.size 3 i0 (.int .i64 0) 8 Try.underlying22 hi0 hz0 hz1 hz2 rfl _ 0 [] (by rfl) E4.out B q cq mt (by rfl) (HM.out.keep B4.out) hq1 hq2 hk2 ?_;intro v5 w5 own5 grow5;rw [Nat.zero_add,List.nil_append] at own5;obtain ⟨B2,d2,rfl⟩:=owns_slice own5;have X5:=hide (X4.out.grown grow5 (fun e=>by have:=(E4.out.lt _ e.symm).1;omega));have Y5:=hide (Y4.out.grown grow5 (fun e=>by have:=(E4.out.lt _ e.symm).1;omega));have B5:=hide (B4.out.grown grow5 (by have:=B4.out.size;omega) (fun k hk=>by have:=(E4.out.lt k hk).1;omega));have OWN5:=hide own5;have O5:=hide (O4.out.kept grow5 (.inr (fun e=>by have:=hlt3 _ e;have:=(E4.out.lt _ rfl).1;omega)));clear own5 grow5 x0 x1 x2 x3;obtain ⟨x0,x1,x2,x3⟩:=box3 X5.out)
 obtain ⟨y0,y1,y2,y3⟩:=box3 Y5.out
 have hzw:w.heap.size<W0.heap.size:=by have:=HZ.out;omega
 go_wp2
 have YF:=hide ((((Y5.out.other (show w.heap.size+1≠(⟨w.heap.size,1,none⟩:Addr).block by show w.heap.size+1≠w.heap.size;omega) (.slice B2 q d2)).set 0 (.slice A2 n c2)).set 1 (.slice B2 q d2)).set 2 (.int .i64 lp))
 refine bodyPost_ret (v := .agg #[.slice A2 n c2,.slice B2 q d2,.int .i64 lp]) ?_ rfl ?_
 ·obtain ⟨r0,r1,r2,_⟩:=box3 YF.out
  simp [results,Try.results25,go_sem,r0,r1,r2]
 ·have k1:w.heap.size+1<W0.heap.size:=by have:=HZ.out;omega
  refine ⟨A2,B2,c2,d2,rfl,?_,?_,?_,fun g hg e=>?_⟩
  ·exact own_keep (ownsRow_setCell_below (ownsRow_setCell_below (ownsRow_setCell_below (ownsRow_setCell_below O5.out (by show w.heap.size<W0.heap.size;omega) _) (by show w.heap.size+1<W0.heap.size;omega) _) (by show w.heap.size+1<W0.heap.size;omega) _) (by show w.heap.size+1<W0.heap.size;omega) _) (Below.refl _ _) (by omega)
  ·exact own_keep (ownsRow_setCell_below (ownsRow_setCell_below (ownsRow_setCell_below (ownsRow_setCell_below OWN5.out (by show w.heap.size<W3.heap.size;omega) _) (by show w.heap.size+1<W3.heap.size;omega) _) (by show w.heap.size+1<W3.heap.size;omega) _) (by show w.heap.size+1<W3.heap.size;omega) _) (Below.refl _ _) (by omega)
  ·exact (((B5.out.setCell (by show w.heap.size≤w.heap.size;omega) _).setCell (by show w.heap.size≤w.heap.size+1;omega) _).setCell (by show w.heap.size≤w.heap.size+1;omega) _).setCell (by show w.heap.size≤w.heap.size+1;omega) _
  ·have h1:=hlt3 g hg
   have h2:=(OWN5.out.lt g e).1
   omega
end Go.Proofs.Ytobbepmlmbbamaa
end
section
namespace Go.Proofs.Ytobbepmlmbbamaa
open Go.RowKit
set_option maxHeartbeats 4000000 in
theorem clo_same {l:List Nat}(hlt:∀k,k<l.length→l.getD k 0<l.length)(hinv:∀k,k<l.length→l.getD (l.getD k 0) 0=k)(hne:∀k,k<l.length→l.getD k 0≠k){a b c e k:Nat}(ha:a<l.length)(hb:b<l.length)(hc:c<l.length)(he:e<l.length)(hk:k<l.length)
 (d1:a≠b) (d2:a≠c) (d3:a≠e) (d4:b≠c) (d5:b≠e) (d6:c≠e) (k1:k≠a) (k2:k≠b) (k3:k≠c) (k4:k≠e) :
 (clo (clo l a b) c e).getD k 0=(clo (clo l c e) b a).getD k 0:=by
 rw [clo_two hlt hinv hne ha hb hc he hk d1 d2 d3 d4 d5 d6 k1 k2 k3 k4,clo_two hlt hinv hne hc he hb ha hk d6 (fun h=>d4 h.symm) (fun h=>d2 h.symm) (fun h=>d5 h.symm) (fun h=>d3 h.symm) (fun h=>d1 h.symm) k3 k4 k2 k1]
 rw [clo_j hlt hinv ha hb d1 hk k1 k2,clo_j hlt hinv ha hb d1 hc (fun h=>d2 h.symm) (fun h=>d4 h.symm),clo_j hlt hinv ha hb d1 he (fun h=>d3 h.symm) (fun h=>d5 h.symm)]
 rw [clo_j hlt hinv hc he d6 hk k3 k4,clo_j hlt hinv hc he d6 ha d2 d3,clo_j hlt hinv hc he d6 hb d4 d5]
 have sw:∀x y,x<l.length→y<l.length→(l.getD x 0=y↔l.getD y 0=x):=fun x y hx hy=>⟨fun h=>by rw [←h,hinv x hx],fun h=>by rw [←h,hinv y hy]⟩
 have s1:=sw a b ha hb
 have s2:=sw a c ha hc
 have s3:=sw a e ha he
 have s4:=sw b c hb hc
 have s5:=sw b e hb he
 have s6:=sw c e hc he
 have t1:=sw k a hk ha
 have t2:=sw k b hk hb
 have t3:=sw k c hk hc
 have t4:=sw k e hk he
 obtain ⟨A,hA⟩:∃A,A=l.getD a 0:=⟨_,rfl⟩
 obtain ⟨B,hB⟩:∃A,A=l.getD b 0:=⟨_,rfl⟩
 obtain ⟨C,hC⟩:∃A,A=l.getD c 0:=⟨_,rfl⟩
 obtain ⟨E,hE⟩:∃A,A=l.getD e 0:=⟨_,rfl⟩
 obtain ⟨K,hK⟩:∃A,A=l.getD k 0:=⟨_,rfl⟩
 rw [←hA,←hB] at s1
 rw [←hA,←hC] at s2
 rw [←hA,←hE] at s3
 rw [←hB,←hC] at s4
 rw [←hB,←hE] at s5
 rw [←hC,←hE] at s6
 rw [←hK,←hA] at t1
 rw [←hK,←hB] at t2
 rw [←hK,←hC] at t3
 rw [←hK,←hE] at t4
 rw [←hA,←hB,←hC,←hE,←hK]
 clear hA hB hC hE hK sw hlt hinv hne
 by_cases q1:K=a
 ·have z:=t1.1 q1
  have nB:B≠a:=fun h=>k2 (z.symm.trans (s1.2 h))
  have nC:C≠a:=fun h=>k3 (z.symm.trans (s2.2 h))
  have nE:E≠a:=fun h=>k4 (z.symm.trans (s3.2 h))
  rw [q1]
  simp only [if_true,if_neg nC,if_neg nE,if_neg d1,if_neg d2,if_neg d3]
  by_cases p1:B=c
  ·rw [if_pos p1,if_pos p1,if_neg (fun h=>d6 (p1.symm.trans (s5.2 h)))]
  ·rw [if_neg p1,if_neg p1]
   by_cases p2:B=e
   ·rw [if_pos p2,if_pos p2,if_neg (fun h=>p1 (s4.2 h))]
   ·rw [if_neg p2,if_neg p2]
 ·by_cases q2:K=b
  ·have z:=t2.1 q2
   have nA:A≠b:=fun h=>k1 (z.symm.trans (s1.1 h))
   have nC:C≠b:=fun h=>k3 (z.symm.trans (s4.2 h))
   have nE:E≠b:=fun h=>k4 (z.symm.trans (s5.2 h))
   rw [q2]
   simp only [if_true,if_neg nC,if_neg nE,if_neg (fun h=>d1 h.symm:¬b=a),if_neg d4,if_neg d5]
   by_cases p1:A=c
   ·rw [if_pos p1,if_pos p1,if_neg (fun h=>d6 (p1.symm.trans (s3.2 h)))]
   ·rw [if_neg p1,if_neg p1]
    by_cases p2:A=e
    ·rw [if_pos p2,if_pos p2,if_neg (fun h=>p1 (s2.2 h))]
    ·rw [if_neg p2,if_neg p2]
  ·by_cases q3:K=c
   ·have z:=t3.1 q3
    have nA:A≠c:=fun h=>k1 (z.symm.trans (s2.1 h))
    have nB:B≠c:=fun h=>k2 (z.symm.trans (s4.1 h))
    have nE:E≠c:=fun h=>k4 (z.symm.trans (s6.2 h))
    rw [q3]
    simp only [if_true,if_neg nA,if_neg nB,if_neg (fun h=>d2 h.symm:¬c=a),if_neg (fun h=>d4 h.symm:¬c=b)]
    by_cases p1:E=a
    ·have p2:¬E=b:=fun h=>d1 (p1.symm.trans h)
     rw [if_pos p1,if_neg p2,if_pos p1,if_neg (fun h=>by
      have h2:E=b:=s5.1 h
      omega)]
    ·rw [if_neg p1]
     by_cases p2:E=b
     ·rw [if_pos p2,if_pos p2,if_neg (fun h=>p1 (s3.1 h))]
     ·rw [if_neg p2,if_neg p2,if_neg p1]
   ·by_cases q4:K=e
    ·have z:=t4.1 q4
     have nA:A≠e:=fun h=>k1 (z.symm.trans (s3.1 h))
     have nB:B≠e:=fun h=>k2 (z.symm.trans (s5.1 h))
     have nC:C≠e:=fun h=>k3 (z.symm.trans (s6.1 h))
     rw [q4]
     simp only [if_true,if_neg nA,if_neg nB,if_neg (fun h=>d3 h.symm:¬e=a),if_neg (fun h=>d5 h.symm:¬e=b),if_neg (fun h=>d6 h.symm:¬e=c)]
     by_cases p1:C=a
     ·have p2:¬C=b:=fun h=>d1 (p1.symm.trans h)
      rw [if_pos p1,if_neg p2,if_pos p1,if_neg (fun h=>by
       have h2:C=b:=s4.1 h
       omega)]
     ·rw [if_neg p1]
      by_cases p2:C=b
      ·rw [if_pos p2,if_pos p2,if_neg (fun h=>p1 (s2.1 h))]
      ·rw [if_neg p2,if_neg p2,if_neg p1]
    ·simp only [if_neg q1,if_neg q2,if_neg q3,if_neg q4]
end Go.Proofs.Ytobbepmlmbbamaa
end
section
namespace Go.Proofs.Ytobbepmlmbbamaa
open Go Go.RowKit
def crn (first under dir:Nat):Nat:=first+(dir+4 - under) % 4
def crnL (first under k:Nat):List Nat:=(List.range k).map (crn first under)
theorem crnL_succ (first under k:Nat):crnL first under (k+1)=crnL first under k++[crn first under k]:=by unfold crnL;rw [List.range_succ,List.map_append];rfl
set_option maxRecDepth 100000 in
set_option maxHeartbeats 1000000 in
theorem rcorners_any (first under:Nat)(w:World)(hf:first≤100000)(hu:under≤3) :
 Calls Try.prog 102 #[.int .i64 (first:Int),.int .i64 (under:Int)] w fun e w'=>∃(A:Option Addr) (c:Nat),e = .returned (.slice A 4 c)∧w'.ownsRow w.heap.size 3 1 (.slice A 4 c) 4 ((crnL first under 4).map (fun k:Nat=>Value.int .i64 k))∧Below w.heap.size w w':=by
 go_enter Try.func102,Try.ntmps102
 go_wp2
 go_loopg [5,6] 4 (fun g v i wx=>∃k:Nat,k+g=4∧i = .int .i64 k∧wx.ownsRow w.heap.size 3 1 v k ((crnL first under k).map (fun k:Nat=>Value.int .i64 k))∧Below w.heap.size w wx)
 case atStart=>exact ⟨0,rfl,rfl,⟨rfl,.inl ⟨rfl,rfl⟩⟩,Below.refl _ _⟩
 case round =>
  obtain ⟨k,hkg,rfl,own,hb⟩:=hrel
  have HK:=hide hkg
  have OWN:=hide own
  have HB:=hide hb
  have hbs:=hb.size
  have hk4:k≤4:=by omega
  clear hkg own hb
  by_cases hlt:k<4
  ·have hk3:(k:Int)≤3:=by omega
   obtain ⟨x,hx⟩:∃x,x=crn first under k:=⟨_,rfl⟩
   have HX:=hide hx
   have e1:(first:Int)+((k:Int) - (under:Int)) % 4=(x:Int):=by rw [hx];unfold crn;omega
   clear hx
   obtain ⟨i0,hi0,hz0,hz1,hz2⟩:=info_parts intInfo
   go_wp2_with (at_builtin;refine wpList_append_lies _ (by rfl) _ _ 22 (by rfl) w.heap.size 3 i0 (.int .i64 0) 1 8 Try.underlying22 hi0 hz0 hz1 hz2 rfl (by omega) _ k _ (by rfl) (OWN.out.alloc _) ⟨wr.heap.size,0,none⟩ 1 1 [.int .i64 (x:Int)] (by rfl) (by rfl) (one_news wr (.int .i64 (x:Int))) (by simp [Value.oneCell']) (by omega) (by unfold maxLen;omega) (by omega) (by simp;omega) (wr.heap.size+1) (by simp) ?_;intro g3 c3 w3 own3 grow3 at3 lt3;have OWN3:=hide own3;have GR3:=hide grow3;clear own3 grow3 at3)
   go_roundg (gk - 1)
   case measure=>have:=HK.out;omega
   case rel =>
    refine ⟨k+1,by have:=HK.out;omega,by go_num,?_,(HB.out.alloc hbs (.cells #[.int .i64 (x:Int)] 3)).grown GR3.out (by simp;omega) (fun k hk=>(OWN.out.lt k hk).1)⟩
    rw [crnL_succ,List.map_append,←HX.out]
    exact OWN3.out
  ·have hk:k=4:=by omega
   subst hk
   obtain ⟨A5,c5,rfl⟩:=owns_slice OWN.out
   go_wp2
   go_ret
   exact ⟨A5,c5,rfl,OWN.out,HB.out⟩
end Go.Proofs.Ytobbepmlmbbamaa
end
section
namespace Go.Proofs.Ytobbepmlmbbamaa
open Go Go.RowKit
theorem r1out_any (d:Pl.Dg)(A:Option Addr)(n cp:Nat)(h:Nat)(w:World)(e:n=d.n)(hh:h<4 * n)(hn:n≤1000)(hs:IntsAt w A n d.sg) :
 Calls Try.prog 41 #[.slice A n cp,.int .i64 (h:Int)] w fun e w'=>e = .returned (.bool (Pl.out d h))∧w'=w:=by
 subst e
 obtain ⟨b,o,rfl,hc⟩:=sign_at hs (c:=h / 4) (by omega)
 have h4:h % 4=0∨h % 4=1∨h % 4=2∨h % 4=3:=by omega
 go_enter Try.func41,Try.ntmps41
 rcases h4 with h4 | h4 | h4 | h4
 ·have E:=out_zero (d:=d) h4
  go_wp2
  all_goals
   go_ret
   refine ⟨ret_bool ?_,rfl⟩
   rw [E]
   first
    | done
    | rfl
    | (simp;done)
    | (simp;omega)
    | simp_all
 ·have E:=out_one (d:=d) h4
  go_wp2
  all_goals
   go_ret
   refine ⟨ret_bool ?_,rfl⟩
   rw [E]
   first
    | done
    | rfl
    | (simp;done)
    | (simp;omega)
    | simp_all
 ·have E:=out_two (d:=d) h4
  go_wp2
  all_goals
   go_ret
   refine ⟨ret_bool ?_,rfl⟩
   rw [E]
   first
    | done
    | rfl
    | (simp;done)
    | (simp;omega)
    | simp_all
 ·have E:=out_three (d:=d) h4
  go_wp2
  all_goals
   go_ret
   refine ⟨ret_bool ?_,rfl⟩
   rw [E]
   first
    | done
    | rfl
    | (simp;done)
    | (simp;omega)
    | simp_all
theorem vb_step {P:Nat→Prop}(j:Nat):Pl.vb (∀i,i<j+1→P i)=(Pl.vb (∀i,i<j→P i) && Pl.vb (P j)):=by
 rw [Bool.eq_iff_iff,Bool.and_eq_true,Pl.vb_iff,Pl.vb_iff,Pl.vb_iff]
 constructor
 ·intro h;exact ⟨fun i hi=>h i (by omega),h j (by omega)⟩
 ·rintro ⟨h1,h2⟩ i hi
  rcases Nat.lt_or_ge i j with h | h
  ·exact h1 i h
  ·rw [show i=j by omega];exact h2
end Go.Proofs.Ytobbepmlmbbamaa
end
