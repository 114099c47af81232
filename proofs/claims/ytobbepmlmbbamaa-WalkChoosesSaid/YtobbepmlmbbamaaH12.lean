/-
 The texts Rn.
-/
import Derived.Test.YtobbepmlmbbamaaH08
set_option linter.unusedVariables false
set_option linter.unusedSimpArgs false
section
namespace Go.Proofs.Ytobbepmlmbbamaa
open Go Go.RowKit
attribute [local go_sem ↓] Go.wp_at_zero Go.wp_at_succ
theorem own_intsR {w:World}{base:Nat}{A:Option Addr}{n c:Nat}{zs:List Int}(h:w.ownsRow base 3 1 (.slice A n c) n (zs.map (.int .i64))):IntsAt w A n zs:=(own_intsT h).row
theorem rjoin_int (base g n cap na ca:Nat)(a b:Int)(A:Option Addr)(lp:Value)(l:List Nat)(w:World)(h:OwnN w base g n cap l)(ha:0≤a∧a<n)(hb:0≤b∧b<n)(hn:n≤100000) :
 Calls Try.prog 97 #[.agg #[.slice A na ca,.slice (some ⟨g,0,none⟩) n cap,lp],.int .i64 a,.int .i64 b] w fun e w'=>e = .returned (.tuple #[])∧OwnN w' base g n cap (jn l a.toNat b.toNat)∧w.grownBy w' (some g):=by
 obtain ⟨x,rfl⟩:=Int.eq_ofNat_of_zero_le ha.1
 obtain ⟨y,rfl⟩:=Int.eq_ofNat_of_zero_le hb.1
 rw [Int.toNat_natCast,Int.toNat_natCast]
 exact rjoin_any base g n cap x y na ca A lp l w h (by omega) (by omega) hn
theorem jn_swap {l:List Nat}{a b c e:Nat}(h1:a≠c)(h2:a≠e)(h3:b≠c)(h4:b≠e):jn (jn l a b) c e=jn (jn l c e) a b:=by
 unfold jn
 rw [List.set_comm _ _ h3,List.set_comm _ _ h1,List.set_comm _ _ h4,List.set_comm _ _ h2]
theorem four_news (W:World)(x y z u:Value):∀j v,[x,y,z,u][j]? = some v→(W.alloc (.cells #[x,y,z,u] 3)).cell? ((⟨W.heap.size,0,none⟩:Addr).add j)=some v :=
 World.news_of_block (cs:=#[x,y,z,u]) (t:=3) (fr:=(0,0)) (heap_alloc_new W _)
theorem pv_last (l:List Int)(x:Int):Pl.pv (l++[x]) l.length=x:=by
 unfold Pl.pv
 rw [List.getD_eq_getElem?_getD,List.getElem?_append_right (Nat.le_refl _)];simp
theorem rovers_p (A B:Option Addr)(n cp q cq c:Nat)(lp:Value)(sg:List Int)(w:World)(hs:IntsAt w A n sg)(hc:c<n)(hn:n≤1000)(hp:Pl.pv sg c=1) :
 Calls Try.prog 96 #[.agg #[.slice A n cp,.slice B q cq,lp],.int .i64 (c:Int)] w fun e w'=>e = .returned (.tuple #[.int .i64 (4 * (c:Int)+3),.int .i64 (4 * (c:Int)+1)])∧Below w.heap.size w w':=by
 refine (rovers_any A B n cp q cq c lp sg w hs hc hn).mono ?_
 rintro e w' ⟨h1,h2⟩
 rw [if_pos hp,if_pos hp] at h1
 exact ⟨h1,h2⟩
theorem rovers_m (A B:Option Addr)(n cp q cq c:Nat)(lp:Value)(sg:List Int)(w:World)(hs:IntsAt w A n sg)(hc:c<n)(hn:n≤1000)(hp:Pl.pv sg c = -1) :
 Calls Try.prog 96 #[.agg #[.slice A n cp,.slice B q cq,lp],.int .i64 (c:Int)] w fun e w'=>e = .returned (.tuple #[.int .i64 (4 * (c:Int)+1),.int .i64 (4 * (c:Int)+3)])∧Below w.heap.size w w':=by
 refine (rovers_any A B n cp q cq c lp sg w hs hc hn).mono ?_
 rintro e w' ⟨h1,h2⟩
 rw [if_neg (by rw [hp];decide),if_neg (by rw [hp];decide)] at h1
 exact ⟨h1,h2⟩
theorem jn_ne {l:List Nat}{a b k:Nat}(h1:k≠a)(h2:k≠b):(jn l a b).getD k 0=l.getD k 0:=by
 unfold jn
 rw [List.getD_eq_getElem?_getD,List.getD_eq_getElem?_getD,List.getElem?_set_ne (Ne.symm h2),List.getElem?_set_ne (Ne.symm h1)]
theorem mt_app {d:Pl.Dg}(hd:Pl.Wf d){x:Nat}(hx:x<4 * d.n)(l:List Nat):(d.mt++l).getD x 0=d.m x:=by
 have hl:=hd.len
 unfold Pl.Dg.m
 rw [List.getD_eq_getElem?_getD,List.getD_eq_getElem?_getD,List.getElem?_append_left (by omega),List.getElem?_eq_getElem (by omega)];rfl
theorem crl_edM {d:Pl.Dg}(hd:Pl.Wf d){x:Nat}(hx:x<4 * d.n){s:Int}(hs:s=1∨s = -1)(o:Bool):(crl d (x:Int) s o).mt=jn (jn (jn (d.mt++[0,0,0,0]) (kO0 d.n s o) (kI1 d.n s o)) x (kI0 d.n s o)) (kO1 d.n s o) (d.m x):=by
 have h1:=hd.lt x hx
 have h2:=hd.ne x hx
 have h3:kO1 d.n s o≠kI0 d.n s o:=by unfold kO1 kI0;rcases hs with rfl | rfl <;> cases o <;> simp
 have h4:4 * d.n≤kO1 d.n s o:=by unfold kO1;split <;> (try split) <;> omega
 have h5:4 * d.n≤kI0 d.n s o:=by unfold kI0;split <;> (try split) <;> omega
 unfold crl
 simp only []
 rw [if_neg (by omega),Int.toNat_natCast]
 exact jn_swap (by omega) h3 h2 (by omega)
theorem crl_lpM (d:Pl.Dg)(s:Int)(o:Bool):(crl d (-1) s o).mt=jn (jn (d.mt++[0,0,0,0]) (kO0 d.n s o) (kI1 d.n s o)) (kO1 d.n s o) (kI0 d.n s o):=by
 unfold crl
 simp only []
 rw [if_pos (by omega)];rfl
theorem own_toDg {base:Nat}{w:World}{vS vM:Value}{n q:Nat}{lp:Int}{mv:List Value}{ss:List Int}{l:List Nat}{W:World}{A B:Option Addr}{c1 c2:Nat}{r:Pl.Dg}(h:RK base w vS vM n q lp mv ss l W)(e1:vS = .slice A n c1)(e2:vM = .slice B q c2)(h1:n=r.n)(h2:q=4 * r.n)(h3:ss=r.sg)(h4:l=r.mt):DgT W A B r:=by
 subst e1
 subst e2
 subst h3
 subst h4
 refine ⟨?_,?_⟩
 ·have:=h.s
  rw [h1] at this
  exact own_intsT this
 ·have:=h.o
  rw [h2] at this
  refine own_intsT (base:=base) (e:=3) (c:=c2) ?_
  unfold nats
  rw [List.map_map]
  exact this
set_option maxRecDepth 100000 in
set_option maxHeartbeats 8000000 in
theorem rcurl_epu (d:Pl.Dg)(hd:Pl.Wf d)(base cp cq m:Nat)(A B:Option Addr)(k:Int)(x:Nat)(w:World)(hm:m=4 * d.n)(h:Own2 base w (.slice A d.n cp) (.slice B m cq) d.n m d.sg d.mt)(hx:x<4 * d.n) :
 Calls Try.prog 53 #[.agg #[.slice A d.n cp,.slice B m cq,.int .i64 d.lp],.agg #[.int .i64 k,.int .i64 (x:Int),.int .i64 0,.int .i64 1,.bool false]] w (RC base (curlableC d (x:Int)) (crl d (x:Int) 1 false) ⟨2,d.n,0,0,false⟩ w):=by
 have hn:=hd.few
 have hlp:=hd.lp
 have HD:=hide hd
 have HM:=hide hm
 have K0:=hide (RK.start h d.lp (.int .i64 k) (.int .i64 (x:Int)) (.int .i64 0) (.int .i64 1) (.bool false))
 unfold W4 at K0
 have t1:decide ((x:Int) < -1)=false:=by rw [decide_eq_false_iff_not];omega
 have t2:decide (4 * (d.n:Int)≤(x:Int))=false:=by simp;omega
 have t3:decide ((x:Int)<0)=false:=by simp
 have t3':decide ((0:Int)≤(x:Int))=true:=by simp
 have hle:=h.le
 have HC:=hide (show curlableC d (x:Int)=if Pl.out d x=true then fullC d.n 1 else 6 by unfold curlableC;rw [if_neg (by omega),Int.toNat_natCast])
 have HMT:=hide (crl_edM hd hx (show (1:Int)=1∨(1:Int) = -1 by decide) false)
 have hmx:=hd.lt x hx
 have hxm:x<m:=by omega
 have hm4:m≤256:=by omega
 clear hm h hd
 go_enter Try.func53,Try.ntmps53
 go_wp2_with fail
 refine (rout_any d A B d.n cp m cq (.int .i64 d.lp) x _ rfl hx (by omega) (own_intsR K0.out.s)).mono ?_
 rintro e w1 ⟨rfl,hb1⟩
 have K1:=hide (K0.out.below hb1)
 have hw1:=K1.out.big
 clear hb1 K0
 obtain ⟨d0,d1,d2,d3⟩:=box3 K1.out.d
 obtain ⟨m0,m1,m2,m3,m4,m5⟩:=box5 K1.out.m
 obtain ⟨_,r3,l3⟩:=K1.out.rd
 obtain ⟨_,r4,l4⟩:=K1.out.rm
 obtain ⟨p0,p1,p2,p3⟩:=cells3 r3 l3
 obtain ⟨q0,q1,q2,q3,q4,q5⟩:=cells5 r4 l4
 clear r3 l3 r4 l4
 cases ho:Pl.out d x with
 | false =>
   have E:=hide (show curlableC d (x:Int)=6 by rw [HC.out,ho];rfl)
   clear ho
   go_wp2_with fail
   go_region
   go_wp2_with fail
   refine bodyPost_ret (v := .tuple #[.agg #[.slice A d.n cp,.slice B m cq,.int .i64 d.lp],.agg #[.int .i64 k,.int .i64 (x:Int),.int .i64 0,.int .i64 1,.bool false],.int .i64 6]) ?_ rfl ?_
   ·obtain ⟨e0,e1,e2,e3,e4,e5,e6,e7⟩:=RK.cells K1.out (.slice A d.n cp) (.slice B m cq) (.int .i64 d.lp) (.int .i64 k) (.int .i64 (x:Int)) (.int .i64 0) (.int .i64 1) (.bool false)
    unfold st8 at e0 e1 e2 e3 e4 e5 e6 e7
    simp [results,Try.results53,go_sem,e0,e1,e2,e3,e4,e5,e6,e7]
   ·rw [E.out]
    refine rc_err (by decide) ⟨A,B,d.n,m,cp,cq,d.lp,k,(x:Int),0,1,false,rfl⟩ ?_
    have:=(RK.fin K1.out (.slice A d.n cp) (.slice B m cq) (.int .i64 d.lp) (.int .i64 k) (.int .i64 (x:Int)) (.int .i64 0) (.int .i64 1) (.bool false)).drew.bel
    unfold st8 at this
    exact this
 | true =>
   have E:=hide (show curlableC d (x:Int)=fullC d.n 1 by rw [HC.out,ho];rfl)
   clear ho HC
   by_cases hf:64<d.n+1
   ·have t5:decide ((64:Int)<(d.n:Int)+1)=true:=by simp;omega
    have E2:=hide (show curlableC d (x:Int)=5 by rw [E.out];unfold fullC;rw [if_pos hf])
    clear hf
    go_wp2_with fail
    go_region
    go_wp2_with fail
    refine bodyPost_ret (v := .tuple #[.agg #[.slice A d.n cp,.slice B m cq,.int .i64 d.lp],.agg #[.int .i64 k,.int .i64 (x:Int),.int .i64 0,.int .i64 1,.bool false],.int .i64 5]) ?_ rfl ?_
    ·obtain ⟨e0,e1,e2,e3,e4,e5,e6,e7⟩:=RK.cells K1.out (.slice A d.n cp) (.slice B m cq) (.int .i64 d.lp) (.int .i64 k) (.int .i64 (x:Int)) (.int .i64 0) (.int .i64 1) (.bool false)
     unfold st8 at e0 e1 e2 e3 e4 e5 e6 e7
     simp [results,Try.results53,go_sem,e0,e1,e2,e3,e4,e5,e6,e7]
    ·rw [E2.out]
     refine rc_err (by decide) ⟨A,B,d.n,m,cp,cq,d.lp,k,(x:Int),0,1,false,rfl⟩ ?_
     have:=(RK.fin K1.out (.slice A d.n cp) (.slice B m cq) (.int .i64 d.lp) (.int .i64 k) (.int .i64 (x:Int)) (.int .i64 0) (.int .i64 1) (.bool false)).drew.bel
     unfold st8 at this
     exact this
   ·have t5:decide ((64:Int)<(d.n:Int)+1)=false:=by simp;omega
    have E2:=hide (show curlableC d (x:Int)=0 by rw [E.out];unfold fullC;rw [if_neg hf])
    clear hf p0 p1 p2 p3 q0 q1 q2 q3 q4 q5
    obtain ⟨i0,hi0,hz0,hz1,hz2⟩:=info_parts intInfo
    have A0:=hide (K1.out.alloc (.cells #[.int .i64 1] 3))
    have NE0:=hide (own_row_ne A0.out.s A0.out.d (by decide))
    have hsz1:base≤(w1.alloc (.cells #[.int .i64 1] 3)).heap.size:=by simp;omega
    go_upto_region 9 with (at_builtin;refine wpList_append_lies _ (by rfl) _ _ 22 (by rfl) base 3 i0 (.int .i64 0) 1 8 Try.underlying22 hi0 hz0 hz1 hz2 rfl (by omega) _ d.n _ (by rfl) A0.out.s ⟨w1.heap.size,0,none⟩ 1 1 [.int .i64 1] (by rfl) (by rfl) (one_news w1 (.int .i64 1)) (by simp [Value.oneCell']) (by omega) (by unfold maxLen;omega) (by omega) hsz1 (w1.heap.size+1) (by simp) ?_;intro g3 c3 w3 own3 grow3 at3 lt3;have KD:=A0.out.d.grown grow3 NE0.out;obtain ⟨e0,e1,e2,e3⟩:=box3 KD;have OWN3:=hide own3;have GR3:=hide grow3;have AT3:=hide at3;clear own3 grow3 at3 KD)
    have K3:=hide (RK.appS (K1.out.alloc (.cells #[.int .i64 1] 3)) (ss':=d.sg++[1]) (by have:=OWN3.out;rw [List.map_append];exact this) GR3.out rfl (by have:=AT3.out;simpa using this))
    clear OWN3 GR3 AT3 d0 d1 d2 d3 m0 m1 m2 m3 m4 m5
    obtain ⟨W4,hW4⟩:∃W4:World,W4=w3.setCell ⟨w.heap.size,0,none⟩ (.slice (some ⟨g3,0,none⟩) (d.n+1) c3):=⟨_,rfl⟩
    rw [←hW4] at K3 ⊢
    clear hW4 e0 e1 e2 e3
    obtain ⟨d0,d1,d2,d3⟩:=box3 K3.out.d
    have hw4:=K3.out.big
    have A1:=hide (K3.out.alloc (.cells #[.int .i64 0,.int .i64 0,.int .i64 0,.int .i64 0] 3))
    have NE1:=hide (own_row_ne A1.out.o A1.out.d (by decide))
    have hsz2:base≤(W4.alloc (.cells #[.int .i64 0,.int .i64 0,.int .i64 0,.int .i64 0] 3)).heap.size:=by simp;omega
    go_upto_region 10 with (at_builtin;refine wpList_append_lies _ (by rfl) _ _ 22 (by rfl) base 3 i0 (.int .i64 0) 1 8 Try.underlying22 hi0 hz0 hz1 hz2 rfl (by omega) _ m _ (by rfl) A1.out.o ⟨W4.heap.size,0,none⟩ 4 4 [.int .i64 0,.int .i64 0,.int .i64 0,.int .i64 0] (by rfl) (by rfl) (four_news W4 (.int .i64 0) (.int .i64 0) (.int .i64 0) (.int .i64 0)) (by simp [Value.oneCell']) (by omega) (by unfold maxLen;omega) (by omega) hsz2 (W4.heap.size+1) (by simp) ?_;intro g5 c5 w5 own5 grow5 at5 lt5;have KD:=A1.out.d.grown grow5 NE1.out;obtain ⟨e0,e1,e2,e3⟩:=box3 KD;have OWN5:=hide own5;have GR5:=hide grow5;have AT5:=hide at5;clear own5 grow5 at5 KD)
    have K5:=hide (RK.appM (K3.out.alloc (.cells #[.int .i64 0,.int .i64 0,.int .i64 0,.int .i64 0] 3)) (l':=d.mt++[0,0,0,0]) (by have:=OWN5.out;rw [List.map_append];exact this) GR5.out rfl (by have:=AT5.out;simpa using this))
    clear OWN5 GR5 AT5 d0 d1 d2 d3
    obtain ⟨W6,hW6⟩:∃W6:World,W6=w5.setCell ⟨w.heap.size,1,none⟩ (.slice (some ⟨g5,0,none⟩) (m+4) c5):=⟨_,rfl⟩
    rw [←hW6] at K5 ⊢
    clear hW6 e0 e1 e2 e3 hw4 K3 K1 hw1
    obtain ⟨d0,d1,d2,d3⟩:=box3 K5.out.d
    obtain ⟨m0,m1,m2,m3,m4,m5⟩:=box5 K5.out.m
    go_wp2_with fail
    refine (rovers_p (some ⟨g3,0,none⟩) (some ⟨g5,0,none⟩) (d.n+1) c3 (m+4) c5 d.n (.int .i64 d.lp) (d.sg++[1]) _ (own_intsR K5.out.s) (by omega) (by omega) (pv_last d.sg 1)).mono ?_
    rintro e w7 ⟨rfl,hb7⟩
    have K7:=hide (K5.out.below hb7)
    have hw7:=K7.out.big
    clear hb7 d0 d1 d2 d3 m0 m1 m2 m3 m4 m5 K5
    obtain ⟨d0,d1,d2,d3⟩:=box3 K7.out.d
    obtain ⟨m0,m1,m2,m3,m4,m5⟩:=box5 K7.out.m
    go_wp2_with fail
    refine (rjoin_int base g5 (m+4) c5 (d.n+1) c3 (4 * (d.n:Int)+2) (4 * (d.n:Int)+3) (some ⟨g3,0,none⟩) (.int .i64 d.lp) (d.mt++[0,0,0,0]) _ K7.out.o (by have:=HM.out;omega) (by have:=HM.out;omega) (by have:=HM.out;omega)).mono ?_
    rintro e w8 ⟨rfl,own8,gr8⟩
    have K8:=hide (K7.out.kept gr8 own8)
    clear own8 gr8 d0 d1 d2 d3 m0 m1 m2 m3 m4 m5 K7 hw7
    have hw8:=K8.out.big
    obtain ⟨d0,d1,d2,d3⟩:=box3 K8.out.d
    obtain ⟨m0,m1,m2,m3,m4,m5⟩:=box5 K8.out.m
    have hq1:(x:Int)<((m+4:Nat):Int):=by omega
    have hq2:(0:Int)≤(x:Int):=by omega
    have cx:=OwnN.cell K8.out.o (k:=x) (by omega)
    rw [jn_ne (by have:=HM.out;omega) (by have:=HM.out;omega),mt_app HD.out hx] at cx
    obtain ⟨y,hy⟩:∃y,y=d.m x:=⟨_,rfl⟩
    rw [←hy] at cx hmx
    have HY:=hide hy
    clear hy
    go_wp2_with fail
    refine (rjoin_int base g5 (m+4) c5 (d.n+1) c3 (x:Int) (4 * (d.n:Int)) (some ⟨g3,0,none⟩) (.int .i64 d.lp) _ _ K8.out.o (by have:=HM.out;omega) (by have:=HM.out;omega) (by have:=HM.out;omega)).mono ?_
    rintro e w9 ⟨rfl,own9,gr9⟩
    have K9:=hide (K8.out.kept gr9 own9)
    clear own9 gr9 d0 d1 d2 d3 m0 m1 m2 m3 m4 m5 K8 hw8 cx
    obtain ⟨d0,d1,d2,d3⟩:=box3 K9.out.d
    obtain ⟨m0,m1,m2,m3,m4,m5⟩:=box5 K9.out.m
    go_wp2_with fail
    refine (rjoin_int base g5 (m+4) c5 (d.n+1) c3 (4 * (d.n:Int)+1) (y:Int) (some ⟨g3,0,none⟩) (.int .i64 d.lp) _ _ K9.out.o (by have:=HM.out;omega) (by have:=HM.out;omega) (by have:=HM.out;omega)).mono ?_
    rintro e w10 ⟨rfl,own10,gr10⟩
    have K10:=hide (K9.out.kept gr10 own10)
    clear own10 gr10 d0 d1 d2 d3 m0 m1 m2 m3 m4 m5 K9
    have hw9:=K10.out.big
    obtain ⟨d0,d1,d2,d3⟩:=box3 K10.out.d
    obtain ⟨_,r3,l3⟩:=K10.out.rd
    obtain ⟨_,r4,l4⟩:=K10.out.rm
    obtain ⟨p0,p1,p2,p3⟩:=cells3 r3 l3
    obtain ⟨q0,q1,q2,q3,q4,q5⟩:=cells5 r4 l4
    clear r3 l3 r4 l4
    go_wp2
    refine bodyPost_ret (v := .tuple #[.agg #[.slice (some ⟨g3,0,none⟩) (d.n+1) c3,.slice (some ⟨g5,0,none⟩) (m+4) c5,.int .i64 d.lp],.agg #[.int .i64 2,.int .i64 d.n,.int .i64 0,.int .i64 0,.bool false],.int .i64 0]) ?_ rfl ?_
    ·obtain ⟨e0,e1,e2,e3,e4,e5,e6,e7⟩:=RK.cells K10.out (.slice (some ⟨g3,0,none⟩) (d.n+1) c3) (.slice (some ⟨g5,0,none⟩) (m+4) c5) (.int .i64 d.lp) (.int .i64 2) (.int .i64 d.n) (.int .i64 0) (.int .i64 0) (.bool false)
     unfold st8 at e0 e1 e2 e3 e4 e5 e6 e7
     simp [results,Try.results53,go_sem,e0,e1,e2,e3,e4,e5,e6,e7]
    ·have K11:=RK.fin K10.out (.slice (some ⟨g3,0,none⟩) (d.n+1) c3) (.slice (some ⟨g5,0,none⟩) (m+4) c5) (.int .i64 d.lp) (.int .i64 2) (.int .i64 d.n) (.int .i64 0) (.int .i64 0) (.bool false)
     unfold st8 at K11
     have en:=crl_n d ((x:Int)) 1 false
     refine ⟨fun h=>absurd E2.out h,fun _=>⟨some ⟨g3,0,none⟩,some ⟨g5,0,none⟩,c3,c5,?_,?_⟩,K11.bel⟩
     ·rw [en,show 4 * (d.n+1)=m+4 by have:=HM.out;omega]
      rfl
     ·refine own_toDg K11 rfl rfl en.symm (by rw [en];have:=HM.out;omega) rfl ?_
      rw [HMT.out]
      rw [HY.out]
      unfold kO0 kO1 kI0 kI1
      simp only [show (4 * (d.n:Int)).toNat=4 * d.n by omega,show (4 * (d.n:Int)+1).toNat=4 * d.n+1 by omega,show (4 * (d.n:Int)+2).toNat=4 * d.n+2 by omega,show (4 * (d.n:Int)+3).toNat=4 * d.n+3 by omega,Int.toNat_natCast]
      rfl
set_option maxRecDepth 100000 in
set_option maxHeartbeats 8000000 in
theorem rcurl_lpu (d:Pl.Dg)(hd:Pl.Wf d)(base cp cq m:Nat)(A B:Option Addr)(k:Int)(w:World)(hm:m=4 * d.n)(h:Own2 base w (.slice A d.n cp) (.slice B m cq) d.n m d.sg d.mt) :
 Calls Try.prog 53 #[.agg #[.slice A d.n cp,.slice B m cq,.int .i64 d.lp],.agg #[.int .i64 k,.int .i64 (-1),.int .i64 0,.int .i64 1,.bool false]] w (RC base (curlableC d (-1)) (crl d (-1) 1 false) ⟨2,d.n,0,0,false⟩ w):=by
 have hn:=hd.few
 have hlp:=hd.lp
 have HD:=hide hd
 have HM:=hide hm
 have K1:=hide (RK.start h d.lp (.int .i64 k) (.int .i64 (-1)) (.int .i64 0) (.int .i64 1) (.bool false))
 have BE:=hide (show Below base w ((((w.alloc (.cells #[.slice A d.n cp,.slice B m cq,.int .i64 d.lp] 24)).alloc (.cells #[.int .i64 k,.int .i64 (-1),.int .i64 0,.int .i64 1,.bool false] 28)).alloc (.cells #[.slice A d.n cp,.slice B m cq,.int .i64 d.lp] 24)).alloc (.cells #[.int .i64 k,.int .i64 (-1),.int .i64 0,.int .i64 1,.bool false] 28)).drew from (((((Below.refl w.heap.size w).alloc (Nat.le_refl _) _).alloc (by simp) _).alloc (by simp;omega) _).alloc (by simp;omega) _).drew.mono h.le)
 have t2:decide (4 * (d.n:Int) ≤ -1)=false:=by rw [decide_eq_false_iff_not];omega
 have hle:=h.le
 have HMT:=hide (crl_lpM d 1 false)
 have hm4:m≤256:=by omega
 clear hm h hd
 by_cases hl:d.lp<1
 ·have t4:decide ((d.lp:Int)<1)=true:=by simp;omega
  have E:=hide (show curlableC d (-1)=6 by unfold curlableC;rw [if_pos (by omega),if_pos (by omega)])
  clear hl K1
  go_enter Try.func53,Try.ntmps53
  go_wp2_with fail
  go_region
  go_wp2_with fail
  refine bodyPost_ret (v := .tuple #[.agg #[.slice A d.n cp,.slice B m cq,.int .i64 d.lp],.agg #[.int .i64 k,.int .i64 (-1),.int .i64 0,.int .i64 1,.bool false],.int .i64 6]) (by simp [results,Try.results53,go_sem]) rfl ?_
  rw [E.out]
  exact rc_err (by decide) ⟨A,B,d.n,m,cp,cq,d.lp,k,(-1),0,1,false,rfl⟩ BE.out
 ·have t4:decide ((d.lp:Int)<1)=false:=by simp;omega
  have E:=hide (show curlableC d (-1)=fullC d.n 1 by unfold curlableC;rw [if_pos (by omega),if_neg (by omega)])
  have HL1:=hide (show 1≤d.lp by omega)
  clear hl
  by_cases hf:64<d.n+1
  ·have t5:decide ((64:Int)<(d.n:Int)+1)=true:=by simp;omega
   have E2:=hide (show curlableC d (-1)=5 by rw [E.out];unfold fullC;rw [if_pos hf])
   clear hf K1
   go_enter Try.func53,Try.ntmps53
   go_wp2_with fail
   go_region
   go_wp2_with fail
   refine bodyPost_ret (v := .tuple #[.agg #[.slice A d.n cp,.slice B m cq,.int .i64 d.lp],.agg #[.int .i64 k,.int .i64 (-1),.int .i64 0,.int .i64 1,.bool false],.int .i64 5]) (by simp [results,Try.results53,go_sem]) rfl ?_
   rw [E2.out]
   exact rc_err (by decide) ⟨A,B,d.n,m,cp,cq,d.lp,k,(-1),0,1,false,rfl⟩ BE.out
  ·have t5:decide ((64:Int)<(d.n:Int)+1)=false:=by simp;omega
   have E2:=hide (show curlableC d (-1)=0 by rw [E.out];unfold fullC;rw [if_neg hf])
   clear hf BE
   obtain ⟨i0,hi0,hz0,hz1,hz2⟩:=info_parts intInfo
   go_enter Try.func53,Try.ntmps53
   go_upto_region 8 with fail
   obtain ⟨w1,hw0⟩:∃w1:World,w1=W4 w (.slice A d.n cp) (.slice B m cq) (.int .i64 d.lp) (.int .i64 k) (.int .i64 (-1)) (.int .i64 0) (.int .i64 1) (.bool false):=⟨_,rfl⟩
   rw [←hw0] at K1
   unfold W4 at hw0
   rw [←hw0]
   clear hw0
   have hw1:=K1.out.big
   obtain ⟨d0,d1,d2,d3⟩:=box3 K1.out.d
   obtain ⟨m0,m1,m2,m3,m4,m5⟩:=box5 K1.out.m
   have A0:=hide (K1.out.alloc (.cells #[.int .i64 1] 3))
   have NE0:=hide (own_row_ne A0.out.s A0.out.d (by decide))
   have hsz1:base≤(w1.alloc (.cells #[.int .i64 1] 3)).heap.size:=by simp;omega
   go_upto_region 9 with (at_builtin;refine wpList_append_lies _ (by rfl) _ _ 22 (by rfl) base 3 i0 (.int .i64 0) 1 8 Try.underlying22 hi0 hz0 hz1 hz2 rfl (by omega) _ d.n _ (by rfl) A0.out.s ⟨w1.heap.size,0,none⟩ 1 1 [.int .i64 1] (by rfl) (by rfl) (one_news w1 (.int .i64 1)) (by simp [Value.oneCell']) (by omega) (by unfold maxLen;omega) (by omega) hsz1 (w1.heap.size+1) (by simp) ?_;intro g3 c3 w3 own3 grow3 at3 lt3;have KD:=A0.out.d.grown grow3 NE0.out;obtain ⟨e0,e1,e2,e3⟩:=box3 KD;have OWN3:=hide own3;have GR3:=hide grow3;have AT3:=hide at3;clear own3 grow3 at3 KD)
   have K3:=hide (RK.appS (K1.out.alloc (.cells #[.int .i64 1] 3)) (ss':=d.sg++[1]) (by have:=OWN3.out;rw [List.map_append];exact this) GR3.out rfl (by have:=AT3.out;simpa using this))
   clear OWN3 GR3 AT3 d0 d1 d2 d3 m0 m1 m2 m3 m4 m5
   obtain ⟨W4,hW4⟩:∃W4:World,W4=w3.setCell ⟨w.heap.size,0,none⟩ (.slice (some ⟨g3,0,none⟩) (d.n+1) c3):=⟨_,rfl⟩
   rw [←hW4] at K3 ⊢
   clear hW4 e0 e1 e2 e3
   obtain ⟨d0,d1,d2,d3⟩:=box3 K3.out.d
   have hw4:=K3.out.big
   have A1:=hide (K3.out.alloc (.cells #[.int .i64 0,.int .i64 0,.int .i64 0,.int .i64 0] 3))
   have NE1:=hide (own_row_ne A1.out.o A1.out.d (by decide))
   have hsz2:base≤(W4.alloc (.cells #[.int .i64 0,.int .i64 0,.int .i64 0,.int .i64 0] 3)).heap.size:=by simp;omega
   go_upto_region 10 with (at_builtin;refine wpList_append_lies _ (by rfl) _ _ 22 (by rfl) base 3 i0 (.int .i64 0) 1 8 Try.underlying22 hi0 hz0 hz1 hz2 rfl (by omega) _ m _ (by rfl) A1.out.o ⟨W4.heap.size,0,none⟩ 4 4 [.int .i64 0,.int .i64 0,.int .i64 0,.int .i64 0] (by rfl) (by rfl) (four_news W4 (.int .i64 0) (.int .i64 0) (.int .i64 0) (.int .i64 0)) (by simp [Value.oneCell']) (by omega) (by unfold maxLen;omega) (by omega) hsz2 (W4.heap.size+1) (by simp) ?_;intro g5 c5 w5 own5 grow5 at5 lt5;have KD:=A1.out.d.grown grow5 NE1.out;obtain ⟨e0,e1,e2,e3⟩:=box3 KD;have OWN5:=hide own5;have GR5:=hide grow5;have AT5:=hide at5;clear own5 grow5 at5 KD)
   have K5:=hide (RK.appM (K3.out.alloc (.cells #[.int .i64 0,.int .i64 0,.int .i64 0,.int .i64 0] 3)) (l':=d.mt++[0,0,0,0]) (by have:=OWN5.out;rw [List.map_append];exact this) GR5.out rfl (by have:=AT5.out;simpa using this))
   clear OWN5 GR5 AT5 d0 d1 d2 d3
   obtain ⟨W6,hW6⟩:∃W6:World,W6=w5.setCell ⟨w.heap.size,1,none⟩ (.slice (some ⟨g5,0,none⟩) (m+4) c5):=⟨_,rfl⟩
   rw [←hW6] at K5 ⊢
   clear hW6 e0 e1 e2 e3 hw4 K3 K1 hw1
   obtain ⟨d0,d1,d2,d3⟩:=box3 K5.out.d
   obtain ⟨m0,m1,m2,m3,m4,m5⟩:=box5 K5.out.m
   go_wp2_with fail
   refine (rovers_p (some ⟨g3,0,none⟩) (some ⟨g5,0,none⟩) (d.n+1) c3 (m+4) c5 d.n (.int .i64 d.lp) (d.sg++[1]) _ (own_intsR K5.out.s) (by omega) (by omega) (pv_last d.sg 1)).mono ?_
   rintro e w7 ⟨rfl,hb7⟩
   have K7:=hide (K5.out.below hb7)
   have hw7:=K7.out.big
   clear hb7 d0 d1 d2 d3 m0 m1 m2 m3 m4 m5 K5
   obtain ⟨d0,d1,d2,d3⟩:=box3 K7.out.d
   obtain ⟨m0,m1,m2,m3,m4,m5⟩:=box5 K7.out.m
   go_wp2_with fail
   refine (rjoin_int base g5 (m+4) c5 (d.n+1) c3 (4 * (d.n:Int)+2) (4 * (d.n:Int)+3) (some ⟨g3,0,none⟩) (.int .i64 d.lp) (d.mt++[0,0,0,0]) _ K7.out.o (by have:=HM.out;omega) (by have:=HM.out;omega) (by have:=HM.out;omega)).mono ?_
   rintro e w8 ⟨rfl,own8,gr8⟩
   have K8:=hide (K7.out.kept gr8 own8)
   clear own8 gr8 d0 d1 d2 d3 m0 m1 m2 m3 m4 m5 K7 hw7
   have hw8:=K8.out.big
   obtain ⟨d0,d1,d2,d3⟩:=box3 K8.out.d
   obtain ⟨m0,m1,m2,m3,m4,m5⟩:=box5 K8.out.m
   go_wp2_with fail
   refine (rjoin_int base g5 (m+4) c5 (d.n+1) c3 (4 * (d.n:Int)+1) (4 * (d.n:Int)) (some ⟨g3,0,none⟩) (.int .i64 d.lp) _ _ K8.out.o (by have:=HM.out;omega) (by have:=HM.out;omega) (by have:=HM.out;omega)).mono ?_
   rintro e w9 ⟨rfl,own9,gr9⟩
   have K9:=hide (K8.out.kept gr9 own9)
   clear own9 gr9 d0 d1 d2 d3 m0 m1 m2 m3 m4 m5 K8 hw8
   obtain ⟨d0,d1,d2,d3⟩:=box3 K9.out.d
   have K10:=hide (K9.out.setL ((d.lp:Int) - 1))
   have hw9:=K9.out.big
   obtain ⟨_,r3,l3⟩:=K9.out.rd
   obtain ⟨_,r4,l4⟩:=K9.out.rm
   obtain ⟨p0,p1,p2,p3⟩:=cells3 r3 l3
   obtain ⟨q0,q1,q2,q3,q4,q5⟩:=cells5 r4 l4
   clear r3 l3 r4 l4
   go_wp2
   refine bodyPost_ret (v := .tuple #[.agg #[.slice (some ⟨g3,0,none⟩) (d.n+1) c3,.slice (some ⟨g5,0,none⟩) (m+4) c5,.int .i64 ((d.lp:Int) - 1)],.agg #[.int .i64 2,.int .i64 d.n,.int .i64 0,.int .i64 0,.bool false],.int .i64 0]) ?_ rfl ?_
   ·obtain ⟨e0,e1,e2,e3,e4,e5,e6,e7⟩:=RK.cells K10.out (.slice (some ⟨g3,0,none⟩) (d.n+1) c3) (.slice (some ⟨g5,0,none⟩) (m+4) c5) (.int .i64 ((d.lp:Int) - 1)) (.int .i64 2) (.int .i64 d.n) (.int .i64 0) (.int .i64 0) (.bool false)
    unfold st8 at e0 e1 e2 e3 e4 e5 e6 e7
    simp [results,Try.results53,go_sem,e0,e1,e2,e3,e4,e5,e6,e7]
   ·have K11:=RK.fin K10.out (.slice (some ⟨g3,0,none⟩) (d.n+1) c3) (.slice (some ⟨g5,0,none⟩) (m+4) c5) (.int .i64 ((d.lp:Int) - 1)) (.int .i64 2) (.int .i64 d.n) (.int .i64 0) (.int .i64 0) (.bool false)
    unfold st8 at K11
    have en:=crl_n d ((-1)) 1 false
    refine ⟨fun h=>absurd E2.out h,fun _=>⟨some ⟨g3,0,none⟩,some ⟨g5,0,none⟩,c3,c5,?_,?_⟩,K11.bel⟩
    ·rw [en,show 4 * (d.n+1)=m+4 by have:=HM.out;omega]
     have el:((d.lp:Int) - 1)=(((crl d (-1) 1 false).lp:Nat):Int):=by show _=((((if (-1:Int)<0 then d.lp - 1 else d.lp):Nat)):Int);rw [if_pos (by omega)];have:=HL1.out;omega
     rw [el];rfl
    ·refine own_toDg K11 rfl rfl en.symm (by rw [en];have:=HM.out;omega) rfl ?_
     rw [HMT.out]
     skip
     unfold kO0 kO1 kI0 kI1
     simp only [show (4 * (d.n:Int)).toNat=4 * d.n by omega,show (4 * (d.n:Int)+1).toNat=4 * d.n+1 by omega,show (4 * (d.n:Int)+2).toNat=4 * d.n+2 by omega,show (4 * (d.n:Int)+3).toNat=4 * d.n+3 by omega,Int.toNat_natCast]
     rfl
set_option maxRecDepth 100000 in
set_option maxHeartbeats 8000000 in
theorem rcurl_epo (d:Pl.Dg)(hd:Pl.Wf d)(base cp cq m:Nat)(A B:Option Addr)(k:Int)(x:Nat)(w:World)(hm:m=4 * d.n)(h:Own2 base w (.slice A d.n cp) (.slice B m cq) d.n m d.sg d.mt)(hx:x<4 * d.n) :
 Calls Try.prog 53 #[.agg #[.slice A d.n cp,.slice B m cq,.int .i64 d.lp],.agg #[.int .i64 k,.int .i64 (x:Int),.int .i64 0,.int .i64 1,.bool true]] w (RC base (curlableC d (x:Int)) (crl d (x:Int) 1 true) ⟨2,d.n,0,0,false⟩ w):=by
 have hn:=hd.few
 have hlp:=hd.lp
 have HD:=hide hd
 have HM:=hide hm
 have K0:=hide (RK.start h d.lp (.int .i64 k) (.int .i64 (x:Int)) (.int .i64 0) (.int .i64 1) (.bool true))
 unfold W4 at K0
 have t1:decide ((x:Int) < -1)=false:=by rw [decide_eq_false_iff_not];omega
 have t2:decide (4 * (d.n:Int)≤(x:Int))=false:=by simp;omega
 have t3:decide ((x:Int)<0)=false:=by simp
 have t3':decide ((0:Int)≤(x:Int))=true:=by simp
 have hle:=h.le
 have HC:=hide (show curlableC d (x:Int)=if Pl.out d x=true then fullC d.n 1 else 6 by unfold curlableC;rw [if_neg (by omega),Int.toNat_natCast])
 have HMT:=hide (crl_edM hd hx (show (1:Int)=1∨(1:Int) = -1 by decide) true)
 have hmx:=hd.lt x hx
 have hxm:x<m:=by omega
 have hm4:m≤256:=by omega
 clear hm h hd
 go_enter Try.func53,Try.ntmps53
 go_wp2_with fail
 refine (rout_any d A B d.n cp m cq (.int .i64 d.lp) x _ rfl hx (by omega) (own_intsR K0.out.s)).mono ?_
 rintro e w1 ⟨rfl,hb1⟩
 have K1:=hide (K0.out.below hb1)
 have hw1:=K1.out.big
 clear hb1 K0
 obtain ⟨d0,d1,d2,d3⟩:=box3 K1.out.d
 obtain ⟨m0,m1,m2,m3,m4,m5⟩:=box5 K1.out.m
 obtain ⟨_,r3,l3⟩:=K1.out.rd
 obtain ⟨_,r4,l4⟩:=K1.out.rm
 obtain ⟨p0,p1,p2,p3⟩:=cells3 r3 l3
 obtain ⟨q0,q1,q2,q3,q4,q5⟩:=cells5 r4 l4
 clear r3 l3 r4 l4
 cases ho:Pl.out d x with
 | false =>
   have E:=hide (show curlableC d (x:Int)=6 by rw [HC.out,ho];rfl)
   clear ho
   go_wp2_with fail
   go_region
   go_wp2_with fail
   refine bodyPost_ret (v := .tuple #[.agg #[.slice A d.n cp,.slice B m cq,.int .i64 d.lp],.agg #[.int .i64 k,.int .i64 (x:Int),.int .i64 0,.int .i64 1,.bool true],.int .i64 6]) ?_ rfl ?_
   ·obtain ⟨e0,e1,e2,e3,e4,e5,e6,e7⟩:=RK.cells K1.out (.slice A d.n cp) (.slice B m cq) (.int .i64 d.lp) (.int .i64 k) (.int .i64 (x:Int)) (.int .i64 0) (.int .i64 1) (.bool true)
    unfold st8 at e0 e1 e2 e3 e4 e5 e6 e7
    simp [results,Try.results53,go_sem,e0,e1,e2,e3,e4,e5,e6,e7]
   ·rw [E.out]
    refine rc_err (by decide) ⟨A,B,d.n,m,cp,cq,d.lp,k,(x:Int),0,1,true,rfl⟩ ?_
    have:=(RK.fin K1.out (.slice A d.n cp) (.slice B m cq) (.int .i64 d.lp) (.int .i64 k) (.int .i64 (x:Int)) (.int .i64 0) (.int .i64 1) (.bool true)).drew.bel
    unfold st8 at this
    exact this
 | true =>
   have E:=hide (show curlableC d (x:Int)=fullC d.n 1 by rw [HC.out,ho];rfl)
   clear ho HC
   by_cases hf:64<d.n+1
   ·have t5:decide ((64:Int)<(d.n:Int)+1)=true:=by simp;omega
    have E2:=hide (show curlableC d (x:Int)=5 by rw [E.out];unfold fullC;rw [if_pos hf])
    clear hf
    go_wp2_with fail
    go_region
    go_wp2_with fail
    refine bodyPost_ret (v := .tuple #[.agg #[.slice A d.n cp,.slice B m cq,.int .i64 d.lp],.agg #[.int .i64 k,.int .i64 (x:Int),.int .i64 0,.int .i64 1,.bool true],.int .i64 5]) ?_ rfl ?_
    ·obtain ⟨e0,e1,e2,e3,e4,e5,e6,e7⟩:=RK.cells K1.out (.slice A d.n cp) (.slice B m cq) (.int .i64 d.lp) (.int .i64 k) (.int .i64 (x:Int)) (.int .i64 0) (.int .i64 1) (.bool true)
     unfold st8 at e0 e1 e2 e3 e4 e5 e6 e7
     simp [results,Try.results53,go_sem,e0,e1,e2,e3,e4,e5,e6,e7]
    ·rw [E2.out]
     refine rc_err (by decide) ⟨A,B,d.n,m,cp,cq,d.lp,k,(x:Int),0,1,true,rfl⟩ ?_
     have:=(RK.fin K1.out (.slice A d.n cp) (.slice B m cq) (.int .i64 d.lp) (.int .i64 k) (.int .i64 (x:Int)) (.int .i64 0) (.int .i64 1) (.bool true)).drew.bel
     unfold st8 at this
     exact this
   ·have t5:decide ((64:Int)<(d.n:Int)+1)=false:=by simp;omega
    have E2:=hide (show curlableC d (x:Int)=0 by rw [E.out];unfold fullC;rw [if_neg hf])
    clear hf p0 p1 p2 p3 q0 q1 q2 q3 q4 q5
    obtain ⟨i0,hi0,hz0,hz1,hz2⟩:=info_parts intInfo
    have A0:=hide (K1.out.alloc (.cells #[.int .i64 1] 3))
    have NE0:=hide (own_row_ne A0.out.s A0.out.d (by decide))
    have hsz1:base≤(w1.alloc (.cells #[.int .i64 1] 3)).heap.size:=by simp;omega
    go_upto_region 9 with (at_builtin;refine wpList_append_lies _ (by rfl) _ _ 22 (by rfl) base 3 i0 (.int .i64 0) 1 8 Try.underlying22 hi0 hz0 hz1 hz2 rfl (by omega) _ d.n _ (by rfl) A0.out.s ⟨w1.heap.size,0,none⟩ 1 1 [.int .i64 1] (by rfl) (by rfl) (one_news w1 (.int .i64 1)) (by simp [Value.oneCell']) (by omega) (by unfold maxLen;omega) (by omega) hsz1 (w1.heap.size+1) (by simp) ?_;intro g3 c3 w3 own3 grow3 at3 lt3;have KD:=A0.out.d.grown grow3 NE0.out;obtain ⟨e0,e1,e2,e3⟩:=box3 KD;have OWN3:=hide own3;have GR3:=hide grow3;have AT3:=hide at3;clear own3 grow3 at3 KD)
    have K3:=hide (RK.appS (K1.out.alloc (.cells #[.int .i64 1] 3)) (ss':=d.sg++[1]) (by have:=OWN3.out;rw [List.map_append];exact this) GR3.out rfl (by have:=AT3.out;simpa using this))
    clear OWN3 GR3 AT3 d0 d1 d2 d3 m0 m1 m2 m3 m4 m5
    obtain ⟨W4,hW4⟩:∃W4:World,W4=w3.setCell ⟨w.heap.size,0,none⟩ (.slice (some ⟨g3,0,none⟩) (d.n+1) c3):=⟨_,rfl⟩
    rw [←hW4] at K3 ⊢
    clear hW4 e0 e1 e2 e3
    obtain ⟨d0,d1,d2,d3⟩:=box3 K3.out.d
    have hw4:=K3.out.big
    have A1:=hide (K3.out.alloc (.cells #[.int .i64 0,.int .i64 0,.int .i64 0,.int .i64 0] 3))
    have NE1:=hide (own_row_ne A1.out.o A1.out.d (by decide))
    have hsz2:base≤(W4.alloc (.cells #[.int .i64 0,.int .i64 0,.int .i64 0,.int .i64 0] 3)).heap.size:=by simp;omega
    go_upto_region 10 with (at_builtin;refine wpList_append_lies _ (by rfl) _ _ 22 (by rfl) base 3 i0 (.int .i64 0) 1 8 Try.underlying22 hi0 hz0 hz1 hz2 rfl (by omega) _ m _ (by rfl) A1.out.o ⟨W4.heap.size,0,none⟩ 4 4 [.int .i64 0,.int .i64 0,.int .i64 0,.int .i64 0] (by rfl) (by rfl) (four_news W4 (.int .i64 0) (.int .i64 0) (.int .i64 0) (.int .i64 0)) (by simp [Value.oneCell']) (by omega) (by unfold maxLen;omega) (by omega) hsz2 (W4.heap.size+1) (by simp) ?_;intro g5 c5 w5 own5 grow5 at5 lt5;have KD:=A1.out.d.grown grow5 NE1.out;obtain ⟨e0,e1,e2,e3⟩:=box3 KD;have OWN5:=hide own5;have GR5:=hide grow5;have AT5:=hide at5;clear own5 grow5 at5 KD)
    have K5:=hide (RK.appM (K3.out.alloc (.cells #[.int .i64 0,.int .i64 0,.int .i64 0,.int .i64 0] 3)) (l':=d.mt++[0,0,0,0]) (by have:=OWN5.out;rw [List.map_append];exact this) GR5.out rfl (by have:=AT5.out;simpa using this))
    clear OWN5 GR5 AT5 d0 d1 d2 d3
    obtain ⟨W6,hW6⟩:∃W6:World,W6=w5.setCell ⟨w.heap.size,1,none⟩ (.slice (some ⟨g5,0,none⟩) (m+4) c5):=⟨_,rfl⟩
    rw [←hW6] at K5 ⊢
    clear hW6 e0 e1 e2 e3 hw4 K3 K1 hw1
    obtain ⟨d0,d1,d2,d3⟩:=box3 K5.out.d
    obtain ⟨m0,m1,m2,m3,m4,m5⟩:=box5 K5.out.m
    go_wp2_with fail
    refine (rovers_p (some ⟨g3,0,none⟩) (some ⟨g5,0,none⟩) (d.n+1) c3 (m+4) c5 d.n (.int .i64 d.lp) (d.sg++[1]) _ (own_intsR K5.out.s) (by omega) (by omega) (pv_last d.sg 1)).mono ?_
    rintro e w7 ⟨rfl,hb7⟩
    have K7:=hide (K5.out.below hb7)
    have hw7:=K7.out.big
    clear hb7 d0 d1 d2 d3 m0 m1 m2 m3 m4 m5 K5
    obtain ⟨d0,d1,d2,d3⟩:=box3 K7.out.d
    obtain ⟨m0,m1,m2,m3,m4,m5⟩:=box5 K7.out.m
    go_wp2_with fail
    refine (rjoin_int base g5 (m+4) c5 (d.n+1) c3 (4 * (d.n:Int)+1) (4 * (d.n:Int)) (some ⟨g3,0,none⟩) (.int .i64 d.lp) (d.mt++[0,0,0,0]) _ K7.out.o (by have:=HM.out;omega) (by have:=HM.out;omega) (by have:=HM.out;omega)).mono ?_
    rintro e w8 ⟨rfl,own8,gr8⟩
    have K8:=hide (K7.out.kept gr8 own8)
    clear own8 gr8 d0 d1 d2 d3 m0 m1 m2 m3 m4 m5 K7 hw7
    have hw8:=K8.out.big
    obtain ⟨d0,d1,d2,d3⟩:=box3 K8.out.d
    obtain ⟨m0,m1,m2,m3,m4,m5⟩:=box5 K8.out.m
    have hq1:(x:Int)<((m+4:Nat):Int):=by omega
    have hq2:(0:Int)≤(x:Int):=by omega
    have cx:=OwnN.cell K8.out.o (k:=x) (by omega)
    rw [jn_ne (by have:=HM.out;omega) (by have:=HM.out;omega),mt_app HD.out hx] at cx
    obtain ⟨y,hy⟩:∃y,y=d.m x:=⟨_,rfl⟩
    rw [←hy] at cx hmx
    have HY:=hide hy
    clear hy
    go_wp2_with fail
    refine (rjoin_int base g5 (m+4) c5 (d.n+1) c3 (x:Int) (4 * (d.n:Int)+3) (some ⟨g3,0,none⟩) (.int .i64 d.lp) _ _ K8.out.o (by have:=HM.out;omega) (by have:=HM.out;omega) (by have:=HM.out;omega)).mono ?_
    rintro e w9 ⟨rfl,own9,gr9⟩
    have K9:=hide (K8.out.kept gr9 own9)
    clear own9 gr9 d0 d1 d2 d3 m0 m1 m2 m3 m4 m5 K8 hw8 cx
    obtain ⟨d0,d1,d2,d3⟩:=box3 K9.out.d
    obtain ⟨m0,m1,m2,m3,m4,m5⟩:=box5 K9.out.m
    go_wp2_with fail
    refine (rjoin_int base g5 (m+4) c5 (d.n+1) c3 (4 * (d.n:Int)+2) (y:Int) (some ⟨g3,0,none⟩) (.int .i64 d.lp) _ _ K9.out.o (by have:=HM.out;omega) (by have:=HM.out;omega) (by have:=HM.out;omega)).mono ?_
    rintro e w10 ⟨rfl,own10,gr10⟩
    have K10:=hide (K9.out.kept gr10 own10)
    clear own10 gr10 d0 d1 d2 d3 m0 m1 m2 m3 m4 m5 K9
    have hw9:=K10.out.big
    obtain ⟨d0,d1,d2,d3⟩:=box3 K10.out.d
    obtain ⟨_,r3,l3⟩:=K10.out.rd
    obtain ⟨_,r4,l4⟩:=K10.out.rm
    obtain ⟨p0,p1,p2,p3⟩:=cells3 r3 l3
    obtain ⟨q0,q1,q2,q3,q4,q5⟩:=cells5 r4 l4
    clear r3 l3 r4 l4
    go_wp2
    refine bodyPost_ret (v := .tuple #[.agg #[.slice (some ⟨g3,0,none⟩) (d.n+1) c3,.slice (some ⟨g5,0,none⟩) (m+4) c5,.int .i64 d.lp],.agg #[.int .i64 2,.int .i64 d.n,.int .i64 0,.int .i64 0,.bool false],.int .i64 0]) ?_ rfl ?_
    ·obtain ⟨e0,e1,e2,e3,e4,e5,e6,e7⟩:=RK.cells K10.out (.slice (some ⟨g3,0,none⟩) (d.n+1) c3) (.slice (some ⟨g5,0,none⟩) (m+4) c5) (.int .i64 d.lp) (.int .i64 2) (.int .i64 d.n) (.int .i64 0) (.int .i64 0) (.bool false)
     unfold st8 at e0 e1 e2 e3 e4 e5 e6 e7
     simp [results,Try.results53,go_sem,e0,e1,e2,e3,e4,e5,e6,e7]
    ·have K11:=RK.fin K10.out (.slice (some ⟨g3,0,none⟩) (d.n+1) c3) (.slice (some ⟨g5,0,none⟩) (m+4) c5) (.int .i64 d.lp) (.int .i64 2) (.int .i64 d.n) (.int .i64 0) (.int .i64 0) (.bool false)
     unfold st8 at K11
     have en:=crl_n d ((x:Int)) 1 true
     refine ⟨fun h=>absurd E2.out h,fun _=>⟨some ⟨g3,0,none⟩,some ⟨g5,0,none⟩,c3,c5,?_,?_⟩,K11.bel⟩
     ·rw [en,show 4 * (d.n+1)=m+4 by have:=HM.out;omega]
      rfl
     ·refine own_toDg K11 rfl rfl en.symm (by rw [en];have:=HM.out;omega) rfl ?_
      rw [HMT.out]
      rw [HY.out]
      unfold kO0 kO1 kI0 kI1
      simp only [show (4 * (d.n:Int)).toNat=4 * d.n by omega,show (4 * (d.n:Int)+1).toNat=4 * d.n+1 by omega,show (4 * (d.n:Int)+2).toNat=4 * d.n+2 by omega,show (4 * (d.n:Int)+3).toNat=4 * d.n+3 by omega,Int.toNat_natCast]
      rfl
set_option maxRecDepth 100000 in
set_option maxHeartbeats 8000000 in
theorem rcurl_lpo (d:Pl.Dg)(hd:Pl.Wf d)(base cp cq m:Nat)(A B:Option Addr)(k:Int)(w:World)(hm:m=4 * d.n)(h:Own2 base w (.slice A d.n cp) (.slice B m cq) d.n m d.sg d.mt) :
 Calls Try.prog 53 #[.agg #[.slice A d.n cp,.slice B m cq,.int .i64 d.lp],.agg #[.int .i64 k,.int .i64 (-1),.int .i64 0,.int .i64 1,.bool true]] w (RC base (curlableC d (-1)) (crl d (-1) 1 true) ⟨2,d.n,0,0,false⟩ w):=by
 have hn:=hd.few
 have hlp:=hd.lp
 have HD:=hide hd
 have HM:=hide hm
 have K1:=hide (RK.start h d.lp (.int .i64 k) (.int .i64 (-1)) (.int .i64 0) (.int .i64 1) (.bool true))
 have BE:=hide (show Below base w ((((w.alloc (.cells #[.slice A d.n cp,.slice B m cq,.int .i64 d.lp] 24)).alloc (.cells #[.int .i64 k,.int .i64 (-1),.int .i64 0,.int .i64 1,.bool true] 28)).alloc (.cells #[.slice A d.n cp,.slice B m cq,.int .i64 d.lp] 24)).alloc (.cells #[.int .i64 k,.int .i64 (-1),.int .i64 0,.int .i64 1,.bool true] 28)).drew from (((((Below.refl w.heap.size w).alloc (Nat.le_refl _) _).alloc (by simp) _).alloc (by simp;omega) _).alloc (by simp;omega) _).drew.mono h.le)
 have t2:decide (4 * (d.n:Int) ≤ -1)=false:=by rw [decide_eq_false_iff_not];omega
 have hle:=h.le
 have HMT:=hide (crl_lpM d 1 true)
 have hm4:m≤256:=by omega
 clear hm h hd
 by_cases hl:d.lp<1
 ·have t4:decide ((d.lp:Int)<1)=true:=by simp;omega
  have E:=hide (show curlableC d (-1)=6 by unfold curlableC;rw [if_pos (by omega),if_pos (by omega)])
  clear hl K1
  go_enter Try.func53,Try.ntmps53
  go_wp2_with fail
  go_region
  go_wp2_with fail
  refine bodyPost_ret (v := .tuple #[.agg #[.slice A d.n cp,.slice B m cq,.int .i64 d.lp],.agg #[.int .i64 k,.int .i64 (-1),.int .i64 0,.int .i64 1,.bool true],.int .i64 6]) (by simp [results,Try.results53,go_sem]) rfl ?_
  rw [E.out]
  exact rc_err (by decide) ⟨A,B,d.n,m,cp,cq,d.lp,k,(-1),0,1,true,rfl⟩ BE.out
 ·have t4:decide ((d.lp:Int)<1)=false:=by simp;omega
  have E:=hide (show curlableC d (-1)=fullC d.n 1 by unfold curlableC;rw [if_pos (by omega),if_neg (by omega)])
  have HL1:=hide (show 1≤d.lp by omega)
  clear hl
  by_cases hf:64<d.n+1
  ·have t5:decide ((64:Int)<(d.n:Int)+1)=true:=by simp;omega
   have E2:=hide (show curlableC d (-1)=5 by rw [E.out];unfold fullC;rw [if_pos hf])
   clear hf K1
   go_enter Try.func53,Try.ntmps53
   go_wp2_with fail
   go_region
   go_wp2_with fail
   refine bodyPost_ret (v := .tuple #[.agg #[.slice A d.n cp,.slice B m cq,.int .i64 d.lp],.agg #[.int .i64 k,.int .i64 (-1),.int .i64 0,.int .i64 1,.bool true],.int .i64 5]) (by simp [results,Try.results53,go_sem]) rfl ?_
   rw [E2.out]
   exact rc_err (by decide) ⟨A,B,d.n,m,cp,cq,d.lp,k,(-1),0,1,true,rfl⟩ BE.out
  ·have t5:decide ((64:Int)<(d.n:Int)+1)=false:=by simp;omega
   have E2:=hide (show curlableC d (-1)=0 by rw [E.out];unfold fullC;rw [if_neg hf])
   clear hf BE
   obtain ⟨i0,hi0,hz0,hz1,hz2⟩:=info_parts intInfo
   go_enter Try.func53,Try.ntmps53
   go_upto_region 8 with fail
   obtain ⟨w1,hw0⟩:∃w1:World,w1=W4 w (.slice A d.n cp) (.slice B m cq) (.int .i64 d.lp) (.int .i64 k) (.int .i64 (-1)) (.int .i64 0) (.int .i64 1) (.bool true):=⟨_,rfl⟩
   rw [←hw0] at K1
   unfold W4 at hw0
   rw [←hw0]
   clear hw0
   have hw1:=K1.out.big
   obtain ⟨d0,d1,d2,d3⟩:=box3 K1.out.d
   obtain ⟨m0,m1,m2,m3,m4,m5⟩:=box5 K1.out.m
   have A0:=hide (K1.out.alloc (.cells #[.int .i64 1] 3))
   have NE0:=hide (own_row_ne A0.out.s A0.out.d (by decide))
   have hsz1:base≤(w1.alloc (.cells #[.int .i64 1] 3)).heap.size:=by simp;omega
   go_upto_region 9 with (at_builtin;refine wpList_append_lies _ (by rfl) _ _ 22 (by rfl) base 3 i0 (.int .i64 0) 1 8 Try.underlying22 hi0 hz0 hz1 hz2 rfl (by omega) _ d.n _ (by rfl) A0.out.s ⟨w1.heap.size,0,none⟩ 1 1 [.int .i64 1] (by rfl) (by rfl) (one_news w1 (.int .i64 1)) (by simp [Value.oneCell']) (by omega) (by unfold maxLen;omega) (by omega) hsz1 (w1.heap.size+1) (by simp) ?_;intro g3 c3 w3 own3 grow3 at3 lt3;have KD:=A0.out.d.grown grow3 NE0.out;obtain ⟨e0,e1,e2,e3⟩:=box3 KD;have OWN3:=hide own3;have GR3:=hide grow3;have AT3:=hide at3;clear own3 grow3 at3 KD)
   have K3:=hide (RK.appS (K1.out.alloc (.cells #[.int .i64 1] 3)) (ss':=d.sg++[1]) (by have:=OWN3.out;rw [List.map_append];exact this) GR3.out rfl (by have:=AT3.out;simpa using this))
   clear OWN3 GR3 AT3 d0 d1 d2 d3 m0 m1 m2 m3 m4 m5
   obtain ⟨W4,hW4⟩:∃W4:World,W4=w3.setCell ⟨w.heap.size,0,none⟩ (.slice (some ⟨g3,0,none⟩) (d.n+1) c3):=⟨_,rfl⟩
   rw [←hW4] at K3 ⊢
   clear hW4 e0 e1 e2 e3
   obtain ⟨d0,d1,d2,d3⟩:=box3 K3.out.d
   have hw4:=K3.out.big
   have A1:=hide (K3.out.alloc (.cells #[.int .i64 0,.int .i64 0,.int .i64 0,.int .i64 0] 3))
   have NE1:=hide (own_row_ne A1.out.o A1.out.d (by decide))
   have hsz2:base≤(W4.alloc (.cells #[.int .i64 0,.int .i64 0,.int .i64 0,.int .i64 0] 3)).heap.size:=by simp;omega
   go_upto_region 10 with (at_builtin;refine wpList_append_lies _ (by rfl) _ _ 22 (by rfl) base 3 i0 (.int .i64 0) 1 8 Try.underlying22 hi0 hz0 hz1 hz2 rfl (by omega) _ m _ (by rfl) A1.out.o ⟨W4.heap.size,0,none⟩ 4 4 [.int .i64 0,.int .i64 0,.int .i64 0,.int .i64 0] (by rfl) (by rfl) (four_news W4 (.int .i64 0) (.int .i64 0) (.int .i64 0) (.int .i64 0)) (by simp [Value.oneCell']) (by omega) (by unfold maxLen;omega) (by omega) hsz2 (W4.heap.size+1) (by simp) ?_;intro g5 c5 w5 own5 grow5 at5 lt5;have KD:=A1.out.d.grown grow5 NE1.out;obtain ⟨e0,e1,e2,e3⟩:=box3 KD;have OWN5:=hide own5;have GR5:=hide grow5;have AT5:=hide at5;clear own5 grow5 at5 KD)
   have K5:=hide (RK.appM (K3.out.alloc (.cells #[.int .i64 0,.int .i64 0,.int .i64 0,.int .i64 0] 3)) (l':=d.mt++[0,0,0,0]) (by have:=OWN5.out;rw [List.map_append];exact this) GR5.out rfl (by have:=AT5.out;simpa using this))
   clear OWN5 GR5 AT5 d0 d1 d2 d3
   obtain ⟨W6,hW6⟩:∃W6:World,W6=w5.setCell ⟨w.heap.size,1,none⟩ (.slice (some ⟨g5,0,none⟩) (m+4) c5):=⟨_,rfl⟩
   rw [←hW6] at K5 ⊢
   clear hW6 e0 e1 e2 e3 hw4 K3 K1 hw1
   obtain ⟨d0,d1,d2,d3⟩:=box3 K5.out.d
   obtain ⟨m0,m1,m2,m3,m4,m5⟩:=box5 K5.out.m
   go_wp2_with fail
   refine (rovers_p (some ⟨g3,0,none⟩) (some ⟨g5,0,none⟩) (d.n+1) c3 (m+4) c5 d.n (.int .i64 d.lp) (d.sg++[1]) _ (own_intsR K5.out.s) (by omega) (by omega) (pv_last d.sg 1)).mono ?_
   rintro e w7 ⟨rfl,hb7⟩
   have K7:=hide (K5.out.below hb7)
   have hw7:=K7.out.big
   clear hb7 d0 d1 d2 d3 m0 m1 m2 m3 m4 m5 K5
   obtain ⟨d0,d1,d2,d3⟩:=box3 K7.out.d
   obtain ⟨m0,m1,m2,m3,m4,m5⟩:=box5 K7.out.m
   go_wp2_with fail
   refine (rjoin_int base g5 (m+4) c5 (d.n+1) c3 (4 * (d.n:Int)+1) (4 * (d.n:Int)) (some ⟨g3,0,none⟩) (.int .i64 d.lp) (d.mt++[0,0,0,0]) _ K7.out.o (by have:=HM.out;omega) (by have:=HM.out;omega) (by have:=HM.out;omega)).mono ?_
   rintro e w8 ⟨rfl,own8,gr8⟩
   have K8:=hide (K7.out.kept gr8 own8)
   clear own8 gr8 d0 d1 d2 d3 m0 m1 m2 m3 m4 m5 K7 hw7
   have hw8:=K8.out.big
   obtain ⟨d0,d1,d2,d3⟩:=box3 K8.out.d
   obtain ⟨m0,m1,m2,m3,m4,m5⟩:=box5 K8.out.m
   go_wp2_with fail
   refine (rjoin_int base g5 (m+4) c5 (d.n+1) c3 (4 * (d.n:Int)+2) (4 * (d.n:Int)+3) (some ⟨g3,0,none⟩) (.int .i64 d.lp) _ _ K8.out.o (by have:=HM.out;omega) (by have:=HM.out;omega) (by have:=HM.out;omega)).mono ?_
   rintro e w9 ⟨rfl,own9,gr9⟩
   have K9:=hide (K8.out.kept gr9 own9)
   clear own9 gr9 d0 d1 d2 d3 m0 m1 m2 m3 m4 m5 K8 hw8
   obtain ⟨d0,d1,d2,d3⟩:=box3 K9.out.d
   have K10:=hide (K9.out.setL ((d.lp:Int) - 1))
   have hw9:=K9.out.big
   obtain ⟨_,r3,l3⟩:=K9.out.rd
   obtain ⟨_,r4,l4⟩:=K9.out.rm
   obtain ⟨p0,p1,p2,p3⟩:=cells3 r3 l3
   obtain ⟨q0,q1,q2,q3,q4,q5⟩:=cells5 r4 l4
   clear r3 l3 r4 l4
   go_wp2
   refine bodyPost_ret (v := .tuple #[.agg #[.slice (some ⟨g3,0,none⟩) (d.n+1) c3,.slice (some ⟨g5,0,none⟩) (m+4) c5,.int .i64 ((d.lp:Int) - 1)],.agg #[.int .i64 2,.int .i64 d.n,.int .i64 0,.int .i64 0,.bool false],.int .i64 0]) ?_ rfl ?_
   ·obtain ⟨e0,e1,e2,e3,e4,e5,e6,e7⟩:=RK.cells K10.out (.slice (some ⟨g3,0,none⟩) (d.n+1) c3) (.slice (some ⟨g5,0,none⟩) (m+4) c5) (.int .i64 ((d.lp:Int) - 1)) (.int .i64 2) (.int .i64 d.n) (.int .i64 0) (.int .i64 0) (.bool false)
    unfold st8 at e0 e1 e2 e3 e4 e5 e6 e7
    simp [results,Try.results53,go_sem,e0,e1,e2,e3,e4,e5,e6,e7]
   ·have K11:=RK.fin K10.out (.slice (some ⟨g3,0,none⟩) (d.n+1) c3) (.slice (some ⟨g5,0,none⟩) (m+4) c5) (.int .i64 ((d.lp:Int) - 1)) (.int .i64 2) (.int .i64 d.n) (.int .i64 0) (.int .i64 0) (.bool false)
    unfold st8 at K11
    have en:=crl_n d ((-1)) 1 true
    refine ⟨fun h=>absurd E2.out h,fun _=>⟨some ⟨g3,0,none⟩,some ⟨g5,0,none⟩,c3,c5,?_,?_⟩,K11.bel⟩
    ·rw [en,show 4 * (d.n+1)=m+4 by have:=HM.out;omega]
     have el:((d.lp:Int) - 1)=(((crl d (-1) 1 true).lp:Nat):Int):=by show _=((((if (-1:Int)<0 then d.lp - 1 else d.lp):Nat)):Int);rw [if_pos (by omega)];have:=HL1.out;omega
     rw [el];rfl
    ·refine own_toDg K11 rfl rfl en.symm (by rw [en];have:=HM.out;omega) rfl ?_
     rw [HMT.out]
     skip
     unfold kO0 kO1 kI0 kI1
     simp only [show (4 * (d.n:Int)).toNat=4 * d.n by omega,show (4 * (d.n:Int)+1).toNat=4 * d.n+1 by omega,show (4 * (d.n:Int)+2).toNat=4 * d.n+2 by omega,show (4 * (d.n:Int)+3).toNat=4 * d.n+3 by omega,Int.toNat_natCast]
     rfl
set_option maxRecDepth 100000 in
set_option maxHeartbeats 8000000 in
theorem rcurl_emu (d:Pl.Dg)(hd:Pl.Wf d)(base cp cq m:Nat)(A B:Option Addr)(k:Int)(x:Nat)(w:World)(hm:m=4 * d.n)(h:Own2 base w (.slice A d.n cp) (.slice B m cq) d.n m d.sg d.mt)(hx:x<4 * d.n) :
 Calls Try.prog 53 #[.agg #[.slice A d.n cp,.slice B m cq,.int .i64 d.lp],.agg #[.int .i64 k,.int .i64 (x:Int),.int .i64 0,.int .i64 (-1),.bool false]] w (RC base (curlableC d (x:Int)) (crl d (x:Int) (-1) false) ⟨2,d.n,0,0,false⟩ w):=by
 have hn:=hd.few
 have hlp:=hd.lp
 have HD:=hide hd
 have HM:=hide hm
 have K0:=hide (RK.start h d.lp (.int .i64 k) (.int .i64 (x:Int)) (.int .i64 0) (.int .i64 (-1)) (.bool false))
 unfold W4 at K0
 have t1:decide ((x:Int) < -1)=false:=by rw [decide_eq_false_iff_not];omega
 have t2:decide (4 * (d.n:Int)≤(x:Int))=false:=by simp;omega
 have t3:decide ((x:Int)<0)=false:=by simp
 have t3':decide ((0:Int)≤(x:Int))=true:=by simp
 have hle:=h.le
 have HC:=hide (show curlableC d (x:Int)=if Pl.out d x=true then fullC d.n 1 else 6 by unfold curlableC;rw [if_neg (by omega),Int.toNat_natCast])
 have HMT:=hide (crl_edM hd hx (show ((-1):Int)=1∨((-1):Int) = -1 by decide) false)
 have hmx:=hd.lt x hx
 have hxm:x<m:=by omega
 have hm4:m≤256:=by omega
 clear hm h hd
 go_enter Try.func53,Try.ntmps53
 go_wp2_with fail
 refine (rout_any d A B d.n cp m cq (.int .i64 d.lp) x _ rfl hx (by omega) (own_intsR K0.out.s)).mono ?_
 rintro e w1 ⟨rfl,hb1⟩
 have K1:=hide (K0.out.below hb1)
 have hw1:=K1.out.big
 clear hb1 K0
 obtain ⟨d0,d1,d2,d3⟩:=box3 K1.out.d
 obtain ⟨m0,m1,m2,m3,m4,m5⟩:=box5 K1.out.m
 obtain ⟨_,r3,l3⟩:=K1.out.rd
 obtain ⟨_,r4,l4⟩:=K1.out.rm
 obtain ⟨p0,p1,p2,p3⟩:=cells3 r3 l3
 obtain ⟨q0,q1,q2,q3,q4,q5⟩:=cells5 r4 l4
 clear r3 l3 r4 l4
 cases ho:Pl.out d x with
 | false =>
   have E:=hide (show curlableC d (x:Int)=6 by rw [HC.out,ho];rfl)
   clear ho
   go_wp2_with fail
   go_region
   go_wp2_with fail
   refine bodyPost_ret (v := .tuple #[.agg #[.slice A d.n cp,.slice B m cq,.int .i64 d.lp],.agg #[.int .i64 k,.int .i64 (x:Int),.int .i64 0,.int .i64 (-1),.bool false],.int .i64 6]) ?_ rfl ?_
   ·obtain ⟨e0,e1,e2,e3,e4,e5,e6,e7⟩:=RK.cells K1.out (.slice A d.n cp) (.slice B m cq) (.int .i64 d.lp) (.int .i64 k) (.int .i64 (x:Int)) (.int .i64 0) (.int .i64 (-1)) (.bool false)
    unfold st8 at e0 e1 e2 e3 e4 e5 e6 e7
    simp [results,Try.results53,go_sem,e0,e1,e2,e3,e4,e5,e6,e7]
   ·rw [E.out]
    refine rc_err (by decide) ⟨A,B,d.n,m,cp,cq,d.lp,k,(x:Int),0,(-1),false,rfl⟩ ?_
    have:=(RK.fin K1.out (.slice A d.n cp) (.slice B m cq) (.int .i64 d.lp) (.int .i64 k) (.int .i64 (x:Int)) (.int .i64 0) (.int .i64 (-1)) (.bool false)).drew.bel
    unfold st8 at this
    exact this
 | true =>
   have E:=hide (show curlableC d (x:Int)=fullC d.n 1 by rw [HC.out,ho];rfl)
   clear ho HC
   by_cases hf:64<d.n+1
   ·have t5:decide ((64:Int)<(d.n:Int)+1)=true:=by simp;omega
    have E2:=hide (show curlableC d (x:Int)=5 by rw [E.out];unfold fullC;rw [if_pos hf])
    clear hf
    go_wp2_with fail
    go_region
    go_wp2_with fail
    refine bodyPost_ret (v := .tuple #[.agg #[.slice A d.n cp,.slice B m cq,.int .i64 d.lp],.agg #[.int .i64 k,.int .i64 (x:Int),.int .i64 0,.int .i64 (-1),.bool false],.int .i64 5]) ?_ rfl ?_
    ·obtain ⟨e0,e1,e2,e3,e4,e5,e6,e7⟩:=RK.cells K1.out (.slice A d.n cp) (.slice B m cq) (.int .i64 d.lp) (.int .i64 k) (.int .i64 (x:Int)) (.int .i64 0) (.int .i64 (-1)) (.bool false)
     unfold st8 at e0 e1 e2 e3 e4 e5 e6 e7
     simp [results,Try.results53,go_sem,e0,e1,e2,e3,e4,e5,e6,e7]
    ·rw [E2.out]
     refine rc_err (by decide) ⟨A,B,d.n,m,cp,cq,d.lp,k,(x:Int),0,(-1),false,rfl⟩ ?_
     have:=(RK.fin K1.out (.slice A d.n cp) (.slice B m cq) (.int .i64 d.lp) (.int .i64 k) (.int .i64 (x:Int)) (.int .i64 0) (.int .i64 (-1)) (.bool false)).drew.bel
     unfold st8 at this
     exact this
   ·have t5:decide ((64:Int)<(d.n:Int)+1)=false:=by simp;omega
    have E2:=hide (show curlableC d (x:Int)=0 by rw [E.out];unfold fullC;rw [if_neg hf])
    clear hf p0 p1 p2 p3 q0 q1 q2 q3 q4 q5
    obtain ⟨i0,hi0,hz0,hz1,hz2⟩:=info_parts intInfo
    have A0:=hide (K1.out.alloc (.cells #[.int .i64 (-1)] 3))
    have NE0:=hide (own_row_ne A0.out.s A0.out.d (by decide))
    have hsz1:base≤(w1.alloc (.cells #[.int .i64 (-1)] 3)).heap.size:=by simp;omega
    go_upto_region 9 with (at_builtin;refine wpList_append_lies _ (by rfl) _ _ 22 (by rfl) base 3 i0 (.int .i64 0) 1 8 Try.underlying22 hi0 hz0 hz1 hz2 rfl (by omega) _ d.n _ (by rfl) A0.out.s ⟨w1.heap.size,0,none⟩ 1 1 [.int .i64 (-1)] (by rfl) (by rfl) (one_news w1 (.int .i64 (-1))) (by simp [Value.oneCell']) (by omega) (by unfold maxLen;omega) (by omega) hsz1 (w1.heap.size+1) (by simp) ?_;intro g3 c3 w3 own3 grow3 at3 lt3;have KD:=A0.out.d.grown grow3 NE0.out;obtain ⟨e0,e1,e2,e3⟩:=box3 KD;have OWN3:=hide own3;have GR3:=hide grow3;have AT3:=hide at3;clear own3 grow3 at3 KD)
    have K3:=hide (RK.appS (K1.out.alloc (.cells #[.int .i64 (-1)] 3)) (ss':=d.sg++[(-1)]) (by have:=OWN3.out;rw [List.map_append];exact this) GR3.out rfl (by have:=AT3.out;simpa using this))
    clear OWN3 GR3 AT3 d0 d1 d2 d3 m0 m1 m2 m3 m4 m5
    obtain ⟨W4,hW4⟩:∃W4:World,W4=w3.setCell ⟨w.heap.size,0,none⟩ (.slice (some ⟨g3,0,none⟩) (d.n+1) c3):=⟨_,rfl⟩
    rw [←hW4] at K3 ⊢
    clear hW4 e0 e1 e2 e3
    obtain ⟨d0,d1,d2,d3⟩:=box3 K3.out.d
    have hw4:=K3.out.big
    have A1:=hide (K3.out.alloc (.cells #[.int .i64 0,.int .i64 0,.int .i64 0,.int .i64 0] 3))
    have NE1:=hide (own_row_ne A1.out.o A1.out.d (by decide))
    have hsz2:base≤(W4.alloc (.cells #[.int .i64 0,.int .i64 0,.int .i64 0,.int .i64 0] 3)).heap.size:=by simp;omega
    go_upto_region 10 with (at_builtin;refine wpList_append_lies _ (by rfl) _ _ 22 (by rfl) base 3 i0 (.int .i64 0) 1 8 Try.underlying22 hi0 hz0 hz1 hz2 rfl (by omega) _ m _ (by rfl) A1.out.o ⟨W4.heap.size,0,none⟩ 4 4 [.int .i64 0,.int .i64 0,.int .i64 0,.int .i64 0] (by rfl) (by rfl) (four_news W4 (.int .i64 0) (.int .i64 0) (.int .i64 0) (.int .i64 0)) (by simp [Value.oneCell']) (by omega) (by unfold maxLen;omega) (by omega) hsz2 (W4.heap.size+1) (by simp) ?_;intro g5 c5 w5 own5 grow5 at5 lt5;have KD:=A1.out.d.grown grow5 NE1.out;obtain ⟨e0,e1,e2,e3⟩:=box3 KD;have OWN5:=hide own5;have GR5:=hide grow5;have AT5:=hide at5;clear own5 grow5 at5 KD)
    have K5:=hide (RK.appM (K3.out.alloc (.cells #[.int .i64 0,.int .i64 0,.int .i64 0,.int .i64 0] 3)) (l':=d.mt++[0,0,0,0]) (by have:=OWN5.out;rw [List.map_append];exact this) GR5.out rfl (by have:=AT5.out;simpa using this))
    clear OWN5 GR5 AT5 d0 d1 d2 d3
    obtain ⟨W6,hW6⟩:∃W6:World,W6=w5.setCell ⟨w.heap.size,1,none⟩ (.slice (some ⟨g5,0,none⟩) (m+4) c5):=⟨_,rfl⟩
    rw [←hW6] at K5 ⊢
    clear hW6 e0 e1 e2 e3 hw4 K3 K1 hw1
    obtain ⟨d0,d1,d2,d3⟩:=box3 K5.out.d
    obtain ⟨m0,m1,m2,m3,m4,m5⟩:=box5 K5.out.m
    go_wp2_with fail
    refine (rovers_m (some ⟨g3,0,none⟩) (some ⟨g5,0,none⟩) (d.n+1) c3 (m+4) c5 d.n (.int .i64 d.lp) (d.sg++[(-1)]) _ (own_intsR K5.out.s) (by omega) (by omega) (pv_last d.sg (-1))).mono ?_
    rintro e w7 ⟨rfl,hb7⟩
    have K7:=hide (K5.out.below hb7)
    have hw7:=K7.out.big
    clear hb7 d0 d1 d2 d3 m0 m1 m2 m3 m4 m5 K5
    obtain ⟨d0,d1,d2,d3⟩:=box3 K7.out.d
    obtain ⟨m0,m1,m2,m3,m4,m5⟩:=box5 K7.out.m
    go_wp2_with fail
    refine (rjoin_int base g5 (m+4) c5 (d.n+1) c3 (4 * (d.n:Int)+2) (4 * (d.n:Int)+1) (some ⟨g3,0,none⟩) (.int .i64 d.lp) (d.mt++[0,0,0,0]) _ K7.out.o (by have:=HM.out;omega) (by have:=HM.out;omega) (by have:=HM.out;omega)).mono ?_
    rintro e w8 ⟨rfl,own8,gr8⟩
    have K8:=hide (K7.out.kept gr8 own8)
    clear own8 gr8 d0 d1 d2 d3 m0 m1 m2 m3 m4 m5 K7 hw7
    have hw8:=K8.out.big
    obtain ⟨d0,d1,d2,d3⟩:=box3 K8.out.d
    obtain ⟨m0,m1,m2,m3,m4,m5⟩:=box5 K8.out.m
    have hq1:(x:Int)<((m+4:Nat):Int):=by omega
    have hq2:(0:Int)≤(x:Int):=by omega
    have cx:=OwnN.cell K8.out.o (k:=x) (by omega)
    rw [jn_ne (by have:=HM.out;omega) (by have:=HM.out;omega),mt_app HD.out hx] at cx
    obtain ⟨y,hy⟩:∃y,y=d.m x:=⟨_,rfl⟩
    rw [←hy] at cx hmx
    have HY:=hide hy
    clear hy
    go_wp2_with fail
    refine (rjoin_int base g5 (m+4) c5 (d.n+1) c3 (x:Int) (4 * (d.n:Int)) (some ⟨g3,0,none⟩) (.int .i64 d.lp) _ _ K8.out.o (by have:=HM.out;omega) (by have:=HM.out;omega) (by have:=HM.out;omega)).mono ?_
    rintro e w9 ⟨rfl,own9,gr9⟩
    have K9:=hide (K8.out.kept gr9 own9)
    clear own9 gr9 d0 d1 d2 d3 m0 m1 m2 m3 m4 m5 K8 hw8 cx
    obtain ⟨d0,d1,d2,d3⟩:=box3 K9.out.d
    obtain ⟨m0,m1,m2,m3,m4,m5⟩:=box5 K9.out.m
    go_wp2_with fail
    refine (rjoin_int base g5 (m+4) c5 (d.n+1) c3 (4 * (d.n:Int)+3) (y:Int) (some ⟨g3,0,none⟩) (.int .i64 d.lp) _ _ K9.out.o (by have:=HM.out;omega) (by have:=HM.out;omega) (by have:=HM.out;omega)).mono ?_
    rintro e w10 ⟨rfl,own10,gr10⟩
    have K10:=hide (K9.out.kept gr10 own10)
    clear own10 gr10 d0 d1 d2 d3 m0 m1 m2 m3 m4 m5 K9
    have hw9:=K10.out.big
    obtain ⟨d0,d1,d2,d3⟩:=box3 K10.out.d
    obtain ⟨_,r3,l3⟩:=K10.out.rd
    obtain ⟨_,r4,l4⟩:=K10.out.rm
    obtain ⟨p0,p1,p2,p3⟩:=cells3 r3 l3
    obtain ⟨q0,q1,q2,q3,q4,q5⟩:=cells5 r4 l4
    clear r3 l3 r4 l4
    go_wp2
    refine bodyPost_ret (v := .tuple #[.agg #[.slice (some ⟨g3,0,none⟩) (d.n+1) c3,.slice (some ⟨g5,0,none⟩) (m+4) c5,.int .i64 d.lp],.agg #[.int .i64 2,.int .i64 d.n,.int .i64 0,.int .i64 0,.bool false],.int .i64 0]) ?_ rfl ?_
    ·obtain ⟨e0,e1,e2,e3,e4,e5,e6,e7⟩:=RK.cells K10.out (.slice (some ⟨g3,0,none⟩) (d.n+1) c3) (.slice (some ⟨g5,0,none⟩) (m+4) c5) (.int .i64 d.lp) (.int .i64 2) (.int .i64 d.n) (.int .i64 0) (.int .i64 0) (.bool false)
     unfold st8 at e0 e1 e2 e3 e4 e5 e6 e7
     simp [results,Try.results53,go_sem,e0,e1,e2,e3,e4,e5,e6,e7]
    ·have K11:=RK.fin K10.out (.slice (some ⟨g3,0,none⟩) (d.n+1) c3) (.slice (some ⟨g5,0,none⟩) (m+4) c5) (.int .i64 d.lp) (.int .i64 2) (.int .i64 d.n) (.int .i64 0) (.int .i64 0) (.bool false)
     unfold st8 at K11
     have en:=crl_n d ((x:Int)) (-1) false
     refine ⟨fun h=>absurd E2.out h,fun _=>⟨some ⟨g3,0,none⟩,some ⟨g5,0,none⟩,c3,c5,?_,?_⟩,K11.bel⟩
     ·rw [en,show 4 * (d.n+1)=m+4 by have:=HM.out;omega]
      rfl
     ·refine own_toDg K11 rfl rfl en.symm (by rw [en];have:=HM.out;omega) rfl ?_
      rw [HMT.out]
      rw [HY.out]
      unfold kO0 kO1 kI0 kI1
      simp only [show (4 * (d.n:Int)).toNat=4 * d.n by omega,show (4 * (d.n:Int)+1).toNat=4 * d.n+1 by omega,show (4 * (d.n:Int)+2).toNat=4 * d.n+2 by omega,show (4 * (d.n:Int)+3).toNat=4 * d.n+3 by omega,Int.toNat_natCast]
      rfl
set_option maxRecDepth 100000 in
set_option maxHeartbeats 8000000 in
theorem rcurl_lmu (d:Pl.Dg)(hd:Pl.Wf d)(base cp cq m:Nat)(A B:Option Addr)(k:Int)(w:World)(hm:m=4 * d.n)(h:Own2 base w (.slice A d.n cp) (.slice B m cq) d.n m d.sg d.mt) :
 Calls Try.prog 53 #[.agg #[.slice A d.n cp,.slice B m cq,.int .i64 d.lp],.agg #[.int .i64 k,.int .i64 (-1),.int .i64 0,.int .i64 (-1),.bool false]] w (RC base (curlableC d (-1)) (crl d (-1) (-1) false) ⟨2,d.n,0,0,false⟩ w):=by
 have hn:=hd.few
 have hlp:=hd.lp
 have HD:=hide hd
 have HM:=hide hm
 have K1:=hide (RK.start h d.lp (.int .i64 k) (.int .i64 (-1)) (.int .i64 0) (.int .i64 (-1)) (.bool false))
 have BE:=hide (show Below base w ((((w.alloc (.cells #[.slice A d.n cp,.slice B m cq,.int .i64 d.lp] 24)).alloc (.cells #[.int .i64 k,.int .i64 (-1),.int .i64 0,.int .i64 (-1),.bool false] 28)).alloc (.cells #[.slice A d.n cp,.slice B m cq,.int .i64 d.lp] 24)).alloc (.cells #[.int .i64 k,.int .i64 (-1),.int .i64 0,.int .i64 (-1),.bool false] 28)).drew from (((((Below.refl w.heap.size w).alloc (Nat.le_refl _) _).alloc (by simp) _).alloc (by simp;omega) _).alloc (by simp;omega) _).drew.mono h.le)
 have t2:decide (4 * (d.n:Int) ≤ -1)=false:=by rw [decide_eq_false_iff_not];omega
 have hle:=h.le
 have HMT:=hide (crl_lpM d (-1) false)
 have hm4:m≤256:=by omega
 clear hm h hd
 by_cases hl:d.lp<1
 ·have t4:decide ((d.lp:Int)<1)=true:=by simp;omega
  have E:=hide (show curlableC d (-1)=6 by unfold curlableC;rw [if_pos (by omega),if_pos (by omega)])
  clear hl K1
  go_enter Try.func53,Try.ntmps53
  go_wp2_with fail
  go_region
  go_wp2_with fail
  refine bodyPost_ret (v := .tuple #[.agg #[.slice A d.n cp,.slice B m cq,.int .i64 d.lp],.agg #[.int .i64 k,.int .i64 (-1),.int .i64 0,.int .i64 (-1),.bool false],.int .i64 6]) (by simp [results,Try.results53,go_sem]) rfl ?_
  rw [E.out]
  exact rc_err (by decide) ⟨A,B,d.n,m,cp,cq,d.lp,k,(-1),0,(-1),false,rfl⟩ BE.out
 ·have t4:decide ((d.lp:Int)<1)=false:=by simp;omega
  have E:=hide (show curlableC d (-1)=fullC d.n 1 by unfold curlableC;rw [if_pos (by omega),if_neg (by omega)])
  have HL1:=hide (show 1≤d.lp by omega)
  clear hl
  by_cases hf:64<d.n+1
  ·have t5:decide ((64:Int)<(d.n:Int)+1)=true:=by simp;omega
   have E2:=hide (show curlableC d (-1)=5 by rw [E.out];unfold fullC;rw [if_pos hf])
   clear hf K1
   go_enter Try.func53,Try.ntmps53
   go_wp2_with fail
   go_region
   go_wp2_with fail
   refine bodyPost_ret (v := .tuple #[.agg #[.slice A d.n cp,.slice B m cq,.int .i64 d.lp],.agg #[.int .i64 k,.int .i64 (-1),.int .i64 0,.int .i64 (-1),.bool false],.int .i64 5]) (by simp [results,Try.results53,go_sem]) rfl ?_
   rw [E2.out]
   exact rc_err (by decide) ⟨A,B,d.n,m,cp,cq,d.lp,k,(-1),0,(-1),false,rfl⟩ BE.out
  ·have t5:decide ((64:Int)<(d.n:Int)+1)=false:=by simp;omega
   have E2:=hide (show curlableC d (-1)=0 by rw [E.out];unfold fullC;rw [if_neg hf])
   clear hf BE
   obtain ⟨i0,hi0,hz0,hz1,hz2⟩:=info_parts intInfo
   go_enter Try.func53,Try.ntmps53
   go_upto_region 8 with fail
   obtain ⟨w1,hw0⟩:∃w1:World,w1=W4 w (.slice A d.n cp) (.slice B m cq) (.int .i64 d.lp) (.int .i64 k) (.int .i64 (-1)) (.int .i64 0) (.int .i64 (-1)) (.bool false):=⟨_,rfl⟩
   rw [←hw0] at K1
   unfold W4 at hw0
   rw [←hw0]
   clear hw0
   have hw1:=K1.out.big
   obtain ⟨d0,d1,d2,d3⟩:=box3 K1.out.d
   obtain ⟨m0,m1,m2,m3,m4,m5⟩:=box5 K1.out.m
   have A0:=hide (K1.out.alloc (.cells #[.int .i64 (-1)] 3))
   have NE0:=hide (own_row_ne A0.out.s A0.out.d (by decide))
   have hsz1:base≤(w1.alloc (.cells #[.int .i64 (-1)] 3)).heap.size:=by simp;omega
   go_upto_region 9 with (at_builtin;refine wpList_append_lies _ (by rfl) _ _ 22 (by rfl) base 3 i0 (.int .i64 0) 1 8 Try.underlying22 hi0 hz0 hz1 hz2 rfl (by omega) _ d.n _ (by rfl) A0.out.s ⟨w1.heap.size,0,none⟩ 1 1 [.int .i64 (-1)] (by rfl) (by rfl) (one_news w1 (.int .i64 (-1))) (by simp [Value.oneCell']) (by omega) (by unfold maxLen;omega) (by omega) hsz1 (w1.heap.size+1) (by simp) ?_;intro g3 c3 w3 own3 grow3 at3 lt3;have KD:=A0.out.d.grown grow3 NE0.out;obtain ⟨e0,e1,e2,e3⟩:=box3 KD;have OWN3:=hide own3;have GR3:=hide grow3;have AT3:=hide at3;clear own3 grow3 at3 KD)
   have K3:=hide (RK.appS (K1.out.alloc (.cells #[.int .i64 (-1)] 3)) (ss':=d.sg++[(-1)]) (by have:=OWN3.out;rw [List.map_append];exact this) GR3.out rfl (by have:=AT3.out;simpa using this))
   clear OWN3 GR3 AT3 d0 d1 d2 d3 m0 m1 m2 m3 m4 m5
   obtain ⟨W4,hW4⟩:∃W4:World,W4=w3.setCell ⟨w.heap.size,0,none⟩ (.slice (some ⟨g3,0,none⟩) (d.n+1) c3):=⟨_,rfl⟩
   rw [←hW4] at K3 ⊢
   clear hW4 e0 e1 e2 e3
   obtain ⟨d0,d1,d2,d3⟩:=box3 K3.out.d
   have hw4:=K3.out.big
   have A1:=hide (K3.out.alloc (.cells #[.int .i64 0,.int .i64 0,.int .i64 0,.int .i64 0] 3))
   have NE1:=hide (own_row_ne A1.out.o A1.out.d (by decide))
   have hsz2:base≤(W4.alloc (.cells #[.int .i64 0,.int .i64 0,.int .i64 0,.int .i64 0] 3)).heap.size:=by simp;omega
   go_upto_region 10 with (at_builtin;refine wpList_append_lies _ (by rfl) _ _ 22 (by rfl) base 3 i0 (.int .i64 0) 1 8 Try.underlying22 hi0 hz0 hz1 hz2 rfl (by omega) _ m _ (by rfl) A1.out.o ⟨W4.heap.size,0,none⟩ 4 4 [.int .i64 0,.int .i64 0,.int .i64 0,.int .i64 0] (by rfl) (by rfl) (four_news W4 (.int .i64 0) (.int .i64 0) (.int .i64 0) (.int .i64 0)) (by simp [Value.oneCell']) (by omega) (by unfold maxLen;omega) (by omega) hsz2 (W4.heap.size+1) (by simp) ?_;intro g5 c5 w5 own5 grow5 at5 lt5;have KD:=A1.out.d.grown grow5 NE1.out;obtain ⟨e0,e1,e2,e3⟩:=box3 KD;have OWN5:=hide own5;have GR5:=hide grow5;have AT5:=hide at5;clear own5 grow5 at5 KD)
   have K5:=hide (RK.appM (K3.out.alloc (.cells #[.int .i64 0,.int .i64 0,.int .i64 0,.int .i64 0] 3)) (l':=d.mt++[0,0,0,0]) (by have:=OWN5.out;rw [List.map_append];exact this) GR5.out rfl (by have:=AT5.out;simpa using this))
   clear OWN5 GR5 AT5 d0 d1 d2 d3
   obtain ⟨W6,hW6⟩:∃W6:World,W6=w5.setCell ⟨w.heap.size,1,none⟩ (.slice (some ⟨g5,0,none⟩) (m+4) c5):=⟨_,rfl⟩
   rw [←hW6] at K5 ⊢
   clear hW6 e0 e1 e2 e3 hw4 K3 K1 hw1
   obtain ⟨d0,d1,d2,d3⟩:=box3 K5.out.d
   obtain ⟨m0,m1,m2,m3,m4,m5⟩:=box5 K5.out.m
   go_wp2_with fail
   refine (rovers_m (some ⟨g3,0,none⟩) (some ⟨g5,0,none⟩) (d.n+1) c3 (m+4) c5 d.n (.int .i64 d.lp) (d.sg++[(-1)]) _ (own_intsR K5.out.s) (by omega) (by omega) (pv_last d.sg (-1))).mono ?_
   rintro e w7 ⟨rfl,hb7⟩
   have K7:=hide (K5.out.below hb7)
   have hw7:=K7.out.big
   clear hb7 d0 d1 d2 d3 m0 m1 m2 m3 m4 m5 K5
   obtain ⟨d0,d1,d2,d3⟩:=box3 K7.out.d
   obtain ⟨m0,m1,m2,m3,m4,m5⟩:=box5 K7.out.m
   go_wp2_with fail
   refine (rjoin_int base g5 (m+4) c5 (d.n+1) c3 (4 * (d.n:Int)+2) (4 * (d.n:Int)+1) (some ⟨g3,0,none⟩) (.int .i64 d.lp) (d.mt++[0,0,0,0]) _ K7.out.o (by have:=HM.out;omega) (by have:=HM.out;omega) (by have:=HM.out;omega)).mono ?_
   rintro e w8 ⟨rfl,own8,gr8⟩
   have K8:=hide (K7.out.kept gr8 own8)
   clear own8 gr8 d0 d1 d2 d3 m0 m1 m2 m3 m4 m5 K7 hw7
   have hw8:=K8.out.big
   obtain ⟨d0,d1,d2,d3⟩:=box3 K8.out.d
   obtain ⟨m0,m1,m2,m3,m4,m5⟩:=box5 K8.out.m
   go_wp2_with fail
   refine (rjoin_int base g5 (m+4) c5 (d.n+1) c3 (4 * (d.n:Int)+3) (4 * (d.n:Int)) (some ⟨g3,0,none⟩) (.int .i64 d.lp) _ _ K8.out.o (by have:=HM.out;omega) (by have:=HM.out;omega) (by have:=HM.out;omega)).mono ?_
   rintro e w9 ⟨rfl,own9,gr9⟩
   have K9:=hide (K8.out.kept gr9 own9)
   clear own9 gr9 d0 d1 d2 d3 m0 m1 m2 m3 m4 m5 K8 hw8
   obtain ⟨d0,d1,d2,d3⟩:=box3 K9.out.d
   have K10:=hide (K9.out.setL ((d.lp:Int) - 1))
   have hw9:=K9.out.big
   obtain ⟨_,r3,l3⟩:=K9.out.rd
   obtain ⟨_,r4,l4⟩:=K9.out.rm
   obtain ⟨p0,p1,p2,p3⟩:=cells3 r3 l3
   obtain ⟨q0,q1,q2,q3,q4,q5⟩:=cells5 r4 l4
   clear r3 l3 r4 l4
   go_wp2
   refine bodyPost_ret (v := .tuple #[.agg #[.slice (some ⟨g3,0,none⟩) (d.n+1) c3,.slice (some ⟨g5,0,none⟩) (m+4) c5,.int .i64 ((d.lp:Int) - 1)],.agg #[.int .i64 2,.int .i64 d.n,.int .i64 0,.int .i64 0,.bool false],.int .i64 0]) ?_ rfl ?_
   ·obtain ⟨e0,e1,e2,e3,e4,e5,e6,e7⟩:=RK.cells K10.out (.slice (some ⟨g3,0,none⟩) (d.n+1) c3) (.slice (some ⟨g5,0,none⟩) (m+4) c5) (.int .i64 ((d.lp:Int) - 1)) (.int .i64 2) (.int .i64 d.n) (.int .i64 0) (.int .i64 0) (.bool false)
    unfold st8 at e0 e1 e2 e3 e4 e5 e6 e7
    simp [results,Try.results53,go_sem,e0,e1,e2,e3,e4,e5,e6,e7]
   ·have K11:=RK.fin K10.out (.slice (some ⟨g3,0,none⟩) (d.n+1) c3) (.slice (some ⟨g5,0,none⟩) (m+4) c5) (.int .i64 ((d.lp:Int) - 1)) (.int .i64 2) (.int .i64 d.n) (.int .i64 0) (.int .i64 0) (.bool false)
    unfold st8 at K11
    have en:=crl_n d ((-1)) (-1) false
    refine ⟨fun h=>absurd E2.out h,fun _=>⟨some ⟨g3,0,none⟩,some ⟨g5,0,none⟩,c3,c5,?_,?_⟩,K11.bel⟩
    ·rw [en,show 4 * (d.n+1)=m+4 by have:=HM.out;omega]
     have el:((d.lp:Int) - 1)=(((crl d (-1) (-1) false).lp:Nat):Int):=by show _=((((if (-1:Int)<0 then d.lp - 1 else d.lp):Nat)):Int);rw [if_pos (by omega)];have:=HL1.out;omega
     rw [el];rfl
    ·refine own_toDg K11 rfl rfl en.symm (by rw [en];have:=HM.out;omega) rfl ?_
     rw [HMT.out]
     skip
     unfold kO0 kO1 kI0 kI1
     simp only [show (4 * (d.n:Int)).toNat=4 * d.n by omega,show (4 * (d.n:Int)+1).toNat=4 * d.n+1 by omega,show (4 * (d.n:Int)+2).toNat=4 * d.n+2 by omega,show (4 * (d.n:Int)+3).toNat=4 * d.n+3 by omega,Int.toNat_natCast]
     rfl
set_option maxRecDepth 100000 in
set_option maxHeartbeats 8000000 in
theorem rcurl_emo (d:Pl.Dg)(hd:Pl.Wf d)(base cp cq m:Nat)(A B:Option Addr)(k:Int)(x:Nat)(w:World)(hm:m=4 * d.n)(h:Own2 base w (.slice A d.n cp) (.slice B m cq) d.n m d.sg d.mt)(hx:x<4 * d.n) :
 Calls Try.prog 53 #[.agg #[.slice A d.n cp,.slice B m cq,.int .i64 d.lp],.agg #[.int .i64 k,.int .i64 (x:Int),.int .i64 0,.int .i64 (-1),.bool true]] w (RC base (curlableC d (x:Int)) (crl d (x:Int) (-1) true) ⟨2,d.n,0,0,false⟩ w):=by
 have hn:=hd.few
 have hlp:=hd.lp
 have HD:=hide hd
 have HM:=hide hm
 have K0:=hide (RK.start h d.lp (.int .i64 k) (.int .i64 (x:Int)) (.int .i64 0) (.int .i64 (-1)) (.bool true))
 unfold W4 at K0
 have t1:decide ((x:Int) < -1)=false:=by rw [decide_eq_false_iff_not];omega
 have t2:decide (4 * (d.n:Int)≤(x:Int))=false:=by simp;omega
 have t3:decide ((x:Int)<0)=false:=by simp
 have t3':decide ((0:Int)≤(x:Int))=true:=by simp
 have hle:=h.le
 have HC:=hide (show curlableC d (x:Int)=if Pl.out d x=true then fullC d.n 1 else 6 by unfold curlableC;rw [if_neg (by omega),Int.toNat_natCast])
 have HMT:=hide (crl_edM hd hx (show ((-1):Int)=1∨((-1):Int) = -1 by decide) true)
 have hmx:=hd.lt x hx
 have hxm:x<m:=by omega
 have hm4:m≤256:=by omega
 clear hm h hd
 go_enter Try.func53,Try.ntmps53
 go_wp2_with fail
 refine (rout_any d A B d.n cp m cq (.int .i64 d.lp) x _ rfl hx (by omega) (own_intsR K0.out.s)).mono ?_
 rintro e w1 ⟨rfl,hb1⟩
 have K1:=hide (K0.out.below hb1)
 have hw1:=K1.out.big
 clear hb1 K0
 obtain ⟨d0,d1,d2,d3⟩:=box3 K1.out.d
 obtain ⟨m0,m1,m2,m3,m4,m5⟩:=box5 K1.out.m
 obtain ⟨_,r3,l3⟩:=K1.out.rd
 obtain ⟨_,r4,l4⟩:=K1.out.rm
 obtain ⟨p0,p1,p2,p3⟩:=cells3 r3 l3
 obtain ⟨q0,q1,q2,q3,q4,q5⟩:=cells5 r4 l4
 clear r3 l3 r4 l4
 cases ho:Pl.out d x with
 | false =>
   have E:=hide (show curlableC d (x:Int)=6 by rw [HC.out,ho];rfl)
   clear ho
   go_wp2_with fail
   go_region
   go_wp2_with fail
   refine bodyPost_ret (v := .tuple #[.agg #[.slice A d.n cp,.slice B m cq,.int .i64 d.lp],.agg #[.int .i64 k,.int .i64 (x:Int),.int .i64 0,.int .i64 (-1),.bool true],.int .i64 6]) ?_ rfl ?_
   ·obtain ⟨e0,e1,e2,e3,e4,e5,e6,e7⟩:=RK.cells K1.out (.slice A d.n cp) (.slice B m cq) (.int .i64 d.lp) (.int .i64 k) (.int .i64 (x:Int)) (.int .i64 0) (.int .i64 (-1)) (.bool true)
    unfold st8 at e0 e1 e2 e3 e4 e5 e6 e7
    simp [results,Try.results53,go_sem,e0,e1,e2,e3,e4,e5,e6,e7]
   ·rw [E.out]
    refine rc_err (by decide) ⟨A,B,d.n,m,cp,cq,d.lp,k,(x:Int),0,(-1),true,rfl⟩ ?_
    have:=(RK.fin K1.out (.slice A d.n cp) (.slice B m cq) (.int .i64 d.lp) (.int .i64 k) (.int .i64 (x:Int)) (.int .i64 0) (.int .i64 (-1)) (.bool true)).drew.bel
    unfold st8 at this
    exact this
 | true =>
   have E:=hide (show curlableC d (x:Int)=fullC d.n 1 by rw [HC.out,ho];rfl)
   clear ho HC
   by_cases hf:64<d.n+1
   ·have t5:decide ((64:Int)<(d.n:Int)+1)=true:=by simp;omega
    have E2:=hide (show curlableC d (x:Int)=5 by rw [E.out];unfold fullC;rw [if_pos hf])
    clear hf
    go_wp2_with fail
    go_region
    go_wp2_with fail
    refine bodyPost_ret (v := .tuple #[.agg #[.slice A d.n cp,.slice B m cq,.int .i64 d.lp],.agg #[.int .i64 k,.int .i64 (x:Int),.int .i64 0,.int .i64 (-1),.bool true],.int .i64 5]) ?_ rfl ?_
    ·obtain ⟨e0,e1,e2,e3,e4,e5,e6,e7⟩:=RK.cells K1.out (.slice A d.n cp) (.slice B m cq) (.int .i64 d.lp) (.int .i64 k) (.int .i64 (x:Int)) (.int .i64 0) (.int .i64 (-1)) (.bool true)
     unfold st8 at e0 e1 e2 e3 e4 e5 e6 e7
     simp [results,Try.results53,go_sem,e0,e1,e2,e3,e4,e5,e6,e7]
    ·rw [E2.out]
     refine rc_err (by decide) ⟨A,B,d.n,m,cp,cq,d.lp,k,(x:Int),0,(-1),true,rfl⟩ ?_
     have:=(RK.fin K1.out (.slice A d.n cp) (.slice B m cq) (.int .i64 d.lp) (.int .i64 k) (.int .i64 (x:Int)) (.int .i64 0) (.int .i64 (-1)) (.bool true)).drew.bel
     unfold st8 at this
     exact this
   ·have t5:decide ((64:Int)<(d.n:Int)+1)=false:=by simp;omega
    have E2:=hide (show curlableC d (x:Int)=0 by rw [E.out];unfold fullC;rw [if_neg hf])
    clear hf p0 p1 p2 p3 q0 q1 q2 q3 q4 q5
    obtain ⟨i0,hi0,hz0,hz1,hz2⟩:=info_parts intInfo
    have A0:=hide (K1.out.alloc (.cells #[.int .i64 (-1)] 3))
    have NE0:=hide (own_row_ne A0.out.s A0.out.d (by decide))
    have hsz1:base≤(w1.alloc (.cells #[.int .i64 (-1)] 3)).heap.size:=by simp;omega
    go_upto_region 9 with (at_builtin;refine wpList_append_lies _ (by rfl) _ _ 22 (by rfl) base 3 i0 (.int .i64 0) 1 8 Try.underlying22 hi0 hz0 hz1 hz2 rfl (by omega) _ d.n _ (by rfl) A0.out.s ⟨w1.heap.size,0,none⟩ 1 1 [.int .i64 (-1)] (by rfl) (by rfl) (one_news w1 (.int .i64 (-1))) (by simp [Value.oneCell']) (by omega) (by unfold maxLen;omega) (by omega) hsz1 (w1.heap.size+1) (by simp) ?_;intro g3 c3 w3 own3 grow3 at3 lt3;have KD:=A0.out.d.grown grow3 NE0.out;obtain ⟨e0,e1,e2,e3⟩:=box3 KD;have OWN3:=hide own3;have GR3:=hide grow3;have AT3:=hide at3;clear own3 grow3 at3 KD)
    have K3:=hide (RK.appS (K1.out.alloc (.cells #[.int .i64 (-1)] 3)) (ss':=d.sg++[(-1)]) (by have:=OWN3.out;rw [List.map_append];exact this) GR3.out rfl (by have:=AT3.out;simpa using this))
    clear OWN3 GR3 AT3 d0 d1 d2 d3 m0 m1 m2 m3 m4 m5
    obtain ⟨W4,hW4⟩:∃W4:World,W4=w3.setCell ⟨w.heap.size,0,none⟩ (.slice (some ⟨g3,0,none⟩) (d.n+1) c3):=⟨_,rfl⟩
    rw [←hW4] at K3 ⊢
    clear hW4 e0 e1 e2 e3
    obtain ⟨d0,d1,d2,d3⟩:=box3 K3.out.d
    have hw4:=K3.out.big
    have A1:=hide (K3.out.alloc (.cells #[.int .i64 0,.int .i64 0,.int .i64 0,.int .i64 0] 3))
    have NE1:=hide (own_row_ne A1.out.o A1.out.d (by decide))
    have hsz2:base≤(W4.alloc (.cells #[.int .i64 0,.int .i64 0,.int .i64 0,.int .i64 0] 3)).heap.size:=by simp;omega
    go_upto_region 10 with (at_builtin;refine wpList_append_lies _ (by rfl) _ _ 22 (by rfl) base 3 i0 (.int .i64 0) 1 8 Try.underlying22 hi0 hz0 hz1 hz2 rfl (by omega) _ m _ (by rfl) A1.out.o ⟨W4.heap.size,0,none⟩ 4 4 [.int .i64 0,.int .i64 0,.int .i64 0,.int .i64 0] (by rfl) (by rfl) (four_news W4 (.int .i64 0) (.int .i64 0) (.int .i64 0) (.int .i64 0)) (by simp [Value.oneCell']) (by omega) (by unfold maxLen;omega) (by omega) hsz2 (W4.heap.size+1) (by simp) ?_;intro g5 c5 w5 own5 grow5 at5 lt5;have KD:=A1.out.d.grown grow5 NE1.out;obtain ⟨e0,e1,e2,e3⟩:=box3 KD;have OWN5:=hide own5;have GR5:=hide grow5;have AT5:=hide at5;clear own5 grow5 at5 KD)
    have K5:=hide (RK.appM (K3.out.alloc (.cells #[.int .i64 0,.int .i64 0,.int .i64 0,.int .i64 0] 3)) (l':=d.mt++[0,0,0,0]) (by have:=OWN5.out;rw [List.map_append];exact this) GR5.out rfl (by have:=AT5.out;simpa using this))
    clear OWN5 GR5 AT5 d0 d1 d2 d3
    obtain ⟨W6,hW6⟩:∃W6:World,W6=w5.setCell ⟨w.heap.size,1,none⟩ (.slice (some ⟨g5,0,none⟩) (m+4) c5):=⟨_,rfl⟩
    rw [←hW6] at K5 ⊢
    clear hW6 e0 e1 e2 e3 hw4 K3 K1 hw1
    obtain ⟨d0,d1,d2,d3⟩:=box3 K5.out.d
    obtain ⟨m0,m1,m2,m3,m4,m5⟩:=box5 K5.out.m
    go_wp2_with fail
    refine (rovers_m (some ⟨g3,0,none⟩) (some ⟨g5,0,none⟩) (d.n+1) c3 (m+4) c5 d.n (.int .i64 d.lp) (d.sg++[(-1)]) _ (own_intsR K5.out.s) (by omega) (by omega) (pv_last d.sg (-1))).mono ?_
    rintro e w7 ⟨rfl,hb7⟩
    have K7:=hide (K5.out.below hb7)
    have hw7:=K7.out.big
    clear hb7 d0 d1 d2 d3 m0 m1 m2 m3 m4 m5 K5
    obtain ⟨d0,d1,d2,d3⟩:=box3 K7.out.d
    obtain ⟨m0,m1,m2,m3,m4,m5⟩:=box5 K7.out.m
    go_wp2_with fail
    refine (rjoin_int base g5 (m+4) c5 (d.n+1) c3 (4 * (d.n:Int)+3) (4 * (d.n:Int)) (some ⟨g3,0,none⟩) (.int .i64 d.lp) (d.mt++[0,0,0,0]) _ K7.out.o (by have:=HM.out;omega) (by have:=HM.out;omega) (by have:=HM.out;omega)).mono ?_
    rintro e w8 ⟨rfl,own8,gr8⟩
    have K8:=hide (K7.out.kept gr8 own8)
    clear own8 gr8 d0 d1 d2 d3 m0 m1 m2 m3 m4 m5 K7 hw7
    have hw8:=K8.out.big
    obtain ⟨d0,d1,d2,d3⟩:=box3 K8.out.d
    obtain ⟨m0,m1,m2,m3,m4,m5⟩:=box5 K8.out.m
    have hq1:(x:Int)<((m+4:Nat):Int):=by omega
    have hq2:(0:Int)≤(x:Int):=by omega
    have cx:=OwnN.cell K8.out.o (k:=x) (by omega)
    rw [jn_ne (by have:=HM.out;omega) (by have:=HM.out;omega),mt_app HD.out hx] at cx
    obtain ⟨y,hy⟩:∃y,y=d.m x:=⟨_,rfl⟩
    rw [←hy] at cx hmx
    have HY:=hide hy
    clear hy
    go_wp2_with fail
    refine (rjoin_int base g5 (m+4) c5 (d.n+1) c3 (x:Int) (4 * (d.n:Int)+1) (some ⟨g3,0,none⟩) (.int .i64 d.lp) _ _ K8.out.o (by have:=HM.out;omega) (by have:=HM.out;omega) (by have:=HM.out;omega)).mono ?_
    rintro e w9 ⟨rfl,own9,gr9⟩
    have K9:=hide (K8.out.kept gr9 own9)
    clear own9 gr9 d0 d1 d2 d3 m0 m1 m2 m3 m4 m5 K8 hw8 cx
    obtain ⟨d0,d1,d2,d3⟩:=box3 K9.out.d
    obtain ⟨m0,m1,m2,m3,m4,m5⟩:=box5 K9.out.m
    go_wp2_with fail
    refine (rjoin_int base g5 (m+4) c5 (d.n+1) c3 (4 * (d.n:Int)+2) (y:Int) (some ⟨g3,0,none⟩) (.int .i64 d.lp) _ _ K9.out.o (by have:=HM.out;omega) (by have:=HM.out;omega) (by have:=HM.out;omega)).mono ?_
    rintro e w10 ⟨rfl,own10,gr10⟩
    have K10:=hide (K9.out.kept gr10 own10)
    clear own10 gr10 d0 d1 d2 d3 m0 m1 m2 m3 m4 m5 K9
    have hw9:=K10.out.big
    obtain ⟨d0,d1,d2,d3⟩:=box3 K10.out.d
    obtain ⟨_,r3,l3⟩:=K10.out.rd
    obtain ⟨_,r4,l4⟩:=K10.out.rm
    obtain ⟨p0,p1,p2,p3⟩:=cells3 r3 l3
    obtain ⟨q0,q1,q2,q3,q4,q5⟩:=cells5 r4 l4
    clear r3 l3 r4 l4
    go_wp2
    refine bodyPost_ret (v := .tuple #[.agg #[.slice (some ⟨g3,0,none⟩) (d.n+1) c3,.slice (some ⟨g5,0,none⟩) (m+4) c5,.int .i64 d.lp],.agg #[.int .i64 2,.int .i64 d.n,.int .i64 0,.int .i64 0,.bool false],.int .i64 0]) ?_ rfl ?_
    ·obtain ⟨e0,e1,e2,e3,e4,e5,e6,e7⟩:=RK.cells K10.out (.slice (some ⟨g3,0,none⟩) (d.n+1) c3) (.slice (some ⟨g5,0,none⟩) (m+4) c5) (.int .i64 d.lp) (.int .i64 2) (.int .i64 d.n) (.int .i64 0) (.int .i64 0) (.bool false)
     unfold st8 at e0 e1 e2 e3 e4 e5 e6 e7
     simp [results,Try.results53,go_sem,e0,e1,e2,e3,e4,e5,e6,e7]
    ·have K11:=RK.fin K10.out (.slice (some ⟨g3,0,none⟩) (d.n+1) c3) (.slice (some ⟨g5,0,none⟩) (m+4) c5) (.int .i64 d.lp) (.int .i64 2) (.int .i64 d.n) (.int .i64 0) (.int .i64 0) (.bool false)
     unfold st8 at K11
     have en:=crl_n d ((x:Int)) (-1) true
     refine ⟨fun h=>absurd E2.out h,fun _=>⟨some ⟨g3,0,none⟩,some ⟨g5,0,none⟩,c3,c5,?_,?_⟩,K11.bel⟩
     ·rw [en,show 4 * (d.n+1)=m+4 by have:=HM.out;omega]
      rfl
     ·refine own_toDg K11 rfl rfl en.symm (by rw [en];have:=HM.out;omega) rfl ?_
      rw [HMT.out]
      rw [HY.out]
      unfold kO0 kO1 kI0 kI1
      simp only [show (4 * (d.n:Int)).toNat=4 * d.n by omega,show (4 * (d.n:Int)+1).toNat=4 * d.n+1 by omega,show (4 * (d.n:Int)+2).toNat=4 * d.n+2 by omega,show (4 * (d.n:Int)+3).toNat=4 * d.n+3 by omega,Int.toNat_natCast]
      rfl
set_option maxRecDepth 100000 in
set_option maxHeartbeats 8000000 in
theorem rcurl_lmo (d:Pl.Dg)(hd:Pl.Wf d)(base cp cq m:Nat)(A B:Option Addr)(k:Int)(w:World)(hm:m=4 * d.n)(h:Own2 base w (.slice A d.n cp) (.slice B m cq) d.n m d.sg d.mt) :
 Calls Try.prog 53 #[.agg #[.slice A d.n cp,.slice B m cq,.int .i64 d.lp],.agg #[.int .i64 k,.int .i64 (-1),.int .i64 0,.int .i64 (-1),.bool true]] w (RC base (curlableC d (-1)) (crl d (-1) (-1) true) ⟨2,d.n,0,0,false⟩ w):=by
 have hn:=hd.few
 have hlp:=hd.lp
 have HD:=hide hd
 have HM:=hide hm
 have K1:=hide (RK.start h d.lp (.int .i64 k) (.int .i64 (-1)) (.int .i64 0) (.int .i64 (-1)) (.bool true))
 have BE:=hide (show Below base w ((((w.alloc (.cells #[.slice A d.n cp,.slice B m cq,.int .i64 d.lp] 24)).alloc (.cells #[.int .i64 k,.int .i64 (-1),.int .i64 0,.int .i64 (-1),.bool true] 28)).alloc (.cells #[.slice A d.n cp,.slice B m cq,.int .i64 d.lp] 24)).alloc (.cells #[.int .i64 k,.int .i64 (-1),.int .i64 0,.int .i64 (-1),.bool true] 28)).drew from (((((Below.refl w.heap.size w).alloc (Nat.le_refl _) _).alloc (by simp) _).alloc (by simp;omega) _).alloc (by simp;omega) _).drew.mono h.le)
 have t2:decide (4 * (d.n:Int) ≤ -1)=false:=by rw [decide_eq_false_iff_not];omega
 have hle:=h.le
 have HMT:=hide (crl_lpM d (-1) true)
 have hm4:m≤256:=by omega
 clear hm h hd
 by_cases hl:d.lp<1
 ·have t4:decide ((d.lp:Int)<1)=true:=by simp;omega
  have E:=hide (show curlableC d (-1)=6 by unfold curlableC;rw [if_pos (by omega),if_pos (by omega)])
  clear hl K1
  go_enter Try.func53,Try.ntmps53
  go_wp2_with fail
  go_region
  go_wp2_with fail
  refine bodyPost_ret (v := .tuple #[.agg #[.slice A d.n cp,.slice B m cq,.int .i64 d.lp],.agg #[.int .i64 k,.int .i64 (-1),.int .i64 0,.int .i64 (-1),.bool true],.int .i64 6]) (by simp [results,Try.results53,go_sem]) rfl ?_
  rw [E.out]
  exact rc_err (by decide) ⟨A,B,d.n,m,cp,cq,d.lp,k,(-1),0,(-1),true,rfl⟩ BE.out
 ·have t4:decide ((d.lp:Int)<1)=false:=by simp;omega
  have E:=hide (show curlableC d (-1)=fullC d.n 1 by unfold curlableC;rw [if_pos (by omega),if_neg (by omega)])
  have HL1:=hide (show 1≤d.lp by omega)
  clear hl
  by_cases hf:64<d.n+1
  ·have t5:decide ((64:Int)<(d.n:Int)+1)=true:=by simp;omega
   have E2:=hide (show curlableC d (-1)=5 by rw [E.out];unfold fullC;rw [if_pos hf])
   clear hf K1
   go_enter Try.func53,Try.ntmps53
   go_wp2_with fail
   go_region
   go_wp2_with fail
   refine bodyPost_ret (v := .tuple #[.agg #[.slice A d.n cp,.slice B m cq,.int .i64 d.lp],.agg #[.int .i64 k,.int .i64 (-1),.int .i64 0,.int .i64 (-1),.bool true],.int .i64 5]) (by simp [results,Try.results53,go_sem]) rfl ?_
   rw [E2.out]
   exact rc_err (by decide) ⟨A,B,d.n,m,cp,cq,d.lp,k,(-1),0,(-1),true,rfl⟩ BE.out
  ·have t5:decide ((64:Int)<(d.n:Int)+1)=false:=by simp;omega
   have E2:=hide (show curlableC d (-1)=0 by rw [E.out];unfold fullC;rw [if_neg hf])
   clear hf BE
   obtain ⟨i0,hi0,hz0,hz1,hz2⟩:=info_parts intInfo
   go_enter Try.func53,Try.ntmps53
   go_upto_region 8 with fail
   obtain ⟨w1,hw0⟩:∃w1:World,w1=W4 w (.slice A d.n cp) (.slice B m cq) (.int .i64 d.lp) (.int .i64 k) (.int .i64 (-1)) (.int .i64 0) (.int .i64 (-1)) (.bool true):=⟨_,rfl⟩
   rw [←hw0] at K1
   unfold W4 at hw0
   rw [←hw0]
   clear hw0
   have hw1:=K1.out.big
   obtain ⟨d0,d1,d2,d3⟩:=box3 K1.out.d
   obtain ⟨m0,m1,m2,m3,m4,m5⟩:=box5 K1.out.m
   have A0:=hide (K1.out.alloc (.cells #[.int .i64 (-1)] 3))
   have NE0:=hide (own_row_ne A0.out.s A0.out.d (by decide))
   have hsz1:base≤(w1.alloc (.cells #[.int .i64 (-1)] 3)).heap.size:=by simp;omega
   go_upto_region 9 with (at_builtin;refine wpList_append_lies _ (by rfl) _ _ 22 (by rfl) base 3 i0 (.int .i64 0) 1 8 Try.underlying22 hi0 hz0 hz1 hz2 rfl (by omega) _ d.n _ (by rfl) A0.out.s ⟨w1.heap.size,0,none⟩ 1 1 [.int .i64 (-1)] (by rfl) (by rfl) (one_news w1 (.int .i64 (-1))) (by simp [Value.oneCell']) (by omega) (by unfold maxLen;omega) (by omega) hsz1 (w1.heap.size+1) (by simp) ?_;intro g3 c3 w3 own3 grow3 at3 lt3;have KD:=A0.out.d.grown grow3 NE0.out;obtain ⟨e0,e1,e2,e3⟩:=box3 KD;have OWN3:=hide own3;have GR3:=hide grow3;have AT3:=hide at3;clear own3 grow3 at3 KD)
   have K3:=hide (RK.appS (K1.out.alloc (.cells #[.int .i64 (-1)] 3)) (ss':=d.sg++[(-1)]) (by have:=OWN3.out;rw [List.map_append];exact this) GR3.out rfl (by have:=AT3.out;simpa using this))
   clear OWN3 GR3 AT3 d0 d1 d2 d3 m0 m1 m2 m3 m4 m5
   obtain ⟨W4,hW4⟩:∃W4:World,W4=w3.setCell ⟨w.heap.size,0,none⟩ (.slice (some ⟨g3,0,none⟩) (d.n+1) c3):=⟨_,rfl⟩
   rw [←hW4] at K3 ⊢
   clear hW4 e0 e1 e2 e3
   obtain ⟨d0,d1,d2,d3⟩:=box3 K3.out.d
   have hw4:=K3.out.big
   have A1:=hide (K3.out.alloc (.cells #[.int .i64 0,.int .i64 0,.int .i64 0,.int .i64 0] 3))
   have NE1:=hide (own_row_ne A1.out.o A1.out.d (by decide))
   have hsz2:base≤(W4.alloc (.cells #[.int .i64 0,.int .i64 0,.int .i64 0,.int .i64 0] 3)).heap.size:=by simp;omega
   go_upto_region 10 with (at_builtin;refine wpList_append_lies _ (by rfl) _ _ 22 (by rfl) base 3 i0 (.int .i64 0) 1 8 Try.underlying22 hi0 hz0 hz1 hz2 rfl (by omega) _ m _ (by rfl) A1.out.o ⟨W4.heap.size,0,none⟩ 4 4 [.int .i64 0,.int .i64 0,.int .i64 0,.int .i64 0] (by rfl) (by rfl) (four_news W4 (.int .i64 0) (.int .i64 0) (.int .i64 0) (.int .i64 0)) (by simp [Value.oneCell']) (by omega) (by unfold maxLen;omega) (by omega) hsz2 (W4.heap.size+1) (by simp) ?_;intro g5 c5 w5 own5 grow5 at5 lt5;have KD:=A1.out.d.grown grow5 NE1.out;obtain ⟨e0,e1,e2,e3⟩:=box3 KD;have OWN5:=hide own5;have GR5:=hide grow5;have AT5:=hide at5;clear own5 grow5 at5 KD)
   have K5:=hide (RK.appM (K3.out.alloc (.cells #[.int .i64 0,.int .i64 0,.int .i64 0,.int .i64 0] 3)) (l':=d.mt++[0,0,0,0]) (by have:=OWN5.out;rw [List.map_append];exact this) GR5.out rfl (by have:=AT5.out;simpa using this))
   clear OWN5 GR5 AT5 d0 d1 d2 d3
   obtain ⟨W6,hW6⟩:∃W6:World,W6=w5.setCell ⟨w.heap.size,1,none⟩ (.slice (some ⟨g5,0,none⟩) (m+4) c5):=⟨_,rfl⟩
   rw [←hW6] at K5 ⊢
   clear hW6 e0 e1 e2 e3 hw4 K3 K1 hw1
   obtain ⟨d0,d1,d2,d3⟩:=box3 K5.out.d
   obtain ⟨m0,m1,m2,m3,m4,m5⟩:=box5 K5.out.m
   go_wp2_with fail
   refine (rovers_m (some ⟨g3,0,none⟩) (some ⟨g5,0,none⟩) (d.n+1) c3 (m+4) c5 d.n (.int .i64 d.lp) (d.sg++[(-1)]) _ (own_intsR K5.out.s) (by omega) (by omega) (pv_last d.sg (-1))).mono ?_
   rintro e w7 ⟨rfl,hb7⟩
   have K7:=hide (K5.out.below hb7)
   have hw7:=K7.out.big
   clear hb7 d0 d1 d2 d3 m0 m1 m2 m3 m4 m5 K5
   obtain ⟨d0,d1,d2,d3⟩:=box3 K7.out.d
   obtain ⟨m0,m1,m2,m3,m4,m5⟩:=box5 K7.out.m
   go_wp2_with fail
   refine (rjoin_int base g5 (m+4) c5 (d.n+1) c3 (4 * (d.n:Int)+3) (4 * (d.n:Int)) (some ⟨g3,0,none⟩) (.int .i64 d.lp) (d.mt++[0,0,0,0]) _ K7.out.o (by have:=HM.out;omega) (by have:=HM.out;omega) (by have:=HM.out;omega)).mono ?_
   rintro e w8 ⟨rfl,own8,gr8⟩
   have K8:=hide (K7.out.kept gr8 own8)
   clear own8 gr8 d0 d1 d2 d3 m0 m1 m2 m3 m4 m5 K7 hw7
   have hw8:=K8.out.big
   obtain ⟨d0,d1,d2,d3⟩:=box3 K8.out.d
   obtain ⟨m0,m1,m2,m3,m4,m5⟩:=box5 K8.out.m
   go_wp2_with fail
   refine (rjoin_int base g5 (m+4) c5 (d.n+1) c3 (4 * (d.n:Int)+2) (4 * (d.n:Int)+1) (some ⟨g3,0,none⟩) (.int .i64 d.lp) _ _ K8.out.o (by have:=HM.out;omega) (by have:=HM.out;omega) (by have:=HM.out;omega)).mono ?_
   rintro e w9 ⟨rfl,own9,gr9⟩
   have K9:=hide (K8.out.kept gr9 own9)
   clear own9 gr9 d0 d1 d2 d3 m0 m1 m2 m3 m4 m5 K8 hw8
   obtain ⟨d0,d1,d2,d3⟩:=box3 K9.out.d
   have K10:=hide (K9.out.setL ((d.lp:Int) - 1))
   have hw9:=K9.out.big
   obtain ⟨_,r3,l3⟩:=K9.out.rd
   obtain ⟨_,r4,l4⟩:=K9.out.rm
   obtain ⟨p0,p1,p2,p3⟩:=cells3 r3 l3
   obtain ⟨q0,q1,q2,q3,q4,q5⟩:=cells5 r4 l4
   clear r3 l3 r4 l4
   go_wp2
   refine bodyPost_ret (v := .tuple #[.agg #[.slice (some ⟨g3,0,none⟩) (d.n+1) c3,.slice (some ⟨g5,0,none⟩) (m+4) c5,.int .i64 ((d.lp:Int) - 1)],.agg #[.int .i64 2,.int .i64 d.n,.int .i64 0,.int .i64 0,.bool false],.int .i64 0]) ?_ rfl ?_
   ·obtain ⟨e0,e1,e2,e3,e4,e5,e6,e7⟩:=RK.cells K10.out (.slice (some ⟨g3,0,none⟩) (d.n+1) c3) (.slice (some ⟨g5,0,none⟩) (m+4) c5) (.int .i64 ((d.lp:Int) - 1)) (.int .i64 2) (.int .i64 d.n) (.int .i64 0) (.int .i64 0) (.bool false)
    unfold st8 at e0 e1 e2 e3 e4 e5 e6 e7
    simp [results,Try.results53,go_sem,e0,e1,e2,e3,e4,e5,e6,e7]
   ·have K11:=RK.fin K10.out (.slice (some ⟨g3,0,none⟩) (d.n+1) c3) (.slice (some ⟨g5,0,none⟩) (m+4) c5) (.int .i64 ((d.lp:Int) - 1)) (.int .i64 2) (.int .i64 d.n) (.int .i64 0) (.int .i64 0) (.bool false)
    unfold st8 at K11
    have en:=crl_n d ((-1)) (-1) true
    refine ⟨fun h=>absurd E2.out h,fun _=>⟨some ⟨g3,0,none⟩,some ⟨g5,0,none⟩,c3,c5,?_,?_⟩,K11.bel⟩
    ·rw [en,show 4 * (d.n+1)=m+4 by have:=HM.out;omega]
     have el:((d.lp:Int) - 1)=(((crl d (-1) (-1) true).lp:Nat):Int):=by show _=((((if (-1:Int)<0 then d.lp - 1 else d.lp):Nat)):Int);rw [if_pos (by omega)];have:=HL1.out;omega
     rw [el];rfl
    ·refine own_toDg K11 rfl rfl en.symm (by rw [en];have:=HM.out;omega) rfl ?_
     rw [HMT.out]
     skip
     unfold kO0 kO1 kI0 kI1
     simp only [show (4 * (d.n:Int)).toNat=4 * d.n by omega,show (4 * (d.n:Int)+1).toNat=4 * d.n+1 by omega,show (4 * (d.n:Int)+2).toNat=4 * d.n+2 by omega,show (4 * (d.n:Int)+3).toNat=4 * d.n+3 by omega,Int.toNat_natCast]
     rfl
end Go.Proofs.Ytobbepmlmbbamaa
end
