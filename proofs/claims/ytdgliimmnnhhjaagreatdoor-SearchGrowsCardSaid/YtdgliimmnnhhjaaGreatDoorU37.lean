/-
  The texts Vc.
-/
import Derived.Test.YtdgliimmnnhhjaaGreatDoorU17
import Derived.Test.YtdgliimmnnhhjaaGreatDoorU35
set_option linter.unusedVariables false
set_option linter.unusedSimpArgs false
section
namespace Go.Proofs.YtdgliimmnnhhjaaGreatDoor
open Go Go.RowKit
attribute [local go_sem ↓] Go.wp_at_zero Go.wp_at_succ
def BestAt (w:World)(v:Value)(k:Nat):Option (List Int)→Prop
 | none=>v = .slice none 0 0
 | some bl=>∃b o c,v = .slice (some ⟨b,o,none⟩) bl.length c∧IntsAt w (some ⟨b,o,none⟩) bl.length bl∧bl.length=k∧bl.length≤c
def NumPost (d:Pl.Dg)(r:Nat)(best:Option (List Int))(w:World)(e:Ending)(w':World):Prop :=
 (0<Pl.vall best (Pl.code d r)→e = .returned (.tuple #[.slice none 0 0,.slice none 0 0,.int .i64 1])) ∧
 (¬0<Pl.vall best (Pl.code d r)→∃vC vO,e = .returned (.tuple #[vC,vO,.int .i64 (Pl.vall best (Pl.code d r))])∧w'.ownsRow w.heap.size 3 1 vC (Pl.code d r).length ((Pl.code d r).map (.int .i64))∧w'.ownsRow w.heap.size 3 1 vO (Pl.ord d r).length ((Pl.ord d r).map (fun k:Nat=>Value.int .i64 k))) ∧
 Below w.heap.size w w'
theorem nums_cell {W:World}{g n b:Nat}{o:List Nat}(h:IRow W g (Pl.nums n o))(hb:b<n):W.cell? ⟨g,b,none⟩=some (.int .i64 (if b ∈ o then ((o.idxOf b:Nat):Int) else -1)):=by
 rw [h.cell (i:=b) (by rw [Pl.nums_len];exact hb)]
 unfold Pl.pv
 rw [List.getD_eq_getElem?_getD,Pl.nums_get _ hb]
 rfl
theorem one_newsG {g:Nat}(W:World)(x:Value)(h:g=W.heap.size):∀j u,[x][j]? = some u→(W.alloc (.cells #[x] 3)).cell? ((⟨g,0,none⟩:Addr).add j)=some u:=by
 subst h
 exact one_news W x
theorem own_cap {W:World}{base n c:Nat}{e:TypeId}{A:Option Addr}{xs:List Value}(h:W.ownsRow base e 1 (.slice A n c) n xs):n≤c:=by
 rcases h.2 with ⟨h1,h2⟩ | ⟨g,cap,cur,h1,_,_,h4,_⟩
 ·omega
 ·injection h1 with _ _ h1
  omega
theorem eq_nil (W:World):(binOp BinOp.eql 22 (.slice none 0 0) (.slice none 0 0)).run Tryz.prog W = .ok (.bool true) W:=by kernel_rfl
theorem eq_some (W:World)(a:Addr)(n c:Nat):(binOp BinOp.eql 22 (.slice (some a) n c) (.slice none 0 0)).run Tryz.prog W = .ok (.bool false) W:=by kernel_rfl
set_option maxRecDepth 100000 in
set_option maxHeartbeats 8000000 in
theorem number_any (d:Pl.Dg)(hd:Pl.Wf d)(A B:Option Addr)(cp cq m r:Nat)(vB:Value)(best:Option (List Int))(w:World)(hm:m=4 * d.n)(hg:DgAt w A B d)(hr:r<d.n)(hb:BestAt w vB (Pl.code d r).length best) :
 Calls Tryz.prog 50 #[.agg #[.slice A d.n cp,.slice B m cq,.int .i64 d.lp],.int .i64 (r:Int),vB] w (NumPost d r best w):=by
 have hn:=hd.few
 have HM:=hide hm
 have HG:=hide hg
 have HB:=hide hb
 have HD:=hide hd
 have HOL:=hide (Pl.ord_len hd hr)
 clear hm hg hb
 have X0:=hide (row_at (W:=w) (g:=w.heap.size) (t:=24) (vs:=[.slice A d.n cp,.slice B m cq,.int .i64 d.lp]) rfl)
 have B0:=hide (show Below w.heap.size w (w.alloc (.cells #[.slice A d.n cp,.slice B m cq,.int .i64 d.lp] 24)) from (Below.refl _ _).alloc (Nat.le_refl _) _)
 have hmk:=fun W:World=>run_ints d.n (by omega) W
 obtain ⟨d0,d1,d2,d3⟩:=box3 X0.out
 have Y0:=hide (show Row ((w.alloc (.cells #[.slice A d.n cp,.slice B m cq,.int .i64 d.lp] 24)).alloc (.cells (Array.replicate d.n (Value.int .i64 0)) 3)) w.heap.size 24 [.slice A d.n cp,.slice B m cq,.int .i64 d.lp]∧IRow ((w.alloc (.cells #[.slice A d.n cp,.slice B m cq,.int .i64 d.lp] 24)).alloc (.cells (Array.replicate d.n (Value.int .i64 0)) 3)) (w.heap.size+1) (List.replicate 0 (-1)++List.replicate (d.n - 0) 0)∧Below w.heap.size w ((w.alloc (.cells #[.slice A d.n cp,.slice B m cq,.int .i64 d.lp] 24)).alloc (.cells (Array.replicate d.n (Value.int .i64 0)) 3)) from by
  refine ⟨X0.out.alloc _,?_,B0.out.alloc B0.out.size _⟩
  have h:=IRow.made (w.alloc (.cells #[.slice A d.n cp,.slice B m cq,.int .i64 d.lp] 24)) d.n
  simpa using h)
 go_enter Tryz.func50,Tryz.ntmps50
 go_wp2
 clear hmk d0 d1 d2 d3 X0 B0
 go_loopg [10,24] d.n (fun g s10 i wx=>∃k:Nat,k+g=d.n∧i = .int .i64 k∧Row wx w.heap.size 24 [.slice A d.n cp,.slice B m cq,.int .i64 d.lp]∧IRow wx (w.heap.size+1) (List.replicate k (-1)++List.replicate (d.n - k) 0)∧Below w.heap.size w wx)
 case atStart=>exact ⟨0,by omega,rfl,Y0.out.1,Y0.out.2.1,Y0.out.2.2⟩
 case round =>
  clear Y0
  obtain ⟨k,hkg,rfl,h1,h2,h3⟩:=hrel
  have HKG:=hide hkg
  have H1:=hide h1
  have H2:=hide h2
  have H3:=hide h3
  clear h1 h2 h3
  by_cases hk:k<d.n
  ·have hki:(k:Int)<(d.n:Int):=by omega
   have k0:(0:Int)≤(k:Int):=by omega
   have c1:=H2.out.cell (i:=k) (by simp;omega)
   have f1:=Row.free H2.out k
   have hl:=Row.lt H2.out
   clear hkg
   go_wp2
   go_roundg (gk - 1)
   case measure=>have:=HKG.out;omega
   case rel =>
    refine ⟨k+1,by have:=HKG.out;omega,by go_num,H1.out.other (by show _≠w.heap.size+1;omega) _,?_,H3.out.setCell (by show _≤w.heap.size+1;omega) _⟩
    have:=H2.out.set k (-1)
    rw [rep_step k d.n hk] at this
    exact this
  ·have hki:¬((k:Int)<(d.n:Int)):=by omega
   have hkn:k=d.n:=by omega
   subst hkn
   clear hkg HKG
   have hl:=Row.lt H2.out
   have K1:=hide (show NK w [.slice A d.n cp,.slice B m cq,.int .i64 d.lp] (.slice (some ⟨wr.heap.size,0,none⟩) 1 1) (.slice none 0 0) (Pl.nums d.n [r]) [r] [] ((wr.setCell ⟨w.heap.size+1,r,none⟩ (.int .i64 0)).alloc (.cells #[.int .i64 (r:Int)] 3)) from by
    have hs:(wr.setCell ⟨w.heap.size+1,r,none⟩ (.int .i64 0)).heap.size=wr.heap.size:=by simp
    refine ⟨(H1.out.other (by show _≠w.heap.size+1;omega) _).alloc _,?_,?_,World.ownsRow_nil _ _ _ _,fun k hk=>by simp [Value.ownBlock],(H3.out.setCell (by show _≤w.heap.size+1;omega) _).alloc (by rw [hs];exact H3.out.size) _⟩
    ·have h:=H2.out.set r 0
     rw [Nat.sub_self,List.replicate_zero,List.append_nil,←Pl.nums_one hr] at h
     exact Row.alloc h _
    ·have h:=own_one (wr.setCell ⟨w.heap.size+1,r,none⟩ (.int .i64 0)) (.int .i64 (r:Int))
     rw [hs] at h
     exact ⟨h.1,h.2.imp id (fun ⟨g,cap,cur,r1,r2,r3⟩=>⟨g,cap,cur,r1,by omega,r3⟩)⟩)
   have r0:(0:Int)≤(r:Int):=by omega
   have r1:(r:Int)<(d.n:Int):=by omega
   have c1:=IRow.cell H2.out (i:=r) (by simp;omega)
   have f1:=Row.free H2.out r
   clear H1 H2 H3
   go_upto_region 11 with fail
   obtain ⟨V,hV⟩:∃V,V=(wr.setCell ⟨w.heap.size+1,r,none⟩ (.int .i64 0)).alloc (.cells #[.int .i64 (r:Int)] 3):=⟨_,rfl⟩
   obtain ⟨g0,hg0⟩:∃g,g=wr.heap.size:=⟨_,rfl⟩
   rw [←hV,←hg0] at K1 ⊢
   clear hV hg0 c1 f1 r0 r1 hl
   obtain ⟨L,hL⟩:∃L,L=(Pl.ord d r).length:=⟨_,rfl⟩
   have HL:=hide hL
   have hLn:L≤d.n:=by rw [hL];exact HOL.out
   have HCL:=hide (show (Pl.code d r).length=5 * L by rw [hL];exact Pl.code_len r)
   clear hL
   have hsp:(best=none∧vB = .slice none 0 0∧Pl.vdt best (Pl.code d r) 0 = -1)∨(∃b o n c,vB = .slice (some ⟨b,o,none⟩) n c∧Pl.vdt best (Pl.code d r) 0=0):=by
    cases best with
    | none=>exact .inl ⟨rfl,HB.out,rfl⟩
    | some bl =>
      obtain ⟨b,o,c,e,_⟩:=HB.out
      exact .inr ⟨b,o,_,c,e,by simp [Pl.vdt,Pl.lx]⟩
   rcases hsp with ⟨hb0,rfl,hv0⟩ | ⟨bb,bo,bn,bc,rfl,hv0⟩
   all_goals
    have HV0:=hide hv0
    clear hv0
   ·have hq:=eq_nil
    have HB0:=hide hb0
    clear hb0
    go_wp2_with fail
    clear hq
    go_loopg [11,12,13,14,15,16,17,56] L (fun g s11 s12 s13 s14 s15 s16 s17 s56 wx=>∃(i:Nat) (v:Int),i+g=L∧s14 = .int .i64 (i:Int)∧s13 = .int .i64 v∧v=Pl.vdt best (Pl.code d r) (5 * i)∧v≤0∧NK w [.slice A d.n cp,.slice B m cq,.int .i64 d.lp] s11 s12 (Pl.nums d.n (Pl.ordK d r i)) (Pl.ordK d r i) ((Pl.code d r).take (5 * i)) wx)
    case atStart=>exact ⟨0,_,by omega,rfl,rfl,HV0.out.symm,by omega,K1.out⟩
    case round =>
     clear K1 HV0
     obtain ⟨i,v,hig,rfl,rfl,hv,hv0,hk⟩:=hrel
     have HIG:=hide hig
     have HV:=hide hv
     have hiL:i≤L:=by omega
     obtain ⟨o,ho⟩:∃o,o=Pl.ordK d r i:=⟨_,rfl⟩
     obtain ⟨cs,hcs⟩:∃cs,cs=(Pl.code d r).take (5 * i):=⟨_,rfl⟩
     rw [←ho,←hcs] at hk
     have K0:=hide hk
     have HO:=hide ho
     have HCS:=hide hcs
     have hl5:o.length≤64:=by rw [ho];have:=(Pl.ordK_ok HD.out hr i).len;omega
     have hl6:cs.length≤320:=by rw [hcs,List.length_take];omega
     clear hk hv ho hcs
     obtain ⟨go,rfl⟩:∃go,go=gk:=⟨_,rfl⟩
     obtain ⟨A5,c5,rfl⟩:=owns_slice K0.out.o
     obtain ⟨A6,c6,rfl⟩:=owns_slice K0.out.c
     by_cases hi:i<L
     ·have hil:i<o.length:=by rw [HO.out];exact Pl.order_lt (by omega) (by rw [←HL.out];exact hi)
      have hki:(i:Int)<((o.length:Nat):Int):=by omega
      have k0:(0:Int)≤(i:Int):=by omega
      obtain ⟨c,hc⟩:∃c,o[i]? = some c:=⟨_,List.getElem?_eq_getElem hil⟩
      have HC:=hide (show (Pl.ordK d r i)[i]? = some c by rw [←HO.out];exact hc)
      have hcn:c<d.n:=((Pl.ordK_ok HD.out hr i).mem c (List.mem_of_getElem? HC.out)).1
      have HS:=hide (Pl.code_sgn (Pl.pre_get (Pl.ordK_ord r (by omega)) HC.out))
      have hO:IntsAt wr A5 o.length (nats o):=own_ints' (by rw [map_nats];exact K0.out.o)
      obtain ⟨b5,o5,rfl,x5⟩:=nats_at hO hil
      have hcg:o.getD i 0=c:=by rw [List.getD_eq_getElem?_getD,hc];rfl
      rw [hcg] at x5
      obtain ⟨b1,o1,rfl,x1⟩:=sign_at (HG.out.keep K0.out.bel).s hcn
      obtain ⟨d0,d1,d2,d3⟩:=box3 K0.out.d
      have c0:(0:Int)≤(c:Int):=by omega
      have c1:(c:Int)<(d.n:Int):=by omega
      clear hc hO hcg hig
      obtain ⟨i0,hi0,hz0,hz1,hz2⟩:=info_parts intInfo
      obtain ⟨sv,hsv⟩:∃x,x=d.s c:=⟨_,rfl⟩
      rw [←hsv] at x1
      have HSV:=hide hsv
      clear hsv
      have KA:=hide (K0.out.alloc (.cells #[.int .i64 sv] 3))
      go_upto_region 18 with (at_builtin;refine wpList_append_lies _ (by rfl) _ _ 22 (by rfl) (w.heap.size+2) 3 i0 (.int .i64 0) 1 8 Tryz.underlying22 hi0 hz0 hz1 hz2 rfl (by omega) _ cs.length _ (by rfl) KA.out.c ⟨wr.heap.size,0,none⟩ 1 1 [.int .i64 sv] (by rfl) (by rfl) (one_news _ _) (by simp [Value.oneCell']) (by omega) (by unfold maxLen;omega) (by omega) KA.out.big (wr.heap.size+1) (by simp) ?_;intro g3 c3 w3 own3 grow3 at3 lt3;have OWN3:=hide own3;have GR3:=hide grow3;have AT3:=hide at3;clear own3 grow3 at3)
      have KB:=hide (show NK w [.slice (some ⟨b1,o1,none⟩) d.n cp,.slice B m cq,.int .i64 d.lp] (.slice (some ⟨b5,o5,none⟩) o.length c5) (.slice (some ⟨g3,0,none⟩) (cs.length+1) c3) (Pl.nums d.n o) o ((Pl.code d r).take (5 * i+1)) w3 from by
       rw [Pl.take_one HS.out,←HCS.out,←HSV.out]
       exact KA.out.appC (by rw [List.map_append];exact OWN3.out) GR3.out (by simpa using AT3.out))
      clear KA OWN3 GR3 AT3 K0 x5 x1 d0 d1 d2 d3 hki k0 hil
      go_wp2_with fail
      go_loopg [11,12,16,17,56] 4 (fun g s11 s12 s16 s17 s56 wx=>∃s:Nat,s+g=4∧s56 = .int .i64 (s:Int)∧NK w [.slice (some ⟨b1,o1,none⟩) d.n cp,.slice B m cq,.int .i64 d.lp] s11 s12 (Pl.nums d.n (Pl.addS d o c s)) (Pl.addS d o c s) ((Pl.code d r).take (5 * i+1+s)) wx)
      case atStart=>exact ⟨0,rfl,rfl,KB.out⟩
      case round =>
       clear KB
       obtain ⟨s,hsg,rfl,hk⟩:=hrel
       have HSG:=hide hsg
       obtain ⟨q,hq⟩:∃q,q=Pl.addS d o c s:=⟨_,rfl⟩
       obtain ⟨cs,hcs⟩:∃cs,cs=(Pl.code d r).take (5 * i+1+s):=⟨_,rfl⟩
       rw [←hq,←hcs] at hk
       have K0:=hide hk
       have HQ:=hide hq
       have HCS:=hide hcs
       have hs4:s≤4:=by omega
       have hl5:q.length≤64:=by
        have h:=(Pl.add_ord (d:=d) (r:=r) (i:=i) (s:=s) (by omega) HC.out hs4).length_le
        have:=HOL.out
        rw [hq,HO.out]
        omega
       have hl6:cs.length≤330:=by rw [hcs,List.length_take];omega
       clear hk hq hcs
       obtain ⟨A5,c5,rfl⟩:=owns_slice K0.out.o
       obtain ⟨A6,c6,rfl⟩:=owns_slice K0.out.c
       obtain ⟨gi,rfl⟩:∃gi,gi=gk:=⟨_,rfl⟩
       by_cases hs:s<4
       ·have hsi:(s:Int)<4:=by omega
        have s0:(0:Int)≤(s:Int):=by omega
        have hh:4 * c+s<4 * d.n:=by omega
        have hlt:=HD.out.lt (4 * c+s) hh
        have HX:=hide (Pl.code_step (d:=d) (r:=r) (i:=i) (c:=c) (s:=s) (by omega) HC.out hs)
        rw [←HO.out] at HX
        obtain ⟨b2,o2,rfl,x2⟩:=mate_at (d:=d) (by rw [←HM.out];have:=(HG.out.keep K0.out.bel).m;rwa [←HM.out] at this) hh
        have hmm:m=4 * d.n:=HM.out
        have i2:(4:Int) * (c:Int)+(s:Int)<(m:Int):=by omega
        clear hmm
        obtain ⟨u,hu⟩:∃u,u=d.m (4 * c+s):=⟨_,rfl⟩
        rw [←hu] at x2 hlt
        obtain ⟨b,hb⟩:∃b,b=u / 4:=⟨_,rfl⟩
        obtain ⟨t,ht⟩:∃t,t=u % 4:=⟨_,rfl⟩
        have hbn:b<d.n:=by omega
        have ht4:t<4:=by omega
        have q1:(u:Int).tdiv 4=(b:Int):=by rw [hb];rfl
        have q2:(u:Int).tmod 4=(t:Int):=by rw [ht];rfl
        have q3:(u:Int) / 4=(b:Int):=by omega
        have q4:(u:Int) % 4=(t:Int):=by omega
        have HBB:=hide (show Pl.nb d c s=b by unfold Pl.nb;rw [←hu,hb])
        have HT:=hide (show d.m (4 * c+s) % 4=t by rw [←hu,ht])
        clear hu hb ht hh hsg
        obtain ⟨d0,d1,d2,d3⟩:=box3 K0.out.d
        have bi0:(0:Int)≤(b:Int):=by omega
        have bi1:(b:Int)<(d.n:Int):=by omega
        have hnc:=nums_cell K0.out.nu hbn
        have hl0:w.heap.size+1<wr.heap.size:=Row.lt K0.out.nu
        by_cases hbq:b ∈ q
        ·have HBQ:=hide hbq
         rw [if_pos hbq] at hnc
         obtain ⟨j,hj⟩:∃j,j=q.idxOf b:=⟨_,rfl⟩
         rw [←hj] at hnc
         have hjl:j<64:=by rw [hj];have:=List.idxOf_lt_length_of_mem hbq;omega
         have HJ:=hide hj
         clear hbq hj
         have j0:¬((j:Int)<0):=by omega
         have KA:=hide (K0.out.alloc (.cells #[.int .i64 (4 * (j:Int)+(t:Int))] 3))
         go_wp2_with (first | (at_builtin;refine wpList_append_lies _ (by rfl) _ _ 22 (by rfl) (w.heap.size+2) 3 i0 (.int .i64 0) 1 8 Tryz.underlying22 hi0 hz0 hz1 hz2 rfl (by omega) _ cs.length _ (by rfl) KA.out.c ⟨wr.heap.size,0,none⟩ 1 1 [.int .i64 (4 * (j:Int)+(t:Int))] (by rfl) (by rfl) (one_news _ _) (by simp [Value.oneCell']) (by omega) (by unfold maxLen;omega) (by omega) KA.out.big (wr.heap.size+1) (by simp) ?_;intro g3 c3 w3 own3 grow3 at3 lt3;have OWN3:=hide own3;have GR3:=hide grow3;have AT3:=hide at3;clear own3 grow3 at3))
         go_roundg (gi - 1)
         case measure=>have:=HSG.out;omega
         case rel =>
          refine ⟨s+1,by have:=HSG.out;omega,by go_num,?_⟩
          have e1:Pl.addS d o c (s+1)=q:=by
           show Pl.addN (Pl.addS d o c s) (Pl.nb d c s)=q
           rw [←HQ.out,HBB.out]
           unfold Pl.addN
           rw [if_pos HBQ.out]
          have e2:(Pl.code d r).take (5 * i+1+(s+1))=cs++[4 * (j:Int)+(t:Int)]:=by
           have hx:=HX.out
           rw [e1,HBB.out,HT.out,←HJ.out] at hx
           rw [show 5 * i+1+(s+1)=5 * i+1+s+1 by omega,Pl.take_one hx,←HCS.out]
           congr 2
          rw [e1,e2]
          exact KA.out.appC (by rw [List.map_append];exact OWN3.out) GR3.out (by simpa using AT3.out)
        ·have HBQ:=hide hbq
         rw [if_neg hbq] at hnc
         have f1:=Row.free K0.out.nu b
         have K1:=hide (K0.out.setN b (q.length:Int))
         rw [←Pl.nums_add hbn hbq] at K1
         have KA:=hide (K1.out.alloc (.cells #[.int .i64 (b:Int)] 3))
         clear hbq
         go_upto_region 25 with (at_builtin;refine wpList_append_lies _ (by rfl) _ _ 22 (by rfl) (w.heap.size+2) 3 i0 (.int .i64 0) 1 8 Tryz.underlying22 hi0 hz0 hz1 hz2 rfl (by omega) _ q.length _ (by rfl) KA.out.o ⟨wr.heap.size,0,none⟩ 1 1 [.int .i64 (b:Int)] (by rfl) (by rfl) (one_newsG _ _ (by simp)) (by simp [Value.oneCell']) (by omega) (by unfold maxLen;omega) (by omega) KA.out.big (wr.heap.size+1) (by simp) ?_;intro g3 c3 w3 own3 grow3 at3 lt3;have OWN3:=hide own3;have GR3:=hide grow3;have AT3:=hide at3;clear own3 grow3 at3)
         have KB:=hide (KA.out.appO (o':=q++[b]) (by rw [List.map_append];exact OWN3.out) GR3.out (by simpa using AT3.out))
         clear KA K1 K0 OWN3 GR3 AT3 hnc f1 d0 d1 d2 d3 x2
         have hnc:=nums_cell KB.out.nu hbn
         have hin:b ∈ q++[b]:=by simp
         have hix:(q++[b]).idxOf b=q.length:=by rw [List.idxOf_append,if_neg HBQ.out];simp
         rw [if_pos hin,hix] at hnc
         clear hin
         have HIX:=hide hix
         clear hix
         have KC:=hide (KB.out.alloc (.cells #[.int .i64 (4 * (q.length:Int)+(t:Int))] 3))
         go_wp2_with (at_builtin;refine wpList_append_lies _ (by rfl) _ _ 22 (by rfl) (w.heap.size+2) 3 i0 (.int .i64 0) 1 8 Tryz.underlying22 hi0 hz0 hz1 hz2 rfl (by omega) _ cs.length _ (by rfl) KC.out.c ⟨w3.heap.size,0,none⟩ 1 1 [.int .i64 (4 * (q.length:Int)+(t:Int))] (by rfl) (by rfl) (one_news _ _) (by simp [Value.oneCell']) (by omega) (by unfold maxLen;omega) (by omega) KC.out.big (w3.heap.size+1) (by simp) ?_;intro g4 c4 w4 own3 grow3 at3 lt4;have OWN3:=hide own3;have GR3:=hide grow3;have AT3:=hide at3;clear own3 grow3 at3)
         go_roundg (gi - 1)
         case measure=>have:=HSG.out;omega
         case rel =>
          refine ⟨s+1,by have:=HSG.out;omega,by go_num,?_⟩
          have e1:Pl.addS d o c (s+1)=q++[b]:=by
           show Pl.addN (Pl.addS d o c s) (Pl.nb d c s)=q++[b]
           rw [←HQ.out,HBB.out]
           unfold Pl.addN
           rw [if_neg HBQ.out]
          have e2:(Pl.code d r).take (5 * i+1+(s+1))=cs++[4 * (q.length:Int)+(t:Int)]:=by
           have hx:=HX.out
           rw [e1,HBB.out,HT.out,HIX.out] at hx
           rw [show 5 * i+1+(s+1)=5 * i+1+s+1 by omega,Pl.take_one hx,←HCS.out]
           congr 2
          rw [e1,e2]
          exact KC.out.appC (by rw [List.map_append];exact OWN3.out) GR3.out (by simpa using AT3.out)
       ·have hsi:¬((s:Int)<4):=by omega
        have hs5:s=4:=by omega
        have K5:=hide (show NK w [.slice (some ⟨b1,o1,none⟩) d.n cp,.slice B m cq,.int .i64 d.lp] (.slice A5 q.length c5) (.slice A6 cs.length c6) (Pl.nums d.n (Pl.ordK d r (i+1))) (Pl.ordK d r (i+1)) ((Pl.code d r).take (5 * (i+1))) wr from by
         rw [Pl.ordK_some HC.out,←HO.out,←hs5,←HQ.out,show 5 * (i+1)=5 * i+1+s by omega,←HCS.out]
         exact K0.out)
        clear hs5
        have hvm:v = -1:=by rw [HV.out,HB0.out];rfl
        have HVN:=hide (show (-1:Int)=Pl.vdt best (Pl.code d r) (5 * (i+1)) by rw [HB0.out];rfl)
        subst hvm
        clear hsg
        go_wp2
        go_roundg (go - 1)
        case measure=>have:=HIG.out;omega
        case rel=>exact ⟨i+1,-1,by have:=HIG.out;omega,by go_num,rfl,HVN.out,by omega,K5.out⟩
     ·have hki : ¬ ((i : Int) < ((o.length : Nat) : Int)) := by
       have h1:=(Pl.ordK_ord (d:=d) r (k:=i) (by omega)).length_le
       have h2:=HL.out
       rw [HO.out]
       omega
      have hiL2:i=L:=by omega
      have HE:=hide (show o=Pl.ord d r∧cs=Pl.code d r by
       have h1:=(Pl.ordK_ord (d:=d) r (k:=i) (by omega)).length_le
       have h2:=HL.out
       rw [HO.out,HCS.out]
       exact ⟨Pl.ord_eq (by omega) (by omega),List.take_of_length_le (by rw [HCL.out];omega)⟩)
      have HVE:=hide (show v=Pl.vall best (Pl.code d r) by
       rw [HV.out]
       refine (Pl.vdt_all (by rw [HCL.out];omega) (fun b e=>?_))
       have h:=HB.out
       rw [e] at h
       obtain ⟨_,_,_,_,_,h3,_⟩:=h
       rw [h3,HCL.out];omega)
      clear hig hiL2
      go_wp2
      refine bodyPost_ret (v := .tuple #[.slice A6 cs.length c6,.slice A5 o.length c5,.int .i64 v]) ?_ rfl ⟨fun h=>?_,fun _=>⟨_,_,by rw [←HVE.out],?_,?_⟩,K0.out.bel⟩
      ·simp [results,Tryz.results50,go_sem]
      ·rw [←HVE.out] at h;omega
      ·have h:=K0.out.c
       rw [HE.out.2] at h
       rw [HE.out.2]
       exact own_base h (by omega)
      ·have h:=K0.out.o
       rw [HE.out.1] at h
       rw [HE.out.1]
       exact own_base h (by omega)
   ·have hq:=fun W=>eq_some W ⟨bb,bo,none⟩ bn bc
    go_wp2_with fail
    clear hq
    go_loopg [11,12,13,14,15,16,17,56] L (fun g s11 s12 s13 s14 s15 s16 s17 s56 wx=>∃(i:Nat) (v:Int),i+g=L∧s14 = .int .i64 (i:Int)∧s13 = .int .i64 v∧v=Pl.vdt best (Pl.code d r) (5 * i)∧v≤0∧NK w [.slice A d.n cp,.slice B m cq,.int .i64 d.lp] s11 s12 (Pl.nums d.n (Pl.ordK d r i)) (Pl.ordK d r i) ((Pl.code d r).take (5 * i)) wx)
    case atStart=>exact ⟨0,_,by omega,rfl,rfl,HV0.out.symm,by omega,K1.out⟩
    case round =>
     clear K1 HV0
     obtain ⟨i,v,hig,rfl,rfl,hv,hv0,hk⟩:=hrel
     have HIG:=hide hig
     have HV:=hide hv
     have hiL:i≤L:=by omega
     obtain ⟨o,ho⟩:∃o,o=Pl.ordK d r i:=⟨_,rfl⟩
     obtain ⟨cs,hcs⟩:∃cs,cs=(Pl.code d r).take (5 * i):=⟨_,rfl⟩
     rw [←ho,←hcs] at hk
     have K0:=hide hk
     have HO:=hide ho
     have HCS:=hide hcs
     have hl5:o.length≤64:=by rw [ho];have:=(Pl.ordK_ok HD.out hr i).len;omega
     have hl6:cs.length≤320:=by rw [hcs,List.length_take];omega
     clear hk hv ho hcs
     obtain ⟨go,rfl⟩:∃go,go=gk:=⟨_,rfl⟩
     obtain ⟨A5,c5,rfl⟩:=owns_slice K0.out.o
     obtain ⟨A6,c6,rfl⟩:=owns_slice K0.out.c
     by_cases hi:i<L
     ·have hil:i<o.length:=by rw [HO.out];exact Pl.order_lt (by omega) (by rw [←HL.out];exact hi)
      have hki:(i:Int)<((o.length:Nat):Int):=by omega
      have k0:(0:Int)≤(i:Int):=by omega
      obtain ⟨c,hc⟩:∃c,o[i]? = some c:=⟨_,List.getElem?_eq_getElem hil⟩
      have HC:=hide (show (Pl.ordK d r i)[i]? = some c by rw [←HO.out];exact hc)
      have hcn:c<d.n:=((Pl.ordK_ok HD.out hr i).mem c (List.mem_of_getElem? HC.out)).1
      have HS:=hide (Pl.code_sgn (Pl.pre_get (Pl.ordK_ord r (by omega)) HC.out))
      have hO:IntsAt wr A5 o.length (nats o):=own_ints' (by rw [map_nats];exact K0.out.o)
      obtain ⟨b5,o5,rfl,x5⟩:=nats_at hO hil
      have hcg:o.getD i 0=c:=by rw [List.getD_eq_getElem?_getD,hc];rfl
      rw [hcg] at x5
      obtain ⟨b1,o1,rfl,x1⟩:=sign_at (HG.out.keep K0.out.bel).s hcn
      obtain ⟨d0,d1,d2,d3⟩:=box3 K0.out.d
      have c0:(0:Int)≤(c:Int):=by omega
      have c1:(c:Int)<(d.n:Int):=by omega
      clear hc hO hcg hig
      obtain ⟨i0,hi0,hz0,hz1,hz2⟩:=info_parts intInfo
      obtain ⟨sv,hsv⟩:∃x,x=d.s c:=⟨_,rfl⟩
      rw [←hsv] at x1
      have HSV:=hide hsv
      clear hsv
      have KA:=hide (K0.out.alloc (.cells #[.int .i64 sv] 3))
      go_upto_region 18 with (at_builtin;refine wpList_append_lies _ (by rfl) _ _ 22 (by rfl) (w.heap.size+2) 3 i0 (.int .i64 0) 1 8 Tryz.underlying22 hi0 hz0 hz1 hz2 rfl (by omega) _ cs.length _ (by rfl) KA.out.c ⟨wr.heap.size,0,none⟩ 1 1 [.int .i64 sv] (by rfl) (by rfl) (one_news _ _) (by simp [Value.oneCell']) (by omega) (by unfold maxLen;omega) (by omega) KA.out.big (wr.heap.size+1) (by simp) ?_;intro g3 c3 w3 own3 grow3 at3 lt3;have OWN3:=hide own3;have GR3:=hide grow3;have AT3:=hide at3;clear own3 grow3 at3)
      have KB:=hide (show NK w [.slice (some ⟨b1,o1,none⟩) d.n cp,.slice B m cq,.int .i64 d.lp] (.slice (some ⟨b5,o5,none⟩) o.length c5) (.slice (some ⟨g3,0,none⟩) (cs.length+1) c3) (Pl.nums d.n o) o ((Pl.code d r).take (5 * i+1)) w3 from by
       rw [Pl.take_one HS.out,←HCS.out,←HSV.out]
       exact KA.out.appC (by rw [List.map_append];exact OWN3.out) GR3.out (by simpa using AT3.out))
      clear KA OWN3 GR3 AT3 K0 x5 x1 d0 d1 d2 d3 hki k0 hil
      go_wp2_with fail
      go_loopg [11,12,16,17,56] 4 (fun g s11 s12 s16 s17 s56 wx=>∃s:Nat,s+g=4∧s56 = .int .i64 (s:Int)∧NK w [.slice (some ⟨b1,o1,none⟩) d.n cp,.slice B m cq,.int .i64 d.lp] s11 s12 (Pl.nums d.n (Pl.addS d o c s)) (Pl.addS d o c s) ((Pl.code d r).take (5 * i+1+s)) wx)
      case atStart=>exact ⟨0,rfl,rfl,KB.out⟩
      case round =>
       clear KB
       obtain ⟨s,hsg,rfl,hk⟩:=hrel
       have HSG:=hide hsg
       obtain ⟨q,hq⟩:∃q,q=Pl.addS d o c s:=⟨_,rfl⟩
       obtain ⟨cs,hcs⟩:∃cs,cs=(Pl.code d r).take (5 * i+1+s):=⟨_,rfl⟩
       rw [←hq,←hcs] at hk
       have K0:=hide hk
       have HQ:=hide hq
       have HCS:=hide hcs
       have hs4:s≤4:=by omega
       have hl5:q.length≤64:=by
        have h:=(Pl.add_ord (d:=d) (r:=r) (i:=i) (s:=s) (by omega) HC.out hs4).length_le
        have:=HOL.out
        rw [hq,HO.out]
        omega
       have hl6:cs.length≤330:=by rw [hcs,List.length_take];omega
       clear hk hq hcs
       obtain ⟨A5,c5,rfl⟩:=owns_slice K0.out.o
       obtain ⟨A6,c6,rfl⟩:=owns_slice K0.out.c
       obtain ⟨gi,rfl⟩:∃gi,gi=gk:=⟨_,rfl⟩
       by_cases hs:s<4
       ·have hsi:(s:Int)<4:=by omega
        have s0:(0:Int)≤(s:Int):=by omega
        have hh:4 * c+s<4 * d.n:=by omega
        have hlt:=HD.out.lt (4 * c+s) hh
        have HX:=hide (Pl.code_step (d:=d) (r:=r) (i:=i) (c:=c) (s:=s) (by omega) HC.out hs)
        rw [←HO.out] at HX
        obtain ⟨b2,o2,rfl,x2⟩:=mate_at (d:=d) (by rw [←HM.out];have:=(HG.out.keep K0.out.bel).m;rwa [←HM.out] at this) hh
        have hmm:m=4 * d.n:=HM.out
        have i2:(4:Int) * (c:Int)+(s:Int)<(m:Int):=by omega
        clear hmm
        obtain ⟨u,hu⟩:∃u,u=d.m (4 * c+s):=⟨_,rfl⟩
        rw [←hu] at x2 hlt
        obtain ⟨b,hb⟩:∃b,b=u / 4:=⟨_,rfl⟩
        obtain ⟨t,ht⟩:∃t,t=u % 4:=⟨_,rfl⟩
        have hbn:b<d.n:=by omega
        have ht4:t<4:=by omega
        have q1:(u:Int).tdiv 4=(b:Int):=by rw [hb];rfl
        have q2:(u:Int).tmod 4=(t:Int):=by rw [ht];rfl
        have q3:(u:Int) / 4=(b:Int):=by omega
        have q4:(u:Int) % 4=(t:Int):=by omega
        have HBB:=hide (show Pl.nb d c s=b by unfold Pl.nb;rw [←hu,hb])
        have HT:=hide (show d.m (4 * c+s) % 4=t by rw [←hu,ht])
        clear hu hb ht hh hsg
        obtain ⟨d0,d1,d2,d3⟩:=box3 K0.out.d
        have bi0:(0:Int)≤(b:Int):=by omega
        have bi1:(b:Int)<(d.n:Int):=by omega
        have hnc:=nums_cell K0.out.nu hbn
        have hl0:w.heap.size+1<wr.heap.size:=Row.lt K0.out.nu
        by_cases hbq:b ∈ q
        ·have HBQ:=hide hbq
         rw [if_pos hbq] at hnc
         obtain ⟨j,hj⟩:∃j,j=q.idxOf b:=⟨_,rfl⟩
         rw [←hj] at hnc
         have hjl:j<64:=by rw [hj];have:=List.idxOf_lt_length_of_mem hbq;omega
         have HJ:=hide hj
         clear hbq hj
         have j0:¬((j:Int)<0):=by omega
         have KA:=hide (K0.out.alloc (.cells #[.int .i64 (4 * (j:Int)+(t:Int))] 3))
         go_wp2_with (first | (at_builtin;refine wpList_append_lies _ (by rfl) _ _ 22 (by rfl) (w.heap.size+2) 3 i0 (.int .i64 0) 1 8 Tryz.underlying22 hi0 hz0 hz1 hz2 rfl (by omega) _ cs.length _ (by rfl) KA.out.c ⟨wr.heap.size,0,none⟩ 1 1 [.int .i64 (4 * (j:Int)+(t:Int))] (by rfl) (by rfl) (one_news _ _) (by simp [Value.oneCell']) (by omega) (by unfold maxLen;omega) (by omega) KA.out.big (wr.heap.size+1) (by simp) ?_;intro g3 c3 w3 own3 grow3 at3 lt3;have OWN3:=hide own3;have GR3:=hide grow3;have AT3:=hide at3;clear own3 grow3 at3))
         go_roundg (gi - 1)
         case measure=>have:=HSG.out;omega
         case rel =>
          refine ⟨s+1,by have:=HSG.out;omega,by go_num,?_⟩
          have e1:Pl.addS d o c (s+1)=q:=by
           show Pl.addN (Pl.addS d o c s) (Pl.nb d c s)=q
           rw [←HQ.out,HBB.out]
           unfold Pl.addN
           rw [if_pos HBQ.out]
          have e2:(Pl.code d r).take (5 * i+1+(s+1))=cs++[4 * (j:Int)+(t:Int)]:=by
           have hx:=HX.out
           rw [e1,HBB.out,HT.out,←HJ.out] at hx
           rw [show 5 * i+1+(s+1)=5 * i+1+s+1 by omega,Pl.take_one hx,←HCS.out]
           congr 2
          rw [e1,e2]
          exact KA.out.appC (by rw [List.map_append];exact OWN3.out) GR3.out (by simpa using AT3.out)
        ·have HBQ:=hide hbq
         rw [if_neg hbq] at hnc
         have f1:=Row.free K0.out.nu b
         have K1:=hide (K0.out.setN b (q.length:Int))
         rw [←Pl.nums_add hbn hbq] at K1
         have KA:=hide (K1.out.alloc (.cells #[.int .i64 (b:Int)] 3))
         clear hbq
         go_upto_region 25 with (at_builtin;refine wpList_append_lies _ (by rfl) _ _ 22 (by rfl) (w.heap.size+2) 3 i0 (.int .i64 0) 1 8 Tryz.underlying22 hi0 hz0 hz1 hz2 rfl (by omega) _ q.length _ (by rfl) KA.out.o ⟨wr.heap.size,0,none⟩ 1 1 [.int .i64 (b:Int)] (by rfl) (by rfl) (one_newsG _ _ (by simp)) (by simp [Value.oneCell']) (by omega) (by unfold maxLen;omega) (by omega) KA.out.big (wr.heap.size+1) (by simp) ?_;intro g3 c3 w3 own3 grow3 at3 lt3;have OWN3:=hide own3;have GR3:=hide grow3;have AT3:=hide at3;clear own3 grow3 at3)
         have KB:=hide (KA.out.appO (o':=q++[b]) (by rw [List.map_append];exact OWN3.out) GR3.out (by simpa using AT3.out))
         clear KA K1 K0 OWN3 GR3 AT3 hnc f1 d0 d1 d2 d3 x2
         have hnc:=nums_cell KB.out.nu hbn
         have hin:b ∈ q++[b]:=by simp
         have hix:(q++[b]).idxOf b=q.length:=by rw [List.idxOf_append,if_neg HBQ.out];simp
         rw [if_pos hin,hix] at hnc
         clear hin
         have HIX:=hide hix
         clear hix
         have KC:=hide (KB.out.alloc (.cells #[.int .i64 (4 * (q.length:Int)+(t:Int))] 3))
         go_wp2_with (at_builtin;refine wpList_append_lies _ (by rfl) _ _ 22 (by rfl) (w.heap.size+2) 3 i0 (.int .i64 0) 1 8 Tryz.underlying22 hi0 hz0 hz1 hz2 rfl (by omega) _ cs.length _ (by rfl) KC.out.c ⟨w3.heap.size,0,none⟩ 1 1 [.int .i64 (4 * (q.length:Int)+(t:Int))] (by rfl) (by rfl) (one_news _ _) (by simp [Value.oneCell']) (by omega) (by unfold maxLen;omega) (by omega) KC.out.big (w3.heap.size+1) (by simp) ?_;intro g4 c4 w4 own3 grow3 at3 lt4;have OWN3:=hide own3;have GR3:=hide grow3;have AT3:=hide at3;clear own3 grow3 at3)
         go_roundg (gi - 1)
         case measure=>have:=HSG.out;omega
         case rel =>
          refine ⟨s+1,by have:=HSG.out;omega,by go_num,?_⟩
          have e1:Pl.addS d o c (s+1)=q++[b]:=by
           show Pl.addN (Pl.addS d o c s) (Pl.nb d c s)=q++[b]
           rw [←HQ.out,HBB.out]
           unfold Pl.addN
           rw [if_neg HBQ.out]
          have e2:(Pl.code d r).take (5 * i+1+(s+1))=cs++[4 * (q.length:Int)+(t:Int)]:=by
           have hx:=HX.out
           rw [e1,HBB.out,HT.out,HIX.out] at hx
           rw [show 5 * i+1+(s+1)=5 * i+1+s+1 by omega,Pl.take_one hx,←HCS.out]
           congr 2
          rw [e1,e2]
          exact KC.out.appC (by rw [List.map_append];exact OWN3.out) GR3.out (by simpa using AT3.out)
       ·have hsi:¬((s:Int)<4):=by omega
        have hs5:s=4:=by omega
        have K5:=hide (show NK w [.slice (some ⟨b1,o1,none⟩) d.n cp,.slice B m cq,.int .i64 d.lp] (.slice A5 q.length c5) (.slice A6 cs.length c6) (Pl.nums d.n (Pl.ordK d r (i+1))) (Pl.ordK d r (i+1)) ((Pl.code d r).take (5 * (i+1))) wr from by
         rw [Pl.ordK_some HC.out,←HO.out,←hs5,←HQ.out,show 5 * (i+1)=5 * i+1+s by omega,←HCS.out]
         exact K0.out)
        clear hs5
        have hbs:∃bl,best=some bl∧IntsAt w (some ⟨bb,bo,none⟩) bn bl∧bn=5 * L∧bl.length=5 * L∧bn≤bc:=by
         have h:=HB.out
         cases best with
         | none=>exact absurd (show Value.slice (some ⟨bb,bo,none⟩) bn bc = .slice none 0 0 from h) (by simp)
         | some bl =>
           obtain ⟨b',o',c',e,h2,h3,h4⟩:=h
           injection e with e1 e2 e3
           rw [←e1,←e2] at h2
           exact ⟨bl,rfl,h2,by rw [e2,h3,HCL.out],by rw [h3,HCL.out],by omega⟩
        obtain ⟨bl,hbe,hbl,hb5,hb6,hbc⟩:=hbs
        have hs4':s=4:=by omega
        have hcd:cs.drop (5 * i)=((Pl.code d r).drop (5 * i)).take 5:=by
         rw [HCS.out,List.drop_take,hs4']
         congr 1
         omega
        have hcl:cs.length=5 * i+5:=by rw [HCS.out,List.length_take,HCL.out,hs4'];omega
        have HSTEP:=hide (show Pl.vdt best (Pl.code d r) (5 * (i+1))=if v=0 then Pl.lx (cs.drop (5 * i)) ((bl.drop (5 * i)).take 5) else v by
         rw [HV.out,hbe,hcd,show 5 * (i+1)=5 * i+5 by omega]
         exact Pl.vdt_step (by rw [HCL.out];omega) (by omega))
        by_cases hvz:v=0
        ·obtain ⟨C1,hc1,hr1⟩:=cut_hi (own_ints' K0.out.c) (k:=5 * i) (by omega) (own_cap K0.out.c)
         obtain ⟨C2,k2,hc2,hr2⟩:=cut_mid (hbl.keep K0.out.bel) (k:=5 * i) (by omega) hbc
         have e1:((5 * i:Nat):Int)=5 * (i:Int):=by omega
         have e2:((5 * i+5:Nat):Int)=5 * (i:Int)+5:=by omega
         rw [e1] at hr1 hr2
         rw [e2] at hr2
         have hq1:cs.length - 5 * i≤1000000:=by omega
         have hq2:5≤1000000:=by omega
         have HST:=hide (show Pl.vdt best (Pl.code d r) (5 * (i+1))=Pl.lx (cs.drop (5 * i)) ((bl.drop (5 * i)).take 5) by rw [HSTEP.out,if_pos hvz])
         have HKP:=hide (show Pl.vdt best (Pl.code d r) (5 * (i+1))≠0→Pl.vall best (Pl.code d r)=Pl.vdt best (Pl.code d r) (5 * (i+1)) from by
          intro h
          rw [hbe] at h ⊢
          exact Pl.vdt_keep (by rw [HCL.out,hb6]) h)
         obtain ⟨ys,hys⟩:∃ys,ys=(bl.drop (5 * i)).take 5:=⟨_,rfl⟩
         obtain ⟨xs,hxs⟩:∃xs,xs=cs.drop (5 * i):=⟨_,rfl⟩
         rw [←hys] at hc2 HST
         rw [←hxs] at hc1 HST
         have HC1:=hide hc1
         have HC2:=hide hc2
         subst hvz
         clear hys hxs hbe hbl hb5 hb6 hbc hs4' hcd hcl HSTEP e1 e2 hsg hc1 hc2
         by_cases hx0:(0:Int)<Pl.lx xs ys
         ·go_upto_region 28 with fail
          go_quiet ((go_at_call 53;exact Calls.quiet_of_same (compare_any xs ys _ _ _ _ _ _ _ (show IntsAt _ _ _ _ from HC1.out) (show IntsAt _ _ _ _ from HC2.out) hq1 hq2)))
          go_wp2
          refine bodyPost_ret (v := .tuple #[.slice none 0 0,.slice none 0 0,.int .i64 1]) ?_ rfl ⟨fun _=>rfl,fun h=>absurd ?_ h,below_drewN K0.out.bel _⟩
          ·simp [results,Tryz.results50,go_sem]
          ·rw [HKP.out (by rw [HST.out];omega),HST.out];exact hx0
         ·have hx1:Pl.lx xs ys≤0:=by omega
          go_upto_region 28 with fail
          go_quiet ((go_at_call 53;exact Calls.quiet_of_same (compare_any xs ys _ _ _ _ _ _ _ (show IntsAt _ _ _ _ from HC1.out) (show IntsAt _ _ _ _ from HC2.out) hq1 hq2)))
          go_wp2
          go_roundg (go - 1)
          case measure=>have:=HIG.out;omega
          case rel=>exact ⟨i+1,Pl.lx xs ys,by have:=HIG.out;omega,by go_num,rfl,HST.out.symm,hx1,K5.out.below (below_drewN (Below.refl _ _) _)⟩
        ·have HST:=hide (show v=Pl.vdt best (Pl.code d r) (5 * (i+1)) by rw [HSTEP.out,if_neg hvz])
         have hvb:(v == 0)=false:=by simpa using hvz
         have hvn:¬(0<v):=by omega
         clear hbe hbl hb5 hb6 hbc hs4' hcd hcl HSTEP hsg
         go_wp2
         go_roundg (go - 1)
         case measure=>have:=HIG.out;omega
         case rel=>exact ⟨i+1,v,by have:=HIG.out;omega,by go_num,rfl,HST.out,hv0,K5.out⟩
     ·have hki : ¬ ((i : Int) < ((o.length : Nat) : Int)) := by
       have h1:=(Pl.ordK_ord (d:=d) r (k:=i) (by omega)).length_le
       have h2:=HL.out
       rw [HO.out]
       omega
      have hiL2:i=L:=by omega
      have HE:=hide (show o=Pl.ord d r∧cs=Pl.code d r by
       have h1:=(Pl.ordK_ord (d:=d) r (k:=i) (by omega)).length_le
       have h2:=HL.out
       rw [HO.out,HCS.out]
       exact ⟨Pl.ord_eq (by omega) (by omega),List.take_of_length_le (by rw [HCL.out];omega)⟩)
      have HVE:=hide (show v=Pl.vall best (Pl.code d r) by
       rw [HV.out]
       refine (Pl.vdt_all (by rw [HCL.out];omega) (fun b e=>?_))
       have h:=HB.out
       rw [e] at h
       obtain ⟨_,_,_,_,_,h3,_⟩:=h
       rw [h3,HCL.out];omega)
      clear hig hiL2
      go_wp2
      refine bodyPost_ret (v := .tuple #[.slice A6 cs.length c6,.slice A5 o.length c5,.int .i64 v]) ?_ rfl ⟨fun h=>?_,fun _=>⟨_,_,by rw [←HVE.out],?_,?_⟩,K0.out.bel⟩
      ·simp [results,Tryz.results50,go_sem]
      ·rw [←HVE.out] at h;omega
      ·have h:=K0.out.c
       rw [HE.out.2] at h
       rw [HE.out.2]
       exact own_base h (by omega)
      ·have h:=K0.out.o
       rw [HE.out.1] at h
       rw [HE.out.1]
       exact own_base h (by omega)
end Go.Proofs.YtdgliimmnnhhjaaGreatDoor
end
