/-
 The texts Wn, Xj, Xo, Xp, Wq, Wz, Xb, Xc, Wv, Wi, Sgn, Pke, Yd.
-/
import Derived.Test.YtghdiolnonejaaaGreatDoorShelf
import Derived.Test.YtghdiolnonejaaaGreatDoorS03
set_option linter.unusedVariables false
set_option linter.unusedSimpArgs false
section
namespace Go.Proofs.YtghdiolnonejaaaGreatDoor
open Go Go.RowKit
attribute [local go_sem ↓] Go.wp_at_zero Go.wp_at_succ
theorem below8 {w W:World} (h:Below w.heap.size w W) (y0 y1 y2 z0 z1 z2 z3 z4:Value) :
 Below w.heap.size w ((((((((W.setCell ⟨w.heap.size + 1 + 1,0,none⟩ y0).setCell ⟨w.heap.size + 1 + 1,1,none⟩ y1).setCell ⟨w.heap.size + 1 + 1,2,none⟩ y2).setCell ⟨w.heap.size + 1 + 1 + 1,0,none⟩ z0).setCell ⟨w.heap.size + 1 + 1 + 1,1,none⟩ z1).setCell ⟨w.heap.size + 1 + 1 + 1,2,none⟩ z2).setCell ⟨w.heap.size + 1 + 1 + 1,3,none⟩ z3).setCell ⟨w.heap.size + 1 + 1 + 1,4,none⟩ z4) :=
 (((((((h.setCell (by show _ ≤ w.heap.size + 1 + 1; omega) _).setCell (by show _ ≤ w.heap.size + 1 + 1; omega) _).setCell (by show _ ≤ w.heap.size + 1 + 1; omega) _).setCell (by show _ ≤ w.heap.size + 1 + 1 + 1; omega) _).setCell (by show _ ≤ w.heap.size + 1 + 1 + 1; omega) _).setCell (by show _ ≤ w.heap.size + 1 + 1 + 1; omega) _).setCell (by show _ ≤ w.heap.size + 1 + 1 + 1; omega) _).setCell (by show _ ≤ w.heap.size + 1 + 1 + 1; omega) _
theorem one_ints (W:World) (c:Nat):IntsAt (W.alloc (.cells #[.int .i64 (c:Int)] 3)).drew (some ⟨W.heap.size,0,none⟩) 1 (nats [c]) := by
 refine IntsAt.drew ⟨rfl,fun _ => ⟨_,0,rfl,fun j u hu => ?_⟩⟩
 match j,hu with
 | 0,hu => simp [nats] at hu; subst hu; exact (Lib.cell_of_heap (heap_alloc_new W _) 0).trans rfl
theorem one_ints' (W:World) (c:Nat) {g:Nat} (h:g = W.heap.size):IntsAt (W.alloc (.cells #[.int .i64 (c:Int)] 3)) (some ⟨g,0,none⟩) 1 (nats [c]) := by
 subst h
 exact one_ints W c
theorem OwnN.alloc {w:World} {base g n c:Nat} {l:List Nat} (h:OwnN w base g n c l) (o:Obj):OwnN (w.alloc o) base g n c l := World.ownsRow.alloc h o
theorem OwnN.caps {w:World} {base g n c:Nat} {l:List Nat} (h:OwnN w base g n c l):n ≤ c ∧ c ≤ maxLen := by
 rcases h.2 with ⟨h1,h2⟩ | ⟨g',cap,cur,h1,_,_,h4,h5,_⟩
 ·injection h1 with h1; injection h1
 ·injection h1 with _ _ h3
  subst h3
  exact ⟨h4,h5⟩
theorem own8 {w W:World} {base:Nat} {v:Value} {n:Nat} {xs:List Value} (h:W.ownsRow base 3 1 v n xs) (hb:w.heap.size + 1 + 1 + 1 < base) (y0 y1 y2 z0 z1 z2 z3 z4:Value) :
 ((((((((W.setCell ⟨w.heap.size + 1 + 1,0,none⟩ y0).setCell ⟨w.heap.size + 1 + 1,1,none⟩ y1).setCell ⟨w.heap.size + 1 + 1,2,none⟩ y2).setCell ⟨w.heap.size + 1 + 1 + 1,0,none⟩ z0).setCell ⟨w.heap.size + 1 + 1 + 1,1,none⟩ z1).setCell ⟨w.heap.size + 1 + 1 + 1,2,none⟩ z2).setCell ⟨w.heap.size + 1 + 1 + 1,3,none⟩ z3).setCell ⟨w.heap.size + 1 + 1 + 1,4,none⟩ z4).ownsRow base 3 1 v n xs :=
 ownsRow_setCell_below (ownsRow_setCell_below (ownsRow_setCell_below (ownsRow_setCell_below (ownsRow_setCell_below (ownsRow_setCell_below (ownsRow_setCell_below (ownsRow_setCell_below h (by show w.heap.size + 1 + 1 < base; omega) _) (by show w.heap.size + 1 + 1 < base; omega) _) (by show w.heap.size + 1 + 1 < base; omega) _) (by show w.heap.size + 1 + 1 + 1 < base; omega) _) (by show w.heap.size + 1 + 1 + 1 < base; omega) _) (by show w.heap.size + 1 + 1 + 1 < base; omega) _) (by show w.heap.size + 1 + 1 + 1 < base; omega) _) (by show w.heap.size + 1 + 1 + 1 < base; omega) _
theorem closed_yes (base g n cap a b:Nat) (l:List Nat) (w:World) (h:OwnN w base g n cap l) (ha:a < n) (hb:b < n) (hn:n ≤ 100000) (hl:∀ k,k < n → l.getD k 0 < n) (hy:l.getD a 0 = b) :
 Calls Tryz.prog 77 #[.slice (some ⟨g,0,none⟩) n cap,.int .i64 (a:Int),.int .i64 (b:Int)] w fun e w' => e = .returned (.int .i64 1) ∧ OwnN w' base g n cap l ∧ w.grownBy w' (some g) := by
 refine (closed_any base g n cap a b l w h ha hb hn hl).mono ?_
 rintro e w' ⟨h1,h2,h3⟩
 rw [if_pos hy] at h1 h2
 exact ⟨h1,h2,h3⟩
theorem closed_no (base g n cap a b:Nat) (l:List Nat) (w:World) (h:OwnN w base g n cap l) (ha:a < n) (hb:b < n) (hn:n ≤ 100000) (hl:∀ k,k < n → l.getD k 0 < n) (hy:¬ l.getD a 0 = b) :
 Calls Tryz.prog 77 #[.slice (some ⟨g,0,none⟩) n cap,.int .i64 (a:Int),.int .i64 (b:Int)] w fun e w' => e = .returned (.int .i64 0) ∧ OwnN w' base g n cap (jn l (l.getD a 0) (l.getD b 0)) ∧ w.grownBy w' (some g) := by
 refine (closed_any base g n cap a b l w h ha hb hn hl).mono ?_
 rintro e w' ⟨h1,h2,h3⟩
 rw [if_neg hy] at h1 h2
 exact ⟨h1,h2,h3⟩
set_option maxRecDepth 100000 in
set_option maxHeartbeats 4000000 in
theorem uncurl_any (d:Pl.Dg) (hd:Pl.Wf d) (A B:Option Addr) (cp cq c:Nat) (k y sg:Int) (ov:Bool) (w:World) (hg:DgAt w A B d) (hc:c < d.n) :
 Calls Tryz.prog 47 #[.agg #[.slice A d.n cp,.slice B (4 * d.n) cq,.int .i64 d.lp],.agg #[.int .i64 k,.int .i64 (c:Int),.int .i64 y,.int .i64 sg,.bool ov]] w (UncPost d c w) := by
 have hn:=hd.few
 have hlp:=hd.lp
 obtain ⟨m,hm⟩:∃ m,m = 4 * d.n := ⟨_,rfl⟩
 have HG:=hide hg
 clear hg
 rw [← hm]
 have HM:=hide hm
 clear hm
 obtain ⟨x0,x1,x2,x3,b0,s0⟩:=boxes4 w (.slice A d.n cp) (.slice B m cq) (.int .i64 d.lp) (.int .i64 k) (.int .i64 (c:Int)) (.int .i64 y) (.int .i64 sg) (.bool ov)
 unfold W4 at x0 x1 x2 x3 b0 s0
 have X0:=hide x0
 have X1:=hide x1
 have X2:=hide x2
 have X3:=hide x3
 have B0:=hide b0
 have S0:=hide s0
 clear x0 x1 x2 x3 b0 s0
 go_enter Tryz.func47,Tryz.ntmps47
 go_wp2_with fail
 refine (kink_any d hd A B cp cq m c _ HM.out (HG.out.keep B0.out) hc).mono ?_
 rintro e w1 ⟨rfl,hb1⟩
 have Y0:=hide (X0.out.below hb1)
 have Y1:=hide (X1.out.below hb1)
 have Y2:=hide (X2.out.below hb1)
 have Y3:=hide (X3.out.below hb1)
 have B1:=hide (B0.out.trans (hb1.mono B0.out.size))
 have hsz:w.heap.size + 4 ≤ w1.heap.size:=by have := hb1.size; have := S0.out; omega
 clear X0 X1 X2 X3 B0 S0 hb1
 obtain ⟨f0,f1,f2,f3⟩:=box3 Y0.out
 obtain ⟨m0,m1,m2,m3,m4,m5⟩:=box5 Y1.out
 obtain ⟨p0,p1,p2,p3⟩:=box3 Y2.out
 obtain ⟨q0,q1,q2,q3,q4,q5⟩:=box5 Y3.out
 by_cases hK:d.m (kk d c) / 4 = c
 ·rw [Pl.vb_true (show isK d c from hK)]
  unfold kinkE
  rw [if_pos rfl]
  have HK:=hide hK
  clear hK
  have ha1:=kA_lt (d := d) hc
  have hb1:=kB_lt hd hc
  unfold kA at ha1
  unfold kB at hb1
  obtain ⟨a,ha⟩:∃ a,a = Pl.tn (kk d c) 2 := ⟨_,rfl⟩
  obtain ⟨b,hb⟩:∃ b,b = Pl.tn (d.m (kk d c)) 2 := ⟨_,rfl⟩
  rw [← ha,← hb]
  rw [← ha] at ha1
  rw [← hb] at hb1
  have HA:=hide (show a = kA d c from ha)
  have HB:=hide (show b = kB d c from hb)
  clear ha hb
  have hml:d.mt.length = m:=by have := hd.len; have := HM.out; omega
  have HML:=hide hml
  have ham:a < m:=by have := HM.out; omega
  have hbm:b < m:=by have := HM.out; omega
  have hm1:0 < m:=by omega
  have hm2:m ≤ 256:=by have := HM.out; omega
  have HLT:=hide (show ∀ k,k < m → d.mt.getD k 0 < m from fun k hk => by
   rw [getD_m (by rw [HML.out]; exact hk)]
   have:=hd.lt k (by have := HM.out; omega)
   have:=HM.out
   omega)
  have HGA:=hide (show d.mt.getD a 0 = d.m a from getD_m (by rw [HML.out]; exact ham))
  have HGM:=hide (show IntsAt w1 B m (nats d.mt) by rw [HM.out]; exact (HG.out.keep B1.out).m)
  clear hml
  obtain ⟨i0,hi0,hz0,hz1,hz2⟩:=info_parts intInfo
  go_wp2_with (at_builtin; refine wpList_append_ints _ rfl _ _ 22 rfl w1.heap.size 3 i0 (.int .i64 0) 8 Tryz.underlying22 hi0 hz0 hz1 hz2 rfl (.slice none 0 0) 0 [] (by rfl) (World.ownsRow_nil _ _ _ _) B m cq (nats d.mt) (by rfl) HGM.out (by unfold maxLen; omega) (by omega) (Nat.le_refl _) ?_; intro v2 w2 own2 grow2)
  simp only [Nat.zero_add,List.nil_append] at own2
  obtain ⟨A2,c2,rfl⟩:=owns_slice own2
  obtain ⟨g2,rfl,lo2,hi2⟩:=owns_pos hm1 own2
  have OWN2:=hide (show OwnN w2 w1.heap.size g2 m c2 d.mt by unfold OwnN; rw [← map_nats]; exact own2)
  have GR2:=hide grow2
  clear own2 grow2
  have Z0:=hide (Y0.out.grown GR2.out (by simp [Value.ownBlock]))
  have Z1:=hide (Y1.out.grown GR2.out (by simp [Value.ownBlock]))
  have Z2:=hide (Y2.out.grown GR2.out (by simp [Value.ownBlock]))
  have Z3:=hide (Y3.out.grown GR2.out (by simp [Value.ownBlock]))
  have B2:=hide (B1.out.grown GR2.out B1.out.size (fun k hk => by simp [Value.ownBlock] at hk))
  have hs2:=GR2.out.size
  clear f0 f1 f2 f3 m0 m1 m2 m3 m4 m5 p0 p1 p2 p3 q0 q1 q2 q3 q4 q5 Y0 Y1 Y2 Y3
  have HG2:=hide (HG.out.keep B2.out)
  by_cases hcl:d.m a = b
  ·have HC:=hide (show d.mt.getD a 0 = b by rw [HGA.out]; exact hcl)
   have HCL:=hide hcl
   clear hcl
   obtain ⟨f0,f1,f2,f3⟩:=box3 Z0.out
   have hwr:IntKind.i64.wrap ((d.lp:Int) + 1) = (d.lp:Int) + 1:=IntWalk.i64_in _ (by omega)
   go_region_held3 (fun w' => w'.cell? ⟨w.heap.size,2,none⟩ = some (.int .i64 (d.lp:Int))) (first | go_keep | assumption)
    (first
      | (go_at_call 77
         refine Calls.mono (closed_yes w1.heap.size g2 m c2 a b d.mt _ ?_ ham hbm (by omega) HLT.out HC.out) ?_
         ·exact OwnN.drew' rfl OWN2.out
         rintro e w3 ⟨rfl,own3,gr3⟩
         obtain ⟨_,_,h2,_⟩:=box3 ((Z0.out.drew).grown gr3 (by intro h; injection h; omega))
         have OWN3:=hide own3
         have GR3:=hide gr3
         clear own3 gr3))
   clear hwr f0 f1 f2 f3 h2
   have V0:=hide ((Z0.out.drew).grown GR3.out (by intro h; injection h; omega))
   have V1:=hide ((Z1.out.drew).grown GR3.out (by intro h; injection h; omega))
   have V2:=hide ((Z2.out.drew).grown GR3.out (by intro h; injection h; omega))
   have V3:=hide ((Z3.out.drew).grown GR3.out (by intro h; injection h; omega))
   have B3:=hide ((B2.out.drew).grown GR3.out (B2.out.drew).size (fun k hk => by injection hk with hk; omega))
   have hs3:w.heap.size + 4 ≤ w3.heap.size:=by have := GR3.out.size; have:w2.drew.heap.size = w2.heap.size := rfl; omega
   have l1:w.heap.size < w3.heap.size:=by omega
   have l2:w.heap.size + 1 < w3.heap.size:=by omega
   have l3:w.heap.size + 1 + 1 < w3.heap.size:=by omega
   have l4:w.heap.size + 1 + 1 + 1 < w3.heap.size:=by omega
   obtain ⟨f0,f1,f2,f3⟩:=box3 V0.out
   obtain ⟨m0,m1,m2,m3,m4,m5⟩:=box5 V1.out
   obtain ⟨p0,p1,p2,p3⟩:=box3 V2.out
   obtain ⟨q0,q1,q2,q3,q4,q5⟩:=box5 V3.out
   by_cases hfull:64 < d.lp + 1
   ·have hfu:(64:Int) < (d.lp:Int) + 1:=by omega
    go_wp2
    refine bodyPost_ret (v := .tuple #[nilD,nilM,.int .i64 5]) ?_ rfl ?_
    ·obtain ⟨e0,e1,e2,e3,e4,e5,e6,e7⟩:=fin8 V2.out V3.out rfl rfl (by omega) (.slice none 0 0) (.slice none 0 0) (.int .i64 0) (.int .i64 0) (.int .i64 0) (.int .i64 0) (.int .i64 0) (.bool false)
     unfold nilD nilM
     simp [results,Tryz.results47,go_sem,e0,e1,e2,e3,e4,e5,e6,e7]
    ·have e6:uncC d c = 5:=by unfold uncC; rw [if_pos HK.out,← HA.out,← HB.out,if_pos HCL.out,if_pos hfull]
     refine ⟨fun _ => by rw [e6]; exact rfl,fun h => absurd h (by rw [e6]; decide),below8 B3.out _ _ _ _ _ _ _ _⟩
   ·have hfu:(d.lp:Int) + 1 ≤ 64:=by omega
    have t3:((d.lp:Int) + 1 == (d.lp:Int)) = false:=by rw [beq_eq_false_iff_ne]; omega
    have HG3:=hide (HG.out.keep B3.out)
    obtain ⟨ab,ao,rfl,hcs⟩:=sign_at HG3.out.s hc
    go_wp2_with fail
    obtain ⟨W5,hW5⟩:∃ W5:World,W5 = w3.alloc (.cells #[.int .i64 1,.int .i64 (-1),.int .i64 0,.int .i64 (d.s c),.bool ((a:Int) % 2 == 1)] 43) := ⟨_,rfl⟩
    rw [← hW5]
    obtain ⟨bb,hbb⟩:∃ bb,bb = ((a:Int) % 2 == 1) := ⟨_,rfl⟩
    have HBB:=hide hbb
    rw [← hbb] at hW5 ⊢
    clear hbb
    obtain ⟨gi,hgi⟩:∃ gi,gi = w3.heap.size := ⟨_,rfl⟩
    rw [← hgi]
    have HU:=hide (show UC w gi (.slice (some ⟨ab,ao,none⟩) d.n cp) (.slice B m cq) (.int .i64 (d.lp:Int)) (.int .i64 1) (.int .i64 (-1)) (.int .i64 0) (.int .i64 (d.s c)) (.bool bb) W5 by
     rw [hW5]
     exact ⟨V0.out.alloc _,row_at (vs := [.int .i64 1,.int .i64 (-1),.int .i64 0,.int .i64 (d.s c),.bool bb]) hgi,⟨_,V2.out.alloc _,rfl⟩,⟨_,V3.out.alloc _,rfl⟩,B3.out.alloc (by omega) _,by omega⟩)
    obtain ⟨LL,hLL⟩:∃ LL,LL = d.mt := ⟨_,rfl⟩
    have HMo:=hide (show OwnN W5 w1.heap.size g2 m c2 LL by rw [hW5,hLL]; exact OWN3.out.alloc _)
    have HLE:=hide (show ∀ k,LL.getD k 0 ≤ 1000 from fun k => by rw [hLL]; exact Nat.le_trans (getD_le hd k) (by omega))
    have HG5:=hide (show DgAt W5 (some ⟨ab,ao,none⟩) B d from HG.out.keep HU.out.bel)
    have HLL:=hide (show LL = unM d c by unfold unM; rw [← HA.out,← HB.out,if_pos HCL.out,hLL])
    have HE0:=hide (show uncC d c = 0 by unfold uncC; rw [if_pos HK.out,← HA.out,← HB.out,if_pos HCL.out,if_neg hfull])
    clear hW5 hgi hLL f0 f1 f2 f3 m0 m1 m2 m3 m4 m5 p0 p1 p2 p3 q0 q1 q2 q3 q4 q5 hcs t3 l1 l2 l3 l4
    have HCAP:=hide HMo.out.caps
    have KS:=hide (IntsAt.drew ((HG5.out.s).alloc (.cells #[.int .i64 (c:Int)] 3)))
    have KM:=hide (OwnN.ints (OwnN.drew' rfl (HMo.out.alloc (.cells #[.int .i64 (c:Int)] 3))))
    have KG:=hide (one_ints W5 c)
    go_region_held3 (fun w' => w'.cell? ⟨w.heap.size,0,none⟩ = some (.slice (some ⟨ab,ao,none⟩) d.n cp) ∧ w'.cell? ⟨gi,0,none⟩ = some (.int .i64 1) ∧ w'.cell? ⟨gi,1,none⟩ = some (.int .i64 (-1)) ∧ w'.cell? ⟨gi,2,none⟩ = some (.int .i64 0) ∧ w'.cell? ⟨gi,3,none⟩ = some (.int .i64 (d.s c)) ∧ w'.cell? ⟨gi,4,none⟩ = some (.bool bb) ∧
     w'.cell? ⟨w.heap.size + 1 + 1,0,none⟩ = some (cv w' ⟨w.heap.size + 1 + 1,0,none⟩) ∧ w'.cell? ⟨w.heap.size + 1 + 1,1,none⟩ = some (cv w' ⟨w.heap.size + 1 + 1,1,none⟩) ∧ w'.cell? ⟨w.heap.size + 1 + 1,2,none⟩ = some (cv w' ⟨w.heap.size + 1 + 1,2,none⟩) ∧
     w'.cell? ⟨w.heap.size + 1 + 1 + 1,0,none⟩ = some (cv w' ⟨w.heap.size + 1 + 1 + 1,0,none⟩) ∧ w'.cell? ⟨w.heap.size + 1 + 1 + 1,1,none⟩ = some (cv w' ⟨w.heap.size + 1 + 1 + 1,1,none⟩) ∧ w'.cell? ⟨w.heap.size + 1 + 1 + 1,2,none⟩ = some (cv w' ⟨w.heap.size + 1 + 1 + 1,2,none⟩) ∧ w'.cell? ⟨w.heap.size + 1 + 1 + 1,3,none⟩ = some (cv w' ⟨w.heap.size + 1 + 1 + 1,3,none⟩) ∧ w'.cell? ⟨w.heap.size + 1 + 1 + 1,4,none⟩ = some (cv w' ⟨w.heap.size + 1 + 1 + 1,4,none⟩) ∧
     (∀ o,w'.frozen? ⟨w.heap.size + 1 + 1,o,none⟩ = false) ∧ (∀ o,w'.frozen? ⟨w.heap.size + 1 + 1 + 1,o,none⟩ = false) ∧ UC w gi (.slice (some ⟨ab,ao,none⟩) d.n cp) (.slice B m cq) (.int .i64 (d.lp:Int)) (.int .i64 1) (.int .i64 (-1)) (.int .i64 0) (.int .i64 (d.s c)) (.bool bb) w')
     ((go_split_ands; refine UC.all ?_; (repeat (first | (with_reducible assumption) | (with_reducible exact HU.out) | (with_reducible refine UC.setD ?_ _ _) | (with_reducible refine UC.setM ?_ _ _) | (with_reducible refine UC.alloc ?_ _) | (with_reducible refine UC.drew ?_) | (with_reducible refine UC.below ?_ hb6)))))
     (first
       | (go_at_call 79
          refine Calls.mono (shrunk_sl [c] d.sg LL ((d.lp:Int) + 1) (some ⟨ab,ao,none⟩) (some ⟨g2,0,none⟩) (some ⟨W5.heap.size,0,none⟩) d.n m 1 cp c2 1 _ ?_ ?_ ?_ (Pl.few_one c) HM.out HCAP.out.1 HCAP.out.2 (by omega) (by omega) HLE.out) ?_
          ·exact KS.out
          ·exact KM.out
          ·exact KG.out
          rintro e w6 ⟨A7,A8,c7,c8,rfl,owS,owM,hb6⟩
          have OWS:=hide owS
          have OWM:=hide owM
          clear owS owM))
    all_goals
     have HU6:=hide (show UC w gi (.slice (some ⟨ab,ao,none⟩) d.n cp) (.slice B m cq) (.int .i64 (d.lp:Int)) (.int .i64 1) (.int .i64 (-1)) (.int .i64 0) (.int .i64 (d.s c)) (.bool bb) w6 from by
      repeat (first | (with_reducible assumption) | (with_reducible exact HU.out) | (with_reducible refine UC.alloc ?_ _) | (with_reducible refine UC.drew ?_) | (with_reducible refine UC.below ?_ hb6)))
     have hb6s:W5.heap.size + 1 + 2 ≤ w6.heap.size ∨ True:=.inr trivial
     go_wp2
     obtain ⟨vs6,r6,l6⟩:=HU6.out.rd
     obtain ⟨us6,t6,k6⟩:=HU6.out.rm
     refine bodyPost_ret (v := .tuple #[.agg #[.slice A7 (Pl.left d.sg.length [c]).length c7,.slice A8 (4 * (Pl.left d.sg.length [c]).length) c8,.int .i64 ((d.lp:Int) + 1)],.agg #[.int .i64 1,.int .i64 (-1),.int .i64 0,.int .i64 (d.s c),.bool bb],.int .i64 0]) ?_ rfl ?_
     ·obtain ⟨e0,e1,e2,e3,e4,e5,e6,e7⟩:=fin8 r6 t6 l6 k6 (by omega) (.slice A7 (Pl.left d.sg.length [c]).length c7) (.slice A8 (4 * (Pl.left d.sg.length [c]).length) c8) (.int .i64 ((d.lp:Int) + 1)) (.int .i64 1) (.int .i64 (-1)) (.int .i64 0) (.int .i64 (d.s c)) (.bool bb)
      simp [results,Tryz.results47,go_sem,e0,e1,e2,e3,e4,e5,e6,e7]
     ·have hn7:(unD d c).n = (Pl.left d.sg.length [c]).length:=by unfold unD Pl.Dg.n; exact Pl.shrS_len _ _
      refine ⟨fun h => absurd HE0.out h,fun _ => ⟨A7,A8,c7,c8,?_,?_,?_⟩,below8 HU6.out.bel _ _ _ _ _ _ _ _⟩
      ·rw [hn7]
       unfold unD unI Mv.v
       simp only [← HA.out,← HB.out,if_pos HCL.out]
       have e1:((d.lp + 1:Nat):Int) = (d.lp:Int) + 1:=by omega
       have e2:decide (a % 2 = 1) = bb:=by rw [HBB.out,Bool.eq_iff_iff]; simp; omega
       rw [e1,e2]
      ·rw [hn7]
       refine own_intsT (base := (W5.alloc (.cells #[.int .i64 (c:Int)] 3)).drew.heap.size + 2) (e := 3) (c := c7) (own8 ?_ ?_ _ _ _ _ _ _ _ _)
       ·exact OWS.out
       ·have:=HU.out.i.lt; have := HU.out.lo; simp; omega
      ·rw [hn7]
       refine own_intsT (base := (W5.alloc (.cells #[.int .i64 (c:Int)] 3)).drew.heap.size + 2) (e := 3) (c := c8) (own8 ?_ ?_ _ _ _ _ _ _ _ _)
       ·rw [map_nats]
        have:=OWM.out
        rw [HLL.out] at this
        exact this
       ·have:=HU.out.i.lt; have := HU.out.lo; simp; omega
  ·have HC:=hide (show ¬ d.mt.getD a 0 = b by rw [HGA.out]; exact hcl)
   have HCL:=hide hcl
   have HGB:=hide (show d.mt.getD b 0 = d.m b from getD_m (by rw [HML.out]; exact hbm))
   clear hcl
   obtain ⟨f0,f1,f2,f3⟩:=box3 Z0.out
   have hwr:IntKind.i64.wrap (d.lp:Int) = (d.lp:Int):=IntWalk.i64_in _ (by omega)
   have hwr0:IntKind.i64.wrap ((d.lp:Int) + 0) = (d.lp:Int):=by rw [Int.add_zero]; exact hwr
   go_region_held3 (fun w' => w'.cell? ⟨w.heap.size,2,none⟩ = some (.int .i64 (d.lp:Int))) (first | go_keep | assumption)
    (first
      | (go_at_call 77
         refine Calls.mono (closed_no w1.heap.size g2 m c2 a b d.mt _ ?_ ham hbm (by omega) HLT.out HC.out) ?_
         ·exact OwnN.drew' rfl OWN2.out
         rintro e w3 ⟨rfl,own3,gr3⟩
         obtain ⟨_,_,h2,_⟩:=box3 ((Z0.out.drew).grown gr3 (by intro h; injection h; omega))
         have OWN3:=hide own3
         have GR3:=hide gr3
         clear own3 gr3))
   clear hwr hwr0 f0 f1 f2 f3 h2
   have V0:=hide ((Z0.out.drew).grown GR3.out (by intro h; injection h; omega))
   have V1:=hide ((Z1.out.drew).grown GR3.out (by intro h; injection h; omega))
   have V2:=hide ((Z2.out.drew).grown GR3.out (by intro h; injection h; omega))
   have V3:=hide ((Z3.out.drew).grown GR3.out (by intro h; injection h; omega))
   have B3:=hide ((B2.out.drew).grown GR3.out (B2.out.drew).size (fun k hk => by injection hk with hk; omega))
   have hs3:w.heap.size + 4 ≤ w3.heap.size:=by have := GR3.out.size; have:w2.drew.heap.size = w2.heap.size := rfl; omega
   have l1:w.heap.size < w3.heap.size:=by omega
   have l2:w.heap.size + 1 < w3.heap.size:=by omega
   have l3:w.heap.size + 1 + 1 < w3.heap.size:=by omega
   have l4:w.heap.size + 1 + 1 + 1 < w3.heap.size:=by omega
   obtain ⟨f0,f1,f2,f3⟩:=box3 V0.out
   obtain ⟨m0,m1,m2,m3,m4,m5⟩:=box5 V1.out
   obtain ⟨p0,p1,p2,p3⟩:=box3 V2.out
   obtain ⟨q0,q1,q2,q3,q4,q5⟩:=box5 V3.out
   have hfu:(d.lp:Int) ≤ 64:=by omega
   have HG3:=hide (HG.out.keep B3.out)
   obtain ⟨ab,ao,rfl,hcs⟩:=sign_at HG3.out.s hc
   obtain ⟨mb,mo,rfl,hcm⟩:=mate_at HG3.out.m (k := a) (by have := HM.out; omega)
   have lmb:mb < w3.heap.size:=lt_of_cell hcm
   have ia:(0:Int) ≤ (a:Int):=by omega
   have ib:(a:Int) < (m:Int):=by omega
   have hma:d.m a ≤ 256:=by have := hd.lt a ha1; omega
   obtain ⟨u,hu⟩:∃ u,u = d.m a := ⟨_,rfl⟩
   rw [← hu] at hcm hma
   have HUU:=hide hu
   clear hu
   go_wp2_with fail
   obtain ⟨bb,hbb⟩:∃ bb,bb = ((a:Int) % 2 == 1) := ⟨_,rfl⟩
   have HBB:=hide hbb
   rw [← hbb]
   clear hbb
   refine (shifted_any [c] (some ⟨w3.heap.size + 1,0,none⟩) 1 1 u _ ?_ (by omega) (by omega) (Pl.few_one c)).mono ?_
   ·exact one_ints' (w3.alloc (.cells #[.int .i64 1,.int .i64 (-1),.int .i64 0,.int .i64 (d.s c),.bool bb] 43)) c (by simp)
   rintro e w4 ⟨rfl,rfl⟩
   go_wp2_with fail
   obtain ⟨W5,hW5⟩:∃ W5:World,W5 = (w3.alloc (.cells #[.int .i64 1,.int .i64 (Pl.shf [c] u:Nat),.int .i64 0,.int .i64 (d.s c),.bool bb] 43)).alloc (.cells #[.int .i64 (c:Int)] 3) := ⟨_,rfl⟩
   rw [← hW5]
   obtain ⟨gi,hgi⟩:∃ gi,gi = w3.heap.size := ⟨_,rfl⟩
   rw [← hgi]
   have HU:=hide (show UC w gi (.slice (some ⟨ab,ao,none⟩) d.n cp) (.slice (some ⟨mb,mo,none⟩) m cq) (.int .i64 (d.lp:Int)) (.int .i64 1) (.int .i64 (Pl.shf [c] u:Nat)) (.int .i64 0) (.int .i64 (d.s c)) (.bool bb) W5 by
    rw [hW5]
    exact ⟨(V0.out.alloc _).alloc _,Row.alloc (row_at (vs := [.int .i64 1,.int .i64 (Pl.shf [c] u:Nat),.int .i64 0,.int .i64 (d.s c),.bool bb]) hgi) _,⟨_,(V2.out.alloc _).alloc _,rfl⟩,⟨_,(V3.out.alloc _).alloc _,rfl⟩,(B3.out.alloc (by omega) _).alloc (by simp; omega) _,by omega⟩)
   obtain ⟨LL,hLL⟩:∃ LL,LL = jn d.mt (d.mt.getD a 0) (d.mt.getD b 0) := ⟨_,rfl⟩
   have HMo:=hide (show OwnN W5 w1.heap.size g2 m c2 LL by rw [hW5,hLL]; exact (OWN3.out.alloc _).alloc _)
   have HLE:=hide (show ∀ k,LL.getD k 0 ≤ 1000 from fun k => by rw [hLL]; exact Nat.le_trans (jn_le (getD_le hd) (getD_le hd a) (getD_le hd b) k) (by omega))
   have HG5:=hide (show DgAt W5 (some ⟨ab,ao,none⟩) (some ⟨mb,mo,none⟩) d from HG.out.keep HU.out.bel)
   have HLL:=hide (show LL = unM d c by unfold unM; rw [← HA.out,← HB.out,if_neg HCL.out,hLL,HGA.out,HGB.out])
   have HE0:=hide (show uncC d c = 0 by unfold uncC; rw [if_pos HK.out,← HA.out,← HB.out,if_neg HCL.out])
   clear hW5 hgi hLL f0 f1 f2 f3 m0 m1 m2 m3 m4 m5 p0 p1 p2 p3 q0 q1 q2 q3 q4 q5 hcs hcm l1 l2 l3 l4
   have HCAP:=hide HMo.out.caps
   have KS:=hide (IntsAt.drew ((HG5.out.s).alloc (.cells #[.int .i64 (c:Int)] 3)))
   have KM:=hide (OwnN.ints (OwnN.drew' rfl (HMo.out.alloc (.cells #[.int .i64 (c:Int)] 3))))
   have KG:=hide (one_ints W5 c)
   go_region_held3 (fun w' => w'.cell? ⟨w.heap.size,0,none⟩ = some (.slice (some ⟨ab,ao,none⟩) d.n cp) ∧ w'.cell? ⟨gi,0,none⟩ = some (.int .i64 1) ∧ w'.cell? ⟨gi,1,none⟩ = some (.int .i64 (Pl.shf [c] u:Nat)) ∧ w'.cell? ⟨gi,2,none⟩ = some (.int .i64 0) ∧ w'.cell? ⟨gi,3,none⟩ = some (.int .i64 (d.s c)) ∧ w'.cell? ⟨gi,4,none⟩ = some (.bool bb) ∧
    w'.cell? ⟨w.heap.size + 1 + 1,0,none⟩ = some (cv w' ⟨w.heap.size + 1 + 1,0,none⟩) ∧ w'.cell? ⟨w.heap.size + 1 + 1,1,none⟩ = some (cv w' ⟨w.heap.size + 1 + 1,1,none⟩) ∧ w'.cell? ⟨w.heap.size + 1 + 1,2,none⟩ = some (cv w' ⟨w.heap.size + 1 + 1,2,none⟩) ∧
    w'.cell? ⟨w.heap.size + 1 + 1 + 1,0,none⟩ = some (cv w' ⟨w.heap.size + 1 + 1 + 1,0,none⟩) ∧ w'.cell? ⟨w.heap.size + 1 + 1 + 1,1,none⟩ = some (cv w' ⟨w.heap.size + 1 + 1 + 1,1,none⟩) ∧ w'.cell? ⟨w.heap.size + 1 + 1 + 1,2,none⟩ = some (cv w' ⟨w.heap.size + 1 + 1 + 1,2,none⟩) ∧ w'.cell? ⟨w.heap.size + 1 + 1 + 1,3,none⟩ = some (cv w' ⟨w.heap.size + 1 + 1 + 1,3,none⟩) ∧ w'.cell? ⟨w.heap.size + 1 + 1 + 1,4,none⟩ = some (cv w' ⟨w.heap.size + 1 + 1 + 1,4,none⟩) ∧
    (∀ o,w'.frozen? ⟨w.heap.size + 1 + 1,o,none⟩ = false) ∧ (∀ o,w'.frozen? ⟨w.heap.size + 1 + 1 + 1,o,none⟩ = false) ∧ UC w gi (.slice (some ⟨ab,ao,none⟩) d.n cp) (.slice (some ⟨mb,mo,none⟩) m cq) (.int .i64 (d.lp:Int)) (.int .i64 1) (.int .i64 (Pl.shf [c] u:Nat)) (.int .i64 0) (.int .i64 (d.s c)) (.bool bb) w')
    ((go_split_ands; refine UC.all ?_; (repeat (first | (with_reducible assumption) | (with_reducible exact HU.out) | (with_reducible refine UC.setD ?_ _ _) | (with_reducible refine UC.setM ?_ _ _) | (with_reducible refine UC.alloc ?_ _) | (with_reducible refine UC.drew ?_) | (with_reducible refine UC.below ?_ hb6)))))
    (first
      | (go_at_call 79
         refine Calls.mono (shrunk_sl [c] d.sg LL (d.lp:Int) (some ⟨ab,ao,none⟩) (some ⟨g2,0,none⟩) (some ⟨W5.heap.size,0,none⟩) d.n m 1 cp c2 1 _ ?_ ?_ ?_ (Pl.few_one c) HM.out HCAP.out.1 HCAP.out.2 (by omega) (by omega) HLE.out) ?_
         ·exact KS.out
         ·exact KM.out
         ·exact KG.out
         rintro e w6 ⟨A7,A8,c7,c8,rfl,owS,owM,hb6⟩
         have OWS:=hide owS
         have OWM:=hide owM
         clear owS owM))
   all_goals
    have HU6:=hide (show UC w gi (.slice (some ⟨ab,ao,none⟩) d.n cp) (.slice (some ⟨mb,mo,none⟩) m cq) (.int .i64 (d.lp:Int)) (.int .i64 1) (.int .i64 (Pl.shf [c] u:Nat)) (.int .i64 0) (.int .i64 (d.s c)) (.bool bb) w6 from by
     repeat (first | (with_reducible assumption) | (with_reducible exact HU.out) | (with_reducible refine UC.alloc ?_ _) | (with_reducible refine UC.drew ?_) | (with_reducible refine UC.below ?_ hb6)))
    have hb6s:W5.heap.size + 1 + 2 ≤ w6.heap.size ∨ True:=.inr trivial
    go_wp2
    obtain ⟨vs6,r6,l6⟩:=HU6.out.rd
    obtain ⟨us6,t6,k6⟩:=HU6.out.rm
    refine bodyPost_ret (v := .tuple #[.agg #[.slice A7 (Pl.left d.sg.length [c]).length c7,.slice A8 (4 * (Pl.left d.sg.length [c]).length) c8,.int .i64 (d.lp:Int)],.agg #[.int .i64 1,.int .i64 (Pl.shf [c] u:Nat),.int .i64 0,.int .i64 (d.s c),.bool bb],.int .i64 0]) ?_ rfl ?_
    ·obtain ⟨e0,e1,e2,e3,e4,e5,e6,e7⟩:=fin8 r6 t6 l6 k6 (by omega) (.slice A7 (Pl.left d.sg.length [c]).length c7) (.slice A8 (4 * (Pl.left d.sg.length [c]).length) c8) (.int .i64 (d.lp:Int)) (.int .i64 1) (.int .i64 (Pl.shf [c] u:Nat)) (.int .i64 0) (.int .i64 (d.s c)) (.bool bb)
     simp [results,Tryz.results47,go_sem,e0,e1,e2,e3,e4,e5,e6,e7]
    ·have hn7:(unD d c).n = (Pl.left d.sg.length [c]).length:=by unfold unD Pl.Dg.n; exact Pl.shrS_len _ _
     refine ⟨fun h => absurd HE0.out h,fun _ => ⟨A7,A8,c7,c8,?_,?_,?_⟩,below8 HU6.out.bel _ _ _ _ _ _ _ _⟩
     ·rw [hn7]
      unfold unD unI Mv.v
      simp only [← HA.out,← HB.out,if_neg HCL.out]
      simp only [← HUU.out]
      have e2:decide (a % 2 = 1) = bb:=by rw [HBB.out,Bool.eq_iff_iff]; simp; omega
      rw [e2]
     ·rw [hn7]
      refine own_intsT (base := (W5.alloc (.cells #[.int .i64 (c:Int)] 3)).drew.heap.size + 2) (e := 3) (c := c7) (own8 ?_ ?_ _ _ _ _ _ _ _ _)
      ·exact OWS.out
      ·have:=HU.out.i.lt; have := HU.out.lo; simp; omega
     ·rw [hn7]
      refine own_intsT (base := (W5.alloc (.cells #[.int .i64 (c:Int)] 3)).drew.heap.size + 2) (e := 3) (c := c8) (own8 ?_ ?_ _ _ _ _ _ _ _ _)
      ·rw [map_nats]
       have:=OWM.out
       rw [HLL.out] at this
       exact this
      ·have:=HU.out.i.lt; have := HU.out.lo; simp; omega
 ·rw [Pl.vb_false (show ¬ isK d c from hK)]
  unfold kinkE
  rw [if_neg (by decide)]
  have HK:=hide hK
  clear hK
  go_wp2
  refine bodyPost_ret (v := .tuple #[nilD,nilM,.int .i64 6]) ?_ rfl ?_
  ·obtain ⟨e0,e1,e2,e3,e4,e5,e6,e7⟩:=fin8 Y2.out Y3.out rfl rfl (by omega) (.slice none 0 0) (.slice none 0 0) (.int .i64 0) (.int .i64 0) (.int .i64 0) (.int .i64 0) (.int .i64 0) (.bool false)
   unfold nilD nilM
   simp [results,Tryz.results47,go_sem,e0,e1,e2,e3,e4,e5,e6,e7]
  ·have e6:uncC d c = 6:=by unfold uncC; rw [if_neg HK.out]
   refine ⟨fun _ => by rw [e6]; exact rfl,fun h => absurd h (by rw [e6]; decide),below8 B1.out _ _ _ _ _ _ _ _⟩
end Go.Proofs.YtghdiolnonejaaaGreatDoor
end
section
namespace Go.Proofs.YtghdiolnonejaaaGreatDoor
open Go Go.RowKit
attribute [local go_sem ↓] Go.wp_at_zero Go.wp_at_succ
def sb (d:Pl.Dg) (h k:Nat):Nat := Pl.tn (eo d (th d h k)) 2
def so (d:Pl.Dg) (h k:Nat):Nat := eo d (th d h k)
def si (d:Pl.Dg) (h k:Nat):Nat := ei d (th d h k)
def sf (d:Pl.Dg) (h k:Nat):Nat := Pl.tn (ei d (th d h k)) 2
def sTo (d:Pl.Dg) (h:Nat):Nat → List Nat
 | 0 => List.range (4 * d.n)
 | k + 1 => ((sTo d h k).set (sb d h k) (si d h k)).set (sf d h k) (so d h k)
def sOu (d:Pl.Dg) (h:Nat):Nat → List Bool
 | 0 => List.replicate (4 * d.n) false
 | k + 1 => ((sOu d h k).set (sb d h k) true).set (sf d h k) true
def sM (d:Pl.Dg) (h:Nat):Nat → List Nat
 | 0 => d.mt
 | u + 1 => if (sOu d h 3).getD u false = true then jn (sM d h u) ((sTo d h 3).getD u 0) ((sTo d h 3).getD (d.m u) 0) else sM d h u
def sF (d:Pl.Dg) (h:Nat):Nat → List Nat
 | 0 => sM d h (4 * d.n)
 | k + 1 => jn (sF d h k) (sb d h k) (sf d h k)
def lnx (l:List Nat) (u:Nat):Nat := Pl.tn (l.getD u 0) 3
def sC (d:Pl.Dg) (h u:Nat):Bool := (sOu d h 3).getD u false && (sOu d h 3).getD (lnx (sF d h 3) u) false && (sOu d h 3).getD (lnx (sF d h 3) (lnx (sF d h 3) u)) false && lnx (sF d h 3) (lnx (sF d h 3) (lnx (sF d h 3) u)) == u
def sX (d:Pl.Dg) (h:Nat):Nat → Nat
 | 0 => 0
 | g + 1 => if sC d h (4 * d.n - (g + 1)) then 4 * d.n - (g + 1) else sX d h g
open Classical in
noncomputable def sldC (d:Pl.Dg) (h:Nat):Int := if isT d h then 0 else 6
def sldD (d:Pl.Dg) (h:Nat):Pl.Dg := ⟨d.sg,sF d h 3,d.lp⟩
def sldI (d:Pl.Dg) (h:Nat):Mv := ⟨5,sX d h (4 * d.n),0,0,false⟩
theorem jn_len0 (l:List Nat) (a b:Nat):(jn l a b).length = l.length := by unfold jn; simp
theorem sTo_len (d:Pl.Dg) (h:Nat):∀ k,(sTo d h k).length = 4 * d.n
 | 0 => by simp [sTo]
 | k + 1 => by simp [sTo,sTo_len d h k]
theorem sOu_len (d:Pl.Dg) (h:Nat):∀ k,(sOu d h k).length = 4 * d.n
 | 0 => by simp [sOu]
 | k + 1 => by simp [sOu,sOu_len d h k]
theorem sM_len {d:Pl.Dg} (hd:Pl.Wf d) (h:Nat):∀ u,(sM d h u).length = 4 * d.n
 | 0 => hd.len
 | u + 1 => by unfold sM; split <;> simp [jn_len0,sM_len hd h u]
theorem sF_len {d:Pl.Dg} (hd:Pl.Wf d) (h:Nat):∀ k,(sF d h k).length = 4 * d.n
 | 0 => sM_len hd h _
 | k + 1 => by unfold sF; simp [jn_len0,sF_len hd h k]
theorem tri_v (d:Pl.Dg) (hd:Pl.Wf d) (A B:Option Addr) (cp cq m h:Nat) (w:World) (hm:m = 4 * d.n) (hg:DgAt w A B d) (hh:h < 4 * d.n) :
 Calls Tryz.prog 90 #[.agg #[.slice A d.n cp,.slice B m cq,.int .i64 d.lp],.int .i64 (h:Int)] w fun e w' => ∃ b0 o0 i0 f0 b1 o1 i1 f1 b2 o2 i2 f2:Nat,
  e = .returned (.tuple #[.agg #[.int .i64 (b0:Int),.int .i64 (o0:Int),.int .i64 (i0:Int),.int .i64 (f0:Int),.int .i64 (b1:Int),.int .i64 (o1:Int),.int .i64 (i1:Int),.int .i64 (f1:Int),.int .i64 (b2:Int),.int .i64 (o2:Int),.int .i64 (i2:Int),.int .i64 (f2:Int)],.bool (Pl.vb (isT d h))]) ∧
  (isT d h → b0 = sb d h 0 ∧ o0 = so d h 0 ∧ i0 = si d h 0 ∧ f0 = sf d h 0 ∧ b1 = sb d h 1 ∧ o1 = so d h 1 ∧ i1 = si d h 1 ∧ f1 = sf d h 1 ∧ b2 = sb d h 2 ∧ o2 = so d h 2 ∧ i2 = si d h 2 ∧ f2 = sf d h 2) ∧ Below w.heap.size w w' := by
 refine (triangle_any d hd A B cp cq m h w hm hg hh).mono ?_
 rintro e w' ⟨h1,h2,hb⟩
 by_cases h3:is3 d h
 ·exact ⟨_,_,_,_,_,_,_,_,_,_,_,_,h1 h3,fun _ => ⟨rfl,rfl,rfl,rfl,rfl,rfl,rfl,rfl,rfl,rfl,rfl,rfl⟩,hb⟩
 ·refine ⟨0,0,0,0,0,0,0,0,0,0,0,0,?_,fun h => absurd h.1 h3,hb⟩
  rw [h2 h3,Pl.vb_false (fun h => h3 h.1)]
  rfl
theorem cl1 (A:Option Addr) (n c:Nat) (xs:List Int) (w:World) (hx:IntsAt w A n xs) (hn:0 < n ∧ n ≤ 1000) :
 Calls Tryz.prog 42 #[.slice A n c] w fun e w' => ∃ g c':Nat,e = .returned (.slice (some ⟨g,0,none⟩) n c') ∧ w'.ownsRow w.heap.size 3 1 (.slice (some ⟨g,0,none⟩) n c') n (xs.map (.int .i64)) ∧ Below w.heap.size w w' := by
 have hl:=hx.len
 obtain ⟨b,o,rfl,_⟩:=hx.at_ (k := 0) hn.1
 refine (Tryz.slices_Clone_int b o n c xs w (by omega) (by omega) (fun j hj => ?_)).mono ?_
 ·obtain ⟨b',o',e,hc⟩:=hx.at_ (k := j) (by omega)
  injection e with e
  injection e with e1 e2
  subst e1
  subst e2
  exact hc
 ·rintro e w' ⟨v,rfl,own,_,hb⟩
  rw [List.take_of_length_le (by omega)] at own
  obtain ⟨A',c',rfl⟩:=owns_slice own
  obtain ⟨g,rfl,_,_⟩:=owns_pos hn.1 own
  exact ⟨g,c',rfl,own,hb⟩
set_option maxRecDepth 100000 in
set_option maxHeartbeats 2000000 in
theorem clone_any (d:Pl.Dg) (A B:Option Addr) (cp cq m:Nat) (w:World) (hm:m = 4 * d.n) (hg:DgAt w A B d) (hn:0 < d.n ∧ d.n ≤ 64) :
 Calls Tryz.prog 23 #[.agg #[.slice A d.n cp,.slice B m cq,.int .i64 d.lp]] w fun e w' => ∃ g1 c1 g2 c2:Nat,e = .returned (.agg #[.slice (some ⟨g1,0,none⟩) d.n c1,.slice (some ⟨g2,0,none⟩) m c2,.int .i64 d.lp]) ∧
  w'.ownsRow w.heap.size 3 1 (.slice (some ⟨g1,0,none⟩) d.n c1) d.n (d.sg.map (.int .i64)) ∧ OwnN w' w.heap.size g2 m c2 d.mt ∧ g1 ≠ g2 ∧ Below w.heap.size w w' := by
 have HG:=hide hg
 have HGM:=hide (show IntsAt w B m (nats d.mt) by rw [hm]; exact hg.m)
 have hm0:0 < m ∧ m ≤ 1000:=by omega
 have hnn:0 < d.n ∧ d.n ≤ 1000:=by omega
 clear hm hg
 have HGS:=hide (GS.start w (.slice A d.n cp) (.slice B m cq) (.int .i64 d.lp) (.slice none 0 0) (.slice none 0 0) (.int .i64 0))
 go_enter Tryz.func23,Tryz.ntmps23
 go_wp2_with fail
 obtain ⟨V0,hV0⟩:∃ V:World,V = (w.alloc (.cells #[.slice A d.n cp,.slice B m cq,.int .i64 d.lp] 24)).alloc (.cells #[.slice none 0 0,.slice none 0 0,.int .i64 0] 24) := ⟨_,rfl⟩
 rw [← hV0] at HGS ⊢
 have hv0:w.heap.size + 2 ≤ V0.heap.size:=by rw [hV0]; simp
 clear hV0
 obtain ⟨c0,c1,c2,c3,c4,c5,c6,_⟩:=HGS.out.all
 go_region_held3 (fun w' => w'.cell? ⟨w.heap.size,0,none⟩ = some (.slice A d.n cp) ∧ w'.cell? ⟨w.heap.size,1,none⟩ = some (.slice B m cq) ∧ w'.cell? ⟨w.heap.size,2,none⟩ = some (.int .i64 d.lp) ∧ w'.cell? ⟨w.heap.size + 1,0,none⟩ = some (cv w' ⟨w.heap.size + 1,0,none⟩) ∧ w'.cell? ⟨w.heap.size + 1,1,none⟩ = some (cv w' ⟨w.heap.size + 1,1,none⟩) ∧ w'.cell? ⟨w.heap.size + 1,2,none⟩ = some (cv w' ⟨w.heap.size + 1,2,none⟩) ∧ (∀ o,w'.frozen? ⟨w.heap.size + 1,o,none⟩ = false) ∧ GS w w.heap.size (.slice A d.n cp) (.slice B m cq) (.int .i64 d.lp) w')
  ((go_split_ands; refine GS.all ?_; (repeat (first | (with_reducible assumption) | (with_reducible exact HGS.out) | (with_reducible refine GS.set ?_ _ _) | (with_reducible refine GS.drew ?_) | (with_reducible refine GS.below ?_ hbb) | (with_reducible refine GS.below ?_ hba)))))
  (first
    | (have hxa := hba
       clear hxa
       go_at_call 42
       refine Calls.mono (cl1 B m cq (nats d.mt) _ ?_ hm0) ?_
       ·exact HGM.out.keep (HGS.out.drew.below hba).bel
       rintro e wb ⟨g2,k2,rfl,ownb,hbb⟩)
    | (go_at_call 42
       refine Calls.mono (cl1 A d.n cp d.sg _ ?_ hnn) ?_
       ·exact HG.out.s.keep HGS.out.drew.bel
       rintro e wa ⟨g1,k1,rfl,owna,hba⟩))
 clear c0 c1 c2 c3 c4 c5 c6
 have G5:=hide ((HGS.out.drew.below hba).below hbb)
 go_wp2
 have ga:=World.ownsRow.lt owna g1 rfl
 have gb:=World.ownsRow.lt ownb g2 rfl
 have e9:V0.drew.heap.size = V0.heap.size:=rfl
 refine bodyPost_ret (v := .agg #[.slice (some ⟨g1,0,none⟩) d.n k1,.slice (some ⟨g2,0,none⟩) m k2,.int .i64 d.lp]) ?_ rfl ⟨g1,k1,g2,k2,rfl,?_,?_,?_,?_⟩
 ·obtain ⟨e0,e1,e2⟩:=G5.out.fin (.slice (some ⟨g1,0,none⟩) d.n k1) (.slice (some ⟨g2,0,none⟩) m k2) (.int .i64 d.lp)
  simp [results,Tryz.results23,go_sem,e0,e1,e2]
 ·exact own_set (own_set (own_set (own_keep (own_keep owna hbb (Nat.le_refl _)) (Below.refl _ _) (by omega)) (by omega)) (by omega)) (by omega)
 ·unfold OwnN
  rw [← map_nats]
  exact own_set (own_set (own_set (own_keep ownb (Below.refl _ _) (by have := hba.size; omega)) (by omega)) (by omega)) (by omega)
 ·omega
 ·exact ((G5.out.bel.setCell (by show _ ≤ w.heap.size + 1; omega) _).setCell (by show _ ≤ w.heap.size + 1; omega) _).setCell (by show _ ≤ w.heap.size + 1; omega) _
theorem nats_len (F:List Nat):(nats F).length = F.length := by unfold nats; simp
section
variable {w W W':World} {ge:Nat} {dv mv ev:List Value}
end
section
variable {w W W2:World} {ge gt gu gr g1 c1 g2 c2 base m n:Nat} {dv mv ev:List Value} {tl:List Int} {ou:List Bool} {ss:List Value} {lp:Int} {L L':List Nat}
end
def tk (m k:Nat):List Nat := (List.range m).map (fun j => if j < k then j else 0)
end Go.Proofs.YtghdiolnonejaaaGreatDoor
end
section
namespace Go.Proofs.YtghdiolnonejaaaGreatDoor
open Go Go.RowKit
theorem tr_of {d:Pl.Dg} {h:Nat} (hh:h < 4 * d.n) (hi:is3 d h):Pl.Tr d (th d h 0) (th d h 1) (th d h 2) :=
 ⟨hh,rfl,rfl,hi.1,hi.2.1,hi.2.2.1,hi.2.2.2⟩
def sT (d:Pl.Dg) (h x:Nat):Nat := Pl.tu (th d h 0) (th d h 1) (th d h 2) x
def sO (d:Pl.Dg) (h x:Nat):Prop := x = Pl.tn (th d h 0) 2 ∨ x = Pl.tn (th d h 1) 2 ∨ x = Pl.tn (th d h 2) 2 ∨ x = Pl.tn (th d h 0) 3 ∨ x = Pl.tn (th d h 1) 3 ∨ x = Pl.tn (th d h 2) 3
def sI (d:Pl.Dg) (h x:Nat):Prop := x = th d h 0 ∨ x = th d h 1 ∨ x = th d h 2 ∨ x = Pl.tn (th d h 0) 1 ∨ x = Pl.tn (th d h 1) 1 ∨ x = Pl.tn (th d h 2) 1
abbrev TriAt (d:Pl.Dg) (h0 h1 h2:Nat) (m t:Nat → Nat):Prop :=
 Pl.Tri (Pl.dart d) Pl.rot m t h0 h1 h2 (Pl.tn h0 1) (Pl.tn h1 1) (Pl.tn h2 1) (Pl.tn h0 2) (Pl.tn h1 2) (Pl.tn h2 2) (Pl.tn h0 3) (Pl.tn h1 3) (Pl.tn h2 3)
theorem tri_at {d:Pl.Dg} (hd:Pl.Wf d) {h:Nat} (hh:h < 4 * d.n) (hi:is3 d h):TriAt d (th d h 0) (th d h 1) (th d h 2) d.m (sT d h) := (tr_of hh hi).tri hd
theorem sj_at {d:Pl.Dg} (hd:Pl.Wf d) {h:Nat} (hh:h < 4 * d.n) (hi:is3 d h):Pl.Sj (4 * d.n) d.m (sT d h) (sO d h) (sI d h) := by
 have T:=tri_at hd hh hi
 refine ⟨hd.lt,hd.inv,fun x hx => ?_,T.tt,?_,?_,?_,?_,?_⟩
 ·exact T.tS x hx
 ·rintro x (e | e | e | e | e | e) <;> rw [e]
  ·rw [T.tu0]; simp [sI]
  ·rw [T.tu1]; simp [sI]
  ·rw [T.tu2]; simp [sI]
  ·rw [T.tv0]; simp [sI]
  ·rw [T.tv1]; simp [sI]
  ·rw [T.tv2]; simp [sI]
 ·intro x h1 h2
  unfold sO at h1
  unfold sI at h2
  refine T.tx x ?_
  simp only [List.mem_cons,List.not_mem_nil,or_false]
  intro h3
  rcases h3 with e | e | e | e | e | e | e | e | e | e | e | e <;> first | (apply h1; simp [e]; done) | (apply h2; simp [e]; done)
 ·rintro x (e | e | e | e | e | e) <;> rw [e]
  ·rw [T.th0]; simp [sO]
  ·rw [T.th1]; simp [sO]
  ·rw [T.th2]; simp [sO]
  ·rw [T.tp0]; simp [sO]
  ·rw [T.tp1]; simp [sO]
  ·rw [T.tp2]; simp [sO]
 ·rintro x (e | e | e | e | e | e) <;> rw [e]
  ·rw [T.ah0]; simp [sI]
  ·rw [T.ah1]; simp [sI]
  ·rw [T.ah2]; simp [sI]
  ·rw [T.ap0]; simp [sI]
  ·rw [T.ap1]; simp [sI]
  ·rw [T.ap2]; simp [sI]
 ·obtain ⟨_,c1,c2,c3⟩:=hi
  intro x h1 h2
  unfold sO at h1
  unfold sI at h2
  have e0:th d h 0 = h:=rfl
  rw [e0] at h1 h2
  unfold Pl.tn at h1 h2
  rcases h1 with e | e | e | e | e | e <;> rcases h2 with e' | e' | e' | e' | e' | e' <;> omega
theorem ends {d:Pl.Dg} (hd:Pl.Wf d) {h k q:Nat} (hl:th d h k < 4 * d.n) (hq:d.m (th d h k) = Pl.tn q 1) :
 (sb d h k = Pl.tn (th d h k) 2 ∧ so d h k = th d h k ∧ si d h k = Pl.tn q 1 ∧ sf d h k = Pl.tn q 3) ∨ (sb d h k = Pl.tn q 3 ∧ so d h k = Pl.tn q 1 ∧ si d h k = th d h k ∧ sf d h k = Pl.tn (th d h k) 2) := by
 have e3:Pl.tn (Pl.tn q 1) 2 = Pl.tn q 3:=Pl.tn_tn _ _ _
 by_cases ho:Pl.out d (th d h k) = true
 ·left
  have e1:eo d (th d h k) = th d h k:=by unfold eo; rw [if_pos ho]
  have e2:ei d (th d h k) = Pl.tn q 1:=by unfold ei; rw [e1,hq]
  exact ⟨by unfold sb; rw [e1],e1,e2,by unfold sf; rw [e2,e3]⟩
 ·right
  have e1:eo d (th d h k) = Pl.tn q 1:=by unfold eo; rw [if_neg ho,hq]
  have e2:ei d (th d h k) = th d h k:=by unfold ei; rw [e1,← hq,hd.inv _ hl]
  exact ⟨by unfold sb; rw [e1,e3],e1,e2,by unfold sf; rw [e2]⟩
theorem sTo_s {d:Pl.Dg} (hd:Pl.Wf d) {h k q:Nat} (hl:th d h k < 4 * d.n) (hq:d.m (th d h k) = Pl.tn q 1) (hql:q < 4 * d.n) (hne:Pl.tn (th d h k) 2 ≠ Pl.tn q 3) (x:Nat) :
 (sTo d h (k + 1)).getD x 0 = if x = Pl.tn (th d h k) 2 then Pl.tn q 1 else if x = Pl.tn q 3 then th d h k else (sTo d h k).getD x 0 := by
 have l1:Pl.tn (th d h k) 2 < (sTo d h k).length:=by rw [sTo_len]; exact Pl.tn_lt hl
 have l2:Pl.tn q 3 < (sTo d h k).length:=by rw [sTo_len]; exact Pl.tn_lt hql
 show (((sTo d h k).set (sb d h k) (si d h k)).set (sf d h k) (so d h k)).getD x 0 = _
 rcases ends hd hl hq with ⟨e1,e2,e3,e4⟩ | ⟨e1,e2,e3,e4⟩ <;> rw [e1,e2,e3,e4]
 ·rw [Pl.set_getD _ _ _ _ (by simpa using l2),Pl.set_getD _ _ _ _ l1]
  by_cases h1:x = Pl.tn q 3
  ·rw [if_pos h1,if_neg (fun h2 => hne (h2.symm.trans h1)),if_pos h1]
  ·rw [if_neg h1,if_neg h1]
 ·rw [Pl.set_getD _ _ _ _ (by simpa using l1),Pl.set_getD _ _ _ _ l2]
theorem setB (l:List Bool) (a x:Nat) (ha:a < l.length):(l.set a true).getD x false = if x = a then true else l.getD x false := by
 rw [List.getD_eq_getElem?_getD,List.getElem?_set,List.getD_eq_getElem?_getD]
 by_cases h:a = x
 ·subst h; simp [ha]
 ·rw [if_neg h,if_neg (Ne.symm h)]
theorem sOu_s {d:Pl.Dg} (hd:Pl.Wf d) {h k q:Nat} (hl:th d h k < 4 * d.n) (hq:d.m (th d h k) = Pl.tn q 1) (hql:q < 4 * d.n) (x:Nat) :
 (sOu d h (k + 1)).getD x false = true ↔ x = Pl.tn (th d h k) 2 ∨ x = Pl.tn q 3 ∨ (sOu d h k).getD x false = true := by
 have l1:Pl.tn (th d h k) 2 < (sOu d h k).length:=by rw [sOu_len]; exact Pl.tn_lt hl
 have l2:Pl.tn q 3 < (sOu d h k).length:=by rw [sOu_len]; exact Pl.tn_lt hql
 show (((sOu d h k).set (sb d h k) true).set (sf d h k) true).getD x false = true ↔ _
 rcases ends hd hl hq with ⟨e1,e2,e3,e4⟩ | ⟨e1,e2,e3,e4⟩ <;> rw [e1,e4]
 ·rw [setB _ _ _ (by simpa using l2),setB _ _ _ l1]
  by_cases h1:x = Pl.tn q 3
  ·simp [h1]
  ·by_cases h2:x = Pl.tn (th d h k) 2 <;> simp [h1,h2]
 ·rw [setB _ _ _ (by simpa using l1),setB _ _ _ l2]
  by_cases h1:x = Pl.tn q 3
  ·simp [h1]
  ·by_cases h2:x = Pl.tn (th d h k) 2 <;> simp [h1,h2]
section
variable {d:Pl.Dg} {h:Nat}
theorem sTo_v (hd:Pl.Wf d) (hh:h < 4 * d.n) (hi:is3 d h) {x:Nat} (hx:x < 4 * d.n):(sO d h x → (sTo d h 3).getD x 0 = sT d h x) ∧ (¬ sO d h x → (sTo d h 3).getD x 0 = x) := by
 have T:=tri_at hd hh hi
 have t0:=th_lt hd hh 0
 have t1:=th_lt hd hh 1
 have t2:=th_lt hd hh 2
 obtain ⟨_,c1,c2,c3⟩:=hi
 have c0:th d h 0 = h:=rfl
 have s2:=sTo_s hd (h := h) (k := 2) (q := th d h 0) t2 T.ah2 t0 (by unfold Pl.tn; omega) x
 have s1:=sTo_s hd (h := h) (k := 1) (q := th d h 2) t1 T.ah1 t2 (by unfold Pl.tn; omega) x
 have s0:=sTo_s hd (h := h) (k := 0) (q := th d h 1) t0 T.ah0 t1 (by unfold Pl.tn; omega) x
 have sz:(sTo d h 0).getD x 0 = x:=by simp [sTo,List.getD_eq_getElem?_getD,hx]
 rw [s2,s1,s0,sz]
 have n:=T.nd
 constructor
 ·rintro (e | e | e | e | e | e) <;> rw [e]
  ·rw [T.tu0,if_neg (by unfold Pl.tn; omega),if_neg (by unfold Pl.tn; omega),if_neg (by unfold Pl.tn; omega),if_neg (by unfold Pl.tn; omega),if_pos rfl]
  ·rw [T.tu1,if_neg (by unfold Pl.tn; omega),if_neg (by unfold Pl.tn; omega),if_pos rfl]
  ·rw [T.tu2,if_pos rfl]
  ·rw [T.tv0,if_neg (by unfold Pl.tn; omega),if_pos rfl]
  ·rw [T.tv1,if_neg (by unfold Pl.tn; omega),if_neg (by unfold Pl.tn; omega),if_neg (by unfold Pl.tn; omega),if_neg (by unfold Pl.tn; omega),if_neg (by unfold Pl.tn; omega),if_pos rfl]
  ·rw [T.tv2,if_neg (by unfold Pl.tn; omega),if_neg (by unfold Pl.tn; omega),if_neg (by unfold Pl.tn; omega),if_pos rfl]
 ·intro hn
  unfold sO at hn
  rw [if_neg (fun e => hn (by simp [e])),if_neg (fun e => hn (by simp [e])),if_neg (fun e => hn (by simp [e])),if_neg (fun e => hn (by simp [e])),if_neg (fun e => hn (by simp [e])),if_neg (fun e => hn (by simp [e]))]
theorem sOu_v (hd:Pl.Wf d) (hh:h < 4 * d.n) (hi:is3 d h) (x:Nat):(sOu d h 3).getD x false = true ↔ sO d h x := by
 have T:=tri_at hd hh hi
 have t0:=th_lt hd hh 0
 have t1:=th_lt hd hh 1
 have t2:=th_lt hd hh 2
 have s2:=sOu_s hd (h := h) (k := 2) (q := th d h 0) t2 T.ah2 t0 x
 have s1:=sOu_s hd (h := h) (k := 1) (q := th d h 2) t1 T.ah1 t2 x
 have s0:=sOu_s hd (h := h) (k := 0) (q := th d h 1) t0 T.ah0 t1 x
 have sz:(sOu d h 0).getD x false = false:=by
  unfold sOu
  rw [List.getD_eq_getElem?_getD,List.getElem?_replicate]
  split <;> rfl
 rw [s2,s1,s0,sz]
 unfold sO
 constructor
 ·rintro (h | h | h | h | h | h | h)
  ·exact .inr (.inr (.inl h))
  ·exact .inr (.inr (.inr (.inl h)))
  ·exact .inr (.inl h)
  ·exact .inr (.inr (.inr (.inr (.inr h))))
  ·exact .inl h
  ·exact .inr (.inr (.inr (.inr (.inl h))))
  ·cases h
 ·rintro (h | h | h | h | h | h) <;> simp [h]
theorem jn_eq (l:List Nat) (a b:Nat):jn l a b = (l.set a b).set b a := rfl
theorem sM_half (hd:Pl.Wf d) (hh:h < 4 * d.n) (hi:is3 d h):∀ k,k ≤ 4 * d.n → Pl.Half (4 * d.n) d.m (Pl.cj (sT d h) d.m) (fun x => ∃ u,u < k ∧ sO d h u ∧ (x = sT d h u ∨ x = sT d h (d.m u))) (sM d h k)
 | 0,_ => ⟨hd.len,fun x hx => .inr ⟨getD_m (by rw [hd.len]; exact hx),fun ⟨u,h,_⟩ => absurd h (by omega)⟩⟩
 | k + 1, hk => by
   have ih:=sM_half hd hh hi k (by omega)
   have J:=sj_at hd hh hi
   have hk2:k < 4 * d.n:=by omega
   show Pl.Half _ _ _ _ (if (sOu d h 3).getD k false = true then jn (sM d h k) ((sTo d h 3).getD k 0) ((sTo d h 3).getD (d.m k) 0) else sM d h k)
   by_cases ho:sO d h k
   ·rw [if_pos ((sOu_v hd hh hi k).2 ho),(sTo_v hd hh hi hk2).1 ho,jn_eq]
    have e:(sTo d h 3).getD (d.m k) 0 = sT d h (d.m k):=by
     by_cases h2:sO d h (d.m k)
     ·exact (sTo_v hd hh hi (hd.lt k hk2)).1 h2
     ·rw [(sTo_v hd hh hi (hd.lt k hk2)).2 h2,J.far hk2 ho h2]
    rw [e]
    exact J.step ih hk2 ho
   ·rw [if_neg (fun h2 => ho ((sOu_v hd hh hi k).1 h2))]
    exact Pl.Sj.skip ih ho
theorem sF_half (hd:Pl.Wf d) (hh:h < 4 * d.n) (hi:is3 d h) {k q:Nat} {W:Nat → Prop} (hl:Pl.Half (4 * d.n) d.m (Pl.cj (sT d h) d.m) W (sF d h k)) (hq:d.m (th d h k) = Pl.tn q 1) (hql:q < 4 * d.n) (e:Pl.cj (sT d h) d.m (Pl.tn (th d h k) 2) = Pl.tn q 3) :
 Pl.Half (4 * d.n) d.m (Pl.cj (sT d h) d.m) (fun x => W x ∨ x = Pl.tn (th d h k) 2 ∨ x = Pl.tn q 3) (sF d h (k + 1)) := by
 have J:=sj_at hd hh hi
 have lh:=th_lt hd hh k
 have l1:Pl.tn (th d h k) 2 < 4 * d.n:=Pl.tn_lt lh
 have l2:Pl.tn q 3 < 4 * d.n:=Pl.tn_lt hql
 have e':Pl.cj (sT d h) d.m (Pl.tn q 3) = Pl.tn (th d h k) 2:=by
  rw [← e]
  unfold Pl.cj
  rw [J.ff,J.inv _ (J.fl _ l1),J.ff]
 show Pl.Half _ _ _ _ (jn (sF d h k) (sb d h k) (sf d h k))
 rw [jn_eq]
 rcases ends hd lh hq with ⟨e1,_,_,e4⟩ | ⟨e1,_,_,e4⟩ <;> rw [e1,e4]
 ·exact hl.join l1 l2 e e'
 ·refine (hl.join l2 l1 e' e).mono ?_
  rintro x (h | h | h)
  ·exact .inl h
  ·exact .inr (.inr h)
  ·exact .inr (.inl h)
theorem sF_v (hd:Pl.Wf d) (hh:h < 4 * d.n) (hi:is3 d h):∀ x,x < 4 * d.n → (sF d h 3).getD x 0 = Pl.cj (sT d h) d.m x := by
 have T:=tri_at hd hh hi
 have T':=T.flip
 have J:=sj_at hd hh hi
 have t0:=th_lt hd hh 0
 have t1:=th_lt hd hh 1
 have t2:=th_lt hd hh 2
 have a0:Pl.Half (4 * d.n) d.m (Pl.cj (sT d h) d.m) _ (sF d h 0):=sM_half hd hh hi (4 * d.n) (Nat.le_refl _)
 have a1:=sF_half hd hh hi (k := 0) (q := th d h 1) a0 T.ah0 t1 T'.ah0
 have a2:=sF_half hd hh hi (k := 1) (q := th d h 2) a1 T.ah1 t2 T'.ah1
 have a3:=sF_half hd hh hi (k := 2) (q := th d h 0) a2 T.ah2 t0 T'.ah2
 refine J.all a3 (fun u hu ho => ⟨?_,?_,?_⟩)
 ·exact .inl (.inl (.inl ⟨u,hu,ho,.inl rfl⟩))
 ·exact .inl (.inl (.inl ⟨u,hu,ho,.inr rfl⟩))
 ·rcases ho with h | h | h | h | h | h <;> simp [h]
theorem sld_m (hd:Pl.Wf d) (hh:h < 4 * d.n) (hi:is3 d h):∀ x,x < 4 * d.n → (sldD d h).m x = Pl.cj (sT d h) d.m x := fun x hx => by
 rw [← sF_v hd hh hi x hx,← getD_m (by show x < (sF d h 3).length; rw [sF_len hd]; exact hx)]
 rfl
theorem sld_valid (hd:Pl.Valid d) (hh:h < 4 * d.n) (hi:is3 d h):Pl.Valid (sldD d h) :=
 have hw:=(Pl.Valid.iff.1 hd).1
 (tr_of hh hi).valid hd rfl rfl (sF_len hw h 3) (sld_m hw hh hi)
end
end Go.Proofs.YtghdiolnonejaaaGreatDoor
end
section
namespace Go.Proofs.YtghdiolnonejaaaGreatDoor
open Go Go.RowKit
attribute [local go_sem ↓] Go.wp_at_zero Go.wp_at_succ
theorem moveInfo:(Tryz.prog.info? 43).map (fun i => (i.zero,i.size,i.bytes)) = some (some (.agg #[.int .i64 0,.int .i64 0,.int .i64 0,.int .i64 0,.bool false]),5,40) := by kernel_rfl
def Mv.cells (m:Mv):List Value := [.int .i64 m.kind,.int .i64 m.x,.int .i64 m.y,.int .i64 m.sign,.bool m.over]
def mvs (ms:List Mv):List Value := ms.flatMap Mv.cells
theorem mvs_len:∀ ms:List Mv,(mvs ms).length = ms.length * 5
 | [] => rfl
 | m :: ms => by
   have:=mvs_len ms
   unfold mvs at this ⊢
   rw [List.flatMap_cons,List.length_append,this,List.length_cons]
   simp [Mv.cells]
   omega
theorem mvs_app (ms:List Mv) (m:Mv):mvs (ms ++ [m]) = mvs ms ++ m.cells := by unfold mvs; simp
structure ML (w:World) (gd gl:Nat) (dv:List Value) (v:Value) (ms:List Mv) (W:World):Prop where
 d:Row W gd 24 dv
 l:Row W gl 27 [v]
 o:W.ownsRow (gl + 1) 43 5 v ms.length (mvs ms)
 bel:Below w.heap.size w W
 lo:w.heap.size ≤ gd
 lt:gd < gl
section
variable {w W W' W2:World} {gd gl:Nat} {dv:List Value} {v v':Value} {ms:List Mv} {m:Mv}
theorem own_below {base:Nat} {e:TypeId} {size n:Nat} {xs:List Value} (h:W.ownsRow base e size v n xs) (hb:Below W.heap.size W W'):W'.ownsRow base e size v n xs := by
 refine ⟨h.1,?_⟩
 rcases h.2 with hz | ⟨g,cap,cur,r1,r2,r3,r4⟩
 ·exact .inl hz
 ·exact .inr ⟨g,cap,cur,r1,r2,(hb.block g (lt_of_heap r3)).trans r3,r4⟩
theorem ML.below (h:ML w gd gl dv v ms W) (hb:Below W.heap.size W W'):ML w gd gl dv v ms W' :=
 ⟨h.d.below hb,h.l.below hb,own_below h.o hb,h.bel.trans (hb.mono h.bel.size),h.lo,h.lt⟩
theorem ML.alloc (h:ML w gd gl dv v ms W) (o:Obj):ML w gd gl dv v ms (W.alloc o) := h.below ((Below.refl _ _).alloc (Nat.le_refl _) o)
theorem ML.big (h:ML w gd gl dv v ms W):gl < W.heap.size := h.l.lt
theorem ML.far (h:ML w gd gl dv v ms W) {g:Nat} (hg:g ≤ gl):some g ≠ v.ownBlock := fun e => by have := (h.o.lt g e.symm).1; omega
theorem ML.push (h:ML w gd gl dv v ms W) (own:W2.ownsRow (gl + 1) 43 5 v' (ms.length + 1) (mvs ms ++ m.cells)) (gr:W.grownBy W2 v.ownBlock):ML w gd gl dv v' (ms ++ [m]) (W2.setCell ⟨gl,0,none⟩ v') := by
 have a:=h.lo
 have b:=h.lt
 refine ⟨(h.d.grown gr (h.far (by omega))).other (by show gd ≠ gl; omega) _,(h.l.grown gr (h.far (Nat.le_refl _))).set 0 v',?_,?_,h.lo,h.lt⟩
 ·rw [mvs_app,List.length_append]
  exact ownsRow_setCell_below own (by show gl < gl + 1; omega) _
 ·exact (h.bel.grown gr h.bel.size (fun k hk => by have := (h.o.lt k hk).1; omega)).setCell (by show _ ≤ gl; omega) _
end
theorem five_news (W:World) (g:Nat) (hg:W.heap.size = g) (m:Mv):∀ j u,m.cells[j]? = some u → (W.alloc (.cells m.cells.toArray 43)).cell? ((⟨g,0,none⟩:Addr).add j) = some u := by
 subst hg
 intro j u hu
 rw [Addr.add_lit,Nat.zero_add]
 have hj:j < m.cells.length:=by
  rcases Nat.lt_or_ge j m.cells.length with h | h
  ·exact h
  ·rw [List.getElem?_eq_none h] at hu; cases hu
 have:=(Row.new W 43 m.cells).cell hj
 rw [this,← hu,List.getElem?_eq_getElem hj]
theorem box1 {W:World} {g:Nat} {t:TypeId} {a:Value} (h:Row W g t [a]):W.cell? ⟨g,0,none⟩ = some a ∧ ∀ o,W.frozen? ⟨g,o,none⟩ = false := ⟨h.cell (i := 0) (by simp),h.free⟩
def slP (d:Pl.Dg) (h:Nat):Prop := h ≤ th d h 1 ∧ h ≤ th d h 2 ∧ isT d h
open Classical in
noncomputable def slOne (d:Pl.Dg) (h:Nat):List Mv := if slP d h then [⟨5,h,0,0,false⟩] else []
set_option maxRecDepth 100000 in
set_option maxHeartbeats 4000000 in
theorem slTry_any (d:Pl.Dg) (hd:Pl.Wf d) (A B:Option Addr) (cp cq m h gd gl:Nat) (v:Value) (ms:List Mv) (w0 w:World) (hm:m = 4 * d.n) (hg:DgAt w A B d) (hh:h < 4 * d.n) (hms:ms.length ≤ 1000)
 (hp:ML w0 gd gl [.slice A d.n cp,.slice B m cq,.int .i64 (d.lp:Int)] v ms w) :
 Calls Tryz.prog 104 #[.agg #[.int .i64 5,.int .i64 (h:Int),.int .i64 0,.int .i64 0,.bool false],.pointer (some ⟨gd,0,none⟩),.pointer (some ⟨gl,0,none⟩)] w fun e w' => e = .returned (.tuple #[]) ∧ ∃ v',ML w0 gd gl [.slice A d.n cp,.slice B m cq,.int .i64 (d.lp:Int)] v' (ms ++ slOne d h) w' := by
 have HM:=hide hm
 have HG:=hide hg
 have hn:=hd.few
 have hm2:m ≤ 256:=by omega
 have hHM:h < m:=by omega
 obtain ⟨i,hi⟩:∃ i,i = th d h 1 := ⟨_,rfl⟩
 obtain ⟨j,hj⟩:∃ j,j = th d h 2 := ⟨_,rfl⟩
 have li:i < m:=by have := th_lt hd hh 1; omega
 have lj:j < m:=by have := th_lt hd hh 2; omega
 have HI:=hide (show Pl.nx d h = i from hi.symm)
 have HJ:=hide (show Pl.nx d i = j from by rw [hi,hj]; rfl)
 have HT:=hide (show slP d h ↔ h ≤ i ∧ h ≤ j ∧ isT d h by unfold slP; rw [hi,hj])
 clear hi hj hm
 have ih0:(0:Int) ≤ (h:Int) ∧ (h:Int) < (m:Int):=by omega
 have ii0:(0:Int) ≤ (i:Int) ∧ (i:Int) < (m:Int):=by omega
 have hb0:Below w.heap.size w (w.alloc (.cells #[.int .i64 5,.int .i64 (h:Int),.int .i64 0,.int .i64 0,.bool false] 43)):=(Below.refl _ _).alloc (Nat.le_refl _) _
 have HB0:=hide hb0
 have P1:=hide (hp.below hb0)
 have M1:=hide (row_at (W := w) (g := w.heap.size) (t := 43) (vs := [.int .i64 5,.int .i64 (h:Int),.int .i64 0,.int .i64 0,.bool false]) rfl)
 have hgl:gl < w.heap.size:=hp.big
 have hgd:gd < gl:=hp.lt
 clear hp hb0 hg
 obtain ⟨d0,d1,d2,d3⟩:=box3 P1.out.d
 obtain ⟨e0,e1,e2,e3,e4,e5⟩:=box5 M1.out
 go_enter Tryz.func104,Tryz.ntmps104
 go_wp2_with fail
 refine (next_i d hd B cq m (h:Int) _ HM.out ih0 (by rw [HM.out]; exact (HG.out.keep HB0.out).m)).mono ?_
 rintro e w1 ⟨rfl,rfl⟩
 rw [Int.toNat_natCast,HI.out]
 go_wp2_with fail
 refine (next_i d hd B cq m (i:Int) _ HM.out ii0 (by rw [HM.out]; exact (HG.out.keep HB0.out).m)).mono ?_
 rintro e w1 ⟨rfl,rfl⟩
 rw [Int.toNat_natCast,HJ.out]
 by_cases c1:(i:Int) < (h:Int)
 ·have E:=hide (show slOne d h = [] by unfold slOne; rw [if_neg (fun h => by have := HT.out.1 h; omega)])
  go_wp2
  refine bodyPost_ret (results_none rfl _ _ _) rfl ⟨rfl,v,?_⟩
  rw [E.out,List.append_nil]
  exact P1.out
 ·by_cases c2:(j:Int) < (h:Int)
  ·have E:=hide (show slOne d h = [] by unfold slOne; rw [if_neg (fun h => by have := HT.out.1 h; omega)])
   go_wp2
   refine bodyPost_ret (results_none rfl _ _ _) rfl ⟨rfl,v,?_⟩
   rw [E.out,List.append_nil]
   exact P1.out
  ·go_wp2_with fail
   refine (tri_v d hd A B cp cq m h _ HM.out (HG.out.keep HB0.out) hh).mono ?_
   rintro e w1 ⟨b0,o0,i0,f0,b1,o1,i1,f1,b2,o2,i2,f2,rfl,_,hb1⟩
   have P2:=hide (P1.out.below hb1)
   have M2:=hide (M1.out.below hb1)
   have hs1:=hb1.size
   have hs20:w.heap.size + 1 ≤ w1.heap.size:=by simpa using hs1
   have hs2:w.heap.size < w1.heap.size:=by omega
   clear hs20
   have hs3:gl < w1.heap.size:=by omega
   have hs4:gl < w1.heap.size + 1:=by omega
   have hs5:w.heap.size < w1.heap.size + 1:=by omega
   clear hb1 hs1 d0 d1 d2 d3 e0 e1 e2 e3 e4 e5
   obtain ⟨e0,e1,e2,e3,e4,e5⟩:=box5 M2.out
   by_cases hI:isT d h
   ·rw [Pl.vb_true hI]
    have E:=hide (show slOne d h = [⟨5,h,0,0,false⟩] by unfold slOne; rw [if_pos (HT.out.2 ⟨by omega,by omega,hI⟩)])
    clear hI
    obtain ⟨q0,q1⟩:=box1 P2.out.l
    obtain ⟨n0,hn0,hz0,hz1,hz2⟩:=info_parts moveInfo
    have P3:=hide (P2.out.alloc (.cells #[.int .i64 (b0:Int),.int .i64 (o0:Int),.int .i64 (i0:Int),.int .i64 (f0:Int),.int .i64 (b1:Int),.int .i64 (o1:Int),.int .i64 (i1:Int),.int .i64 (f1:Int),.int .i64 (b2:Int),.int .i64 (o2:Int),.int .i64 (i2:Int),.int .i64 (f2:Int)] 137))
    have A0:=hide (P3.out.alloc (.cells (Mv.cells ⟨5,h,0,0,false⟩).toArray 43)).o
    have A1:∀ u ∈ Mv.cells ⟨5,h,0,0,false⟩,u.oneCell' = true:=by simp [Mv.cells,Value.oneCell']
    have A2:ms.length + 1 ≤ maxLen:=by unfold maxLen; omega
    have A3:(ms.length + 1) * 40 ≤ 140737488355328:=by omega
    have A4:gl + 1 ≤ w1.heap.size + 1 + 1:=by omega
    have A5:=five_news (w1.alloc (.cells #[.int .i64 (b0:Int),.int .i64 (o0:Int),.int .i64 (i0:Int),.int .i64 (f0:Int),.int .i64 (b1:Int),.int .i64 (o1:Int),.int .i64 (i1:Int),.int .i64 (f1:Int),.int .i64 (b2:Int),.int .i64 (o2:Int),.int .i64 (i2:Int),.int .i64 (f2:Int)] 137)) (w1.heap.size + 1) (by simp) ⟨5,h,0,0,false⟩
    have A6:=hide A5
    clear A5
    go_wp2_with (at_builtin; refine wpList_append_lies _ (by rfl) _ _ 27 (by rfl) (gl + 1) 43 n0 (.agg #[.int .i64 0,.int .i64 0,.int .i64 0,.int .i64 0,.bool false]) 5 40 Tryz.underlying27 hn0 hz0 hz1 hz2 rfl (by omega) v ms.length (mvs ms) (by rfl) A0.out ⟨w1.heap.size + 1,0,none⟩ 1 1 (Mv.cells ⟨5,h,0,0,false⟩) (by rfl) (by rfl) A6.out A1 (by omega) A2 A3 (by simp; omega) (w1.heap.size + 1 + 1) (by simp) ?_; intro g2 c2 w2 own2 grow2 at2 lt2; obtain ⟨q2,q3⟩:=box1 ((P3.out.alloc (.cells (Mv.cells ⟨5,h,0,0,false⟩).toArray 43)).l.grown grow2 ((P3.out.alloc (.cells (Mv.cells ⟨5,h,0,0,false⟩).toArray 43)).far (Nat.le_refl _))); have OWN2 := hide own2; have GR2 := hide grow2; clear own2 grow2 at2)
    refine bodyPost_end (results_none rfl _ _ _) rfl ⟨rfl,.slice (some ⟨g2,0,none⟩) (ms.length + 1) c2,?_⟩
    rw [E.out]
    exact (P3.out.alloc _).push OWN2.out GR2.out
   ·rw [Pl.vb_false hI]
    have E:=hide (show slOne d h = [] by unfold slOne; rw [if_neg (fun h => hI (HT.out.1 h).2.2)])
    clear hI
    go_wp2
    refine bodyPost_end (results_none rfl _ _ _) rfl ⟨rfl,v,?_⟩
    rw [E.out,List.append_nil]
    exact P2.out.alloc _
noncomputable def slL (d:Pl.Dg):Nat → List Mv
 | 0 => []
 | k + 1 => slL d k ++ slOne d k
theorem slL_len (d:Pl.Dg):∀ k,(slL d k).length ≤ k
 | 0 => Nat.le_refl _
 | k + 1 => by
   have:=slL_len d k
   unfold slL slOne
   rw [List.length_append]
   split <;> simp <;> omega
def MovesAt (w:World) (v:Value) (ms:List Mv):Prop := ∃ base,w.ownsRow base 43 5 v ms.length (mvs ms)
set_option maxRecDepth 100000 in
set_option maxHeartbeats 4000000 in
theorem slides_any (d:Pl.Dg) (hd:Pl.Wf d) (A B:Option Addr) (cp cq m:Nat) (w:World) (hm:m = 4 * d.n) (hg:DgAt w A B d) :
 Calls Tryz.prog 72 #[.agg #[.slice A d.n cp,.slice B m cq,.int .i64 d.lp]] w fun e w' => ∃ v,e = .returned v ∧ MovesAt w' v (slL d m) ∧ Below w.heap.size w w' := by
 have HM:=hide hm
 have HG:=hide hg
 have hn:=hd.few
 have hm2:m ≤ 256:=by omega
 have P0:=hide (show ML w w.heap.size (w.heap.size + 1) [.slice A d.n cp,.slice B m cq,.int .i64 (d.lp:Int)] (.slice none 0 0) [] ((w.alloc (.cells #[.slice A d.n cp,.slice B m cq,.int .i64 (d.lp:Int)] 24)).alloc (.cells #[.slice none 0 0] 27)) from
  ⟨(row_at (vs := [_,_,_]) rfl).alloc _,row_at (vs := [_]) (by simp),⟨rfl,.inl ⟨rfl,rfl⟩⟩,((Below.refl _ _).alloc (Nat.le_refl _) _).alloc (by simp) _,Nat.le_refl _,by omega⟩)
 clear hg hm
 go_enter Tryz.func72,Tryz.ntmps72
 go_wp2
 go_loopg [5,10] m (fun g s5 s10 wx => ∃ (k:Nat) (v:Value),k + g = m ∧ s10 = .int .i64 (k:Int) ∧ ML w w.heap.size (w.heap.size + 1) [.slice A d.n cp,.slice B m cq,.int .i64 (d.lp:Int)] v (slL d k) wx)
 case atStart => exact ⟨0,_,by omega,rfl,P0.out⟩
 case round =>
  clear P0
  obtain ⟨k,v,hkg,rfl,hp⟩:=hrel
  have HKG:=hide hkg
  have PK:=hide hp
  have hlen:=slL_len d k
  clear hp
  by_cases hk:k < m
  ·have hki:(k:Int) < (m:Int):=by omega
   clear hkg
   go_wp2_with fail
   refine (slTry_any d hd A B cp cq m k w.heap.size (w.heap.size + 1) v (slL d k) w wr HM.out (HG.out.keep PK.out.bel) (by have := HM.out; omega) (by omega) PK.out).mono ?_
   rintro e w1 ⟨rfl,v',hp1⟩
   have P1:=hide hp1
   clear hp1
   go_wp2
   go_roundg (gk - 1)
   case measure => have := HKG.out; omega
   case rel => exact ⟨k + 1,v',by have := HKG.out; omega,by go_num,P1.out⟩
  ·have hki:¬ ((k:Int) < (m:Int)):=by omega
   have e:k = m:=by omega
   subst e
   obtain ⟨q0,q1⟩:=box1 PK.out.l
   clear hkg
   go_wp2
   go_ret
   exact ⟨v,rfl,⟨_,PK.out.o⟩,PK.out.bel⟩
end Go.Proofs.YtghdiolnonejaaaGreatDoor
end
section
namespace Go.Proofs.YtghdiolnonejaaaGreatDoor
open Go Go.RowKit
def needP (x y sg:Int):Nat := (if x < 0 then 1 else 0) + (if y < 0 ∧ sg = 0 then 1 else 0)
def pkC (d:Pl.Dg) (F P:List Nat) (x y sg:Int):Int :=
 if d.lp < needP x y sg then 6 else if 0 ≤ x ∧ 0 ≤ y ∧ x ≠ y ∧ nearB F P d x.toNat y.toNat = false then 6 else if 64 < d.n + 2 then 5 else 0
def PkPost (d:Pl.Dg) (F P:List Nat) (x y sg:Int) (w:World) (e:Ending) (w':World):Prop := e = .returned (.int .i64 (pkC d F P x y sg)) ∧ Below w.heap.size w w'
set_option maxRecDepth 100000 in
set_option maxHeartbeats 2000000 in
theorem pokeable_any (d:Pl.Dg) (F P:List Nat) (A B L R:Option Addr) (cp cq cl cr m:Nat) (k x y sg:Int) (ov:Bool) (w:World) (hm:m = 4 * d.n) (hs:ShAt w A B L R d F P) (hn:d.n ≤ 64) (hlp:d.lp ≤ 64) (hx:-2 ≤ x ∧ x < 4 * d.n) (hy:-2 ≤ y ∧ y < 4 * d.n) :
 Calls Tryz.prog 80 #[sheetV A B L R d.n m d.lp cp cq cl cr,.agg #[.int .i64 k,.int .i64 x,.int .i64 y,.int .i64 sg,.bool ov]] w (PkPost d F P x y sg w) := by
 unfold sheetV
 obtain ⟨W,hW⟩:∃ W,W = (w.alloc (.cells #[.slice A d.n cp,.slice B m cq,.int .i64 d.lp,.slice L m cl,.slice R d.n cr] 82)).alloc (.cells #[.int .i64 k,.int .i64 x,.int .i64 y,.int .i64 sg,.bool ov] 43) := ⟨_,rfl⟩
 have BX:=hide (show Row W w.heap.size 82 [.slice A d.n cp,.slice B m cq,.int .i64 d.lp,.slice L m cl,.slice R d.n cr] by rw [hW]; exact (Row.new w _ [_,_,_,_,_]).alloc _)
 have BM:=hide (show Row W (w.heap.size + 1) 43 [.int .i64 k,.int .i64 x,.int .i64 y,.int .i64 sg,.bool ov] by rw [hW]; exact row_at (vs := [_,_,_,_,_]) (by simp))
 have B0:=hide (show Below w.heap.size w W by rw [hW]; exact ((Below.refl _ _).alloc (Nat.le_refl _) _).alloc (by simp) _)
 have HS:=hide (hs.keep B0.out)
 have HM:=hide hm
 have HW:=hide hW
 clear hs hW hm
 go_enter Tryz.func80,Tryz.ntmps80
 go_upto_region 2 with (fail)
 rw [← HW.out]
 obtain ⟨f0,f1,f2,f3,f4,f5⟩:=box5 BX.out
 obtain ⟨m0,m1,m2,m3,m4,m5⟩:=box5 BM.out
 by_cases hx0:0 ≤ x <;> by_cases hy0:0 ≤ y
 ·obtain ⟨a,rfl⟩:=Int.eq_ofNat_of_zero_le hx0
  obtain ⟨b,rfl⟩:=Int.eq_ofNat_of_zero_le hy0
  have t1:decide ((d.lp:Int) < 0) = false:=by simp
  have HN:=hide (show ∀ a b:Nat,needP (a:Int) (b:Int) sg = 0 from fun a b => by unfold needP; rw [if_neg (by omega),if_neg (by omega)])
  by_cases hab:a = b
  ·subst hab
   go_wp2
   all_goals
    go_ret
    refine ⟨ret_int ?_,B0.out⟩
    unfold pkC
    rw [HN.out,if_neg (by omega),if_neg (by simp)]
    first | rw [if_pos (by omega)] | rw [if_neg (by omega)]
  ·have t2:((a:Int) != (b:Int)) = true:=by rw [bne_iff_ne]; omega
   go_wp2_with fail
   refine (near_any d F P A B L R cp cq cl cr m a b _ HM.out HS.out hn (by omega) (by omega)).mono ?_
   rintro e w1 ⟨rfl,hb1⟩
   have B1:=hide (B0.out.trans (hb1.mono B0.out.size))
   obtain ⟨q0,q1,q2,q3,q4,q5⟩:=box5 (BX.out.below hb1)
   clear hb1
   cases hnb:nearB F P d a b with
   | true =>
     have HNB:=hide hnb
     clear hnb
     go_wp2
     all_goals
      go_ret
      refine ⟨ret_int ?_,B1.out⟩
      unfold pkC
      rw [HN.out,if_neg (by omega),if_neg (by simp [HNB.out])]
      first | rw [if_pos (by omega)] | rw [if_neg (by omega)]
   | false =>
     have HNB:=hide hnb
     clear hnb
     go_wp2
     all_goals
      go_ret
      refine ⟨ret_int ?_,B1.out⟩
      unfold pkC
      rw [HN.out,if_neg (by omega),if_pos ⟨by omega,by omega,by omega,by simpa using HNB.out⟩]
 all_goals
  by_cases hs0:sg = 0
  all_goals
   go_wp2
   all_goals
    go_ret
    refine ⟨ret_int ?_,B0.out⟩
    unfold pkC needP
    simp only [ne_eq,beq_iff_eq,beq_eq_false_iff_ne,and_true] at *
    repeat' split
    all_goals omega
end Go.Proofs.YtghdiolnonejaaaGreatDoor
end
section
namespace Go.Proofs.YtghdiolnonejaaaGreatDoor
open Go Go.RowKit
attribute [local go_sem ↓] Go.wp_at_zero Go.wp_at_succ
structure PB (w:World) (s5 m5:List Value) (W:World):Prop where
 s:Row W w.heap.size 82 s5
 m:Row W (w.heap.size + 1) 43 m5
 rd:∃ vs,Row W (w.heap.size + 1 + 1) 24 vs ∧ vs.length = 3
 rm:∃ us,Row W (w.heap.size + 1 + 1 + 1) 43 us ∧ us.length = 5
 bel:Below w.heap.size w W
section
variable {w W W':World} {s5 m5:List Value}
end
section
variable {w:World} {gd gn gr gf g1 c1 n1 g2 c2 n2 base n u0 u1:Nat} {s5 m5 dv ss:List Value} {lpr:Int} {mt:List Nat} {W W2:World}
end
def pP (d:Pl.Dg) (x y:Int) (ov:Bool) (t:Nat):Nat := plc d.n (un0 d x y ov) t
def pQ (d:Pl.Dg) (x y:Int) (ov:Bool) (t:Nat):Nat := plc (d.n + 1) (un1 d x y ov) t
def pk0 (d:Pl.Dg) (x y:Int) (ov:Bool):List Nat := jn (jn (d.mt ++ List.replicate 8 0) (pP d x y ov 1) (pQ d x y ov 1)) (pQ d x y ov 2) (pP d x y ov 0)
def pkM (d:Pl.Dg) (x y sg:Int) (ov:Bool):List Nat :=
 if sg ≠ 0 ∧ x < 0 then jn (jn (pk0 d x y ov) (pQ d x y ov 3) (pQ d x y ov 0)) (pP d x y ov 2) (pP d x y ov 3)
 else if sg = 1 then jn (jn (jn (pk0 d x y ov) x.toNat (pP d x y ov 3)) (pQ d x y ov 3) (pQ d x y ov 0)) (pP d x y ov 2) (d.m x.toNat)
 else if sg = -1 then jn (jn (jn (pk0 d x y ov) x.toNat (pQ d x y ov 0)) (pP d x y ov 2) (pP d x y ov 3)) (pQ d x y ov 3) (d.m x.toNat)
 else leadM d (leadM d (pk0 d x y ov) y (pQ d x y ov 0) (pP d x y ov 2)) x (pP d x y ov 3) (pQ d x y ov 3)
def pkL (d:Pl.Dg) (x y sg:Int):Int := if sg ≠ 0 ∧ x < 0 then (d.lp:Int) - 1 else if sg = 0 then (if x < 0 then (if y < 0 then (d.lp:Int) - 1 else d.lp) - 1 else (if y < 0 then (d.lp:Int) - 1 else d.lp)) else d.lp
def pkD (d:Pl.Dg) (x y sg:Int) (ov:Bool):Pl.Dg := ⟨d.sg ++ [sgn2 (un0 d x y ov) (ov0 d x y ov),sgn2 (un1 d x y ov) (ov1 d x y ov)],pkM d x y sg ov,(pkL d x y sg).toNat⟩
end Go.Proofs.YtghdiolnonejaaaGreatDoor
end
section
namespace Go.Proofs.YtghdiolnonejaaaGreatDoor
open Go Go.RowKit
def lpv (d:Pl.Dg) (h:Nat):Int := if Pl.out d h then -2 else -1
def oldv (d:Pl.Dg) (x y h:Nat):Int := (Pl.shf [x,y] (d.m h):Nat)
theorem loopF_any (d:Pl.Dg) (hd:Pl.Wf d) (A B:Option Addr) (cp cq m g h:Nat) (w:World) (hr:Row w g 24 [.slice A d.n cp,.slice B m cq,.int .i64 (d.lp:Int)]) (hg:DgAt w A B d) (hh:h < 4 * d.n) :
 Calls Tryz.prog 112 #[.int .i64 (h:Int),.pointer (some ⟨g,0,none⟩)] w fun e w' => e = .returned (.int .i64 (lpv d h)) ∧ Below w.heap.size w w' := by
 obtain ⟨d0,d1,d2,d3⟩:=box3 hr
 have hn:=hd.few
 go_enter Tryz.func112,Tryz.ntmps112
 go_wp2_with fail
 refine (out2_n d A B d.n cp m cq (.int .i64 (d.lp:Int)) h _ rfl hh (by omega) hg.s).mono ?_
 rintro e w1 ⟨rfl,hb1⟩
 cases ho:Pl.out d h with
 | true =>
   have E:=hide (show lpv d h = -2 by unfold lpv; rw [ho]; rfl)
   clear ho
   go_wp2
   go_ret
   exact ⟨ret_int E.out.symm,hb1⟩
 | false =>
   have E:=hide (show lpv d h = -1 by unfold lpv; rw [ho]; rfl)
   clear ho
   go_wp2
   go_ret
   exact ⟨ret_int E.out.symm,hb1⟩
set_option maxRecDepth 100000 in
set_option maxHeartbeats 1000000 in
theorem oldF_any (d:Pl.Dg) (hd:Pl.Wf d) (A B:Option Addr) (cp cq m g gm x y h:Nat) (k sg:Int) (ov:Bool) (w:World) (hm:m = 4 * d.n) (hr:Row w g 24 [.slice A d.n cp,.slice B m cq,.int .i64 (d.lp:Int)]) (hrm:Row w gm 43 [.int .i64 k,.int .i64 (x:Int),.int .i64 (y:Int),.int .i64 sg,.bool ov]) (hg:DgAt w A B d) (hh:h < 4 * d.n) (hxy:x < y) :
 Calls Tryz.prog 113 #[.int .i64 (h:Int),.pointer (some ⟨g,0,none⟩),.pointer (some ⟨gm,0,none⟩)] w fun e w' => e = .returned (.int .i64 (oldv d x y h)) ∧ Below w.heap.size w w' := by
 obtain ⟨d0,d1,d2,d3⟩:=box3 hr
 obtain ⟨m0,m1,m2,m3,m4,m5⟩:=box5 hrm
 have hn:=hd.few
 have l1:=hr.lt
 have l2:=hrm.lt
 have hmh:h < m:=by omega
 have ih0:(0:Int) ≤ (h:Int):=by omega
 have ih1:(h:Int) < (m:Int):=by omega
 obtain ⟨mb,mo,rfl,cm⟩:=mate_at hg.m hh
 have l3:mb < w.heap.size:=lt_of_cell cm
 have hmm:=hd.lt h hh
 have E:=hide (show oldv d x y h = (Pl.shf [x,y] (d.m h):Nat) from rfl)
 obtain ⟨u,hu⟩:∃ u,u = d.m h := ⟨_,rfl⟩
 rw [← hu] at cm hmm E
 clear hu
 have HM:=hide hm
 have HG:=hide hg
 clear hm hg hr hrm
 go_enter Tryz.func113,Tryz.ntmps113
 go_wp2_with fail
 go_region_held3 (fun w' => w'.cell? ⟨g,1,none⟩ = some (.slice (some ⟨mb,mo,none⟩) m cq) ∧ w'.cell? ⟨mb,mo + h,none⟩ = some (.int .i64 (u:Int)) ∧ w'.cell? ⟨gm,1,none⟩ = some (.int .i64 (x:Int)) ∧ w'.cell? ⟨gm,2,none⟩ = some (.int .i64 (y:Int)))
  (first | go_keep | assumption | (exact ⟨by simpa [l1] using d1,by simpa [l3] using cm,by simpa [l2] using m1,by simpa [l2] using m2⟩))
  (first
    | (go_at_call 78
       refine Calls.mono (shifted_any [x,y] (some ⟨w.heap.size,0,none⟩) 2 2 u _ (by exact two_ints w (x:Int) (y:Int)) (by omega) (by omega) (Pl.few_two hxy)) ?_
       rintro e w4 ⟨rfl,rfl⟩))
 all_goals
  go_wp2
  go_ret
  refine ⟨ret_int ?_,?_⟩
  ·rw [E.out]
  ·exact ((Below.refl _ _).alloc (Nat.le_refl _) _).drew
end Go.Proofs.YtghdiolnonejaaaGreatDoor
end
section
namespace Go.Proofs.YtghdiolnonejaaaGreatDoor
open Go Go.RowKit
attribute [local go_sem ↓] Go.wp_at_zero Go.wp_at_succ
structure Ln where
 p0:Nat
 p1:Nat
 p2:Nat
 p3:Nat
 q0:Nat
 q1:Nat
 q2:Nat
 q3:Nat
def Ln.cells (l:Ln):List Value := [.int .i64 (l.p0:Int),.int .i64 (l.p1:Int),.int .i64 (l.p2:Int),.int .i64 (l.p3:Int),.int .i64 (l.q0:Int),.int .i64 (l.q1:Int),.int .i64 (l.q2:Int),.int .i64 (l.q3:Int)]
def lensOf (d:Pl.Dg) (h:Nat):Ln := ⟨h,d.m (Pl.nx d h),Pl.tn h 2,Pl.tn (d.m (Pl.nx d h)) 2,Pl.tn (d.m h) 2,Pl.nx d h,d.m h,Pl.tn (Pl.nx d h) 2⟩
theorem lensOf_v (d:Pl.Dg) (h:Nat):lensV d h = .agg (lensOf d h).cells.toArray := rfl
def pusX (d:Pl.Dg) (l:Ln) (x y:Nat):Int :=
 if d.m l.q3 = l.q0 then (if d.m l.p2 = l.p3 then lpv d l.p3 else oldv d x y l.p3)
 else if d.m l.p2 = l.p3 then oldv d x y l.q0 else if d.m l.p3 = l.q3 then lpv d l.p3 else oldv d x y l.p3
def pusY (d:Pl.Dg) (l:Ln) (x y:Nat):Int :=
 if d.m l.q3 = l.q0 then (if d.m l.p2 = l.p3 then lpv d l.p3 else oldv d x y l.p3)
 else if d.m l.p2 = l.p3 then oldv d x y l.q0 else if d.m l.q0 = l.p2 then lpv d l.q0 else oldv d x y l.q0
def pusS (d:Pl.Dg) (l:Ln):Int := if d.m l.q3 = l.q0 then 1 else if d.m l.p2 = l.p3 then -1 else 0
def pusI (d:Pl.Dg) (l:Ln) (x y:Nat):Mv := ⟨3,pusX d l x y,pusY d l x y,pusS d l,decide (l.q1 % 2 = 1)⟩
structure PV (w:World) (gi:Nat) (dv lv mv iv:List Value) (W:World):Prop where
 d:Row W w.heap.size 24 dv
 l:Row W (w.heap.size + 1) 131 lv
 m:Row W (w.heap.size + 1 + 1) 43 mv
 r:∃ us,Row W (w.heap.size + 1 + 1 + 1) 43 us ∧ us.length = 5
 i:Row W gi 43 iv
 bel:Below w.heap.size w W
 lo:w.heap.size + 1 + 1 + 1 < gi
section
variable {w W W':World} {gi:Nat} {dv lv mv iv:List Value}
theorem PV.drew (h:PV w gi dv lv mv iv W):PV w gi dv lv mv iv W.drew := ⟨h.d,h.l,h.m,h.r,h.i,h.bel.drew,h.lo⟩
theorem PV.drewN (h:PV w gi dv lv mv iv W) (n:Nat):PV w gi dv lv mv iv (W.drewN n) := ⟨h.d,h.l,h.m,h.r,h.i,below_drewN h.bel n,h.lo⟩
theorem PV.below (h:PV w gi dv lv mv iv W) (hb:Below W.heap.size W W'):PV w gi dv lv mv iv W' :=
 let ⟨us,r2,l2⟩:=h.r
 ⟨h.d.below hb,h.l.below hb,h.m.below hb,⟨us,r2.below hb,l2⟩,h.i.below hb,h.bel.trans (hb.mono h.bel.size),h.lo⟩
theorem PV.set (h:PV w gi dv lv mv iv W) (o:Nat) (v:Value):PV w gi dv lv mv (iv.set o v) (W.setCell ⟨gi,o,none⟩ v) :=
 have a:=h.lo
 let ⟨us,r2,l2⟩:=h.r
 ⟨h.d.other (by show _ ≠ gi; omega) v,h.l.other (by show _ ≠ gi; omega) v,h.m.other (by show _ ≠ gi; omega) v,⟨us,r2.other (by show _ ≠ gi; omega) v,l2⟩,h.i.set o v,h.bel.setCell (by show _ ≤ gi; omega) v,h.lo⟩
end
def PW (w:World) (gi:Nat) (dv lv mv:List Value) (a s e:Value) (W:World):Prop := ∃ b c,PV w gi dv lv mv [a,b,c,s,e] W
section
variable {w W W':World} {gi:Nat} {dv lv mv:List Value} {a s e:Value}
theorem PW.drew (h:PW w gi dv lv mv a s e W):PW w gi dv lv mv a s e W.drew := let ⟨b,c,h⟩:=h; ⟨b,c,h.drew⟩
theorem PW.below (h:PW w gi dv lv mv a s e W) (hb:Below W.heap.size W W'):PW w gi dv lv mv a s e W' := let ⟨b,c,h⟩:=h; ⟨b,c,h.below hb⟩
theorem PW.set1 (h:PW w gi dv lv mv a s e W) (v:Value):PW w gi dv lv mv a s e (W.setCell ⟨gi,1,none⟩ v) := let ⟨_,c,h⟩:=h; ⟨v,c,h.set 1 v⟩
theorem PW.set2 (h:PW w gi dv lv mv a s e W) (v:Value):PW w gi dv lv mv a s e (W.setCell ⟨gi,2,none⟩ v) := let ⟨b,_,h⟩:=h; ⟨b,v,h.set 2 v⟩
theorem PW.fin (h:PW w gi dv lv mv a s e W) (v u:Value):PV w gi dv lv mv [a,v,u,s,e] ((W.setCell ⟨gi,1,none⟩ v).setCell ⟨gi,2,none⟩ u) := let ⟨_,_,h⟩:=h; (h.set 1 v).set 2 u
theorem PW.all {l0 l1 l2 l3 l4 l5 l6 l7:Value} (h:PW w gi dv [l0,l1,l2,l3,l4,l5,l6,l7] mv a s e W):W.cell? ⟨w.heap.size + 1,3,none⟩ = some l3 ∧ W.cell? ⟨w.heap.size + 1,4,none⟩ = some l4 ∧ W.cell? ⟨gi,1,none⟩ = some (cv W ⟨gi,1,none⟩) ∧ W.cell? ⟨gi,2,none⟩ = some (cv W ⟨gi,2,none⟩) ∧ (∀ o,W.frozen? ⟨gi,o,none⟩ = false) ∧ PW w gi dv [l0,l1,l2,l3,l4,l5,l6,l7] mv a s e W := by
 have h':=h
 obtain ⟨b,c,h⟩:=h
 obtain ⟨_,_,_,e3,e4,_⟩:=box8 h.l
 obtain ⟨_,f1,f2,_,_,ff⟩:=box5 h.i
 exact ⟨e3,e4,cv_some f1,cv_some f2,ff,h'⟩
end
theorem row5 {W:World} {g:Nat} {t:TypeId} {vs:List Value} (h:Row W g t vs) (l:vs.length = 5) (y0 y1 y2 y3 y4:Value) :
 Row (((((W.setCell ⟨g,0,none⟩ y0).setCell ⟨g,1,none⟩ y1).setCell ⟨g,2,none⟩ y2).setCell ⟨g,3,none⟩ y3).setCell ⟨g,4,none⟩ y4) g t [y0,y1,y2,y3,y4] := by
 obtain ⟨a,b,c,d,e,rfl⟩:∃ a b c d e,vs = [a,b,c,d,e] := by
  match vs,l with
  | [a,b,c,d,e],_ => exact ⟨a,b,c,d,e,rfl⟩
 exact ((((h.set 0 y0).set 1 y1).set 2 y2).set 3 y3).set 4 y4
def PusPost (d:Pl.Dg) (l:Ln) (x y:Nat) (w:World) (e:Ending) (w':World):Prop := e = .returned (pusI d l x y).v ∧ Below w.heap.size w w'
set_option maxRecDepth 100000 in
set_option maxHeartbeats 4000000 in
theorem pushed_any (d:Pl.Dg) (hd:Pl.Wf d) (A B:Option Addr) (cp cq m x y:Nat) (k sg:Int) (ov:Bool) (l:Ln) (w:World) (hm:m = 4 * d.n) (hg:DgAt w A B d) (hxy:x < y)
 (h2:l.p2 < 4 * d.n) (h3:l.p3 < 4 * d.n) (k0:l.q0 < 4 * d.n) (k3:l.q3 < 4 * d.n) (k1:l.q1 < 4 * d.n) :
 Calls Tryz.prog 89 #[.agg #[.slice A d.n cp,.slice B m cq,.int .i64 d.lp],.agg l.cells.toArray,.agg #[.int .i64 k,.int .i64 (x:Int),.int .i64 (y:Int),.int .i64 sg,.bool ov]] w (PusPost d l x y w) := by
 obtain ⟨p0,p1,p2,p3,q0,q1,q2,q3⟩:=l
 simp only at h2 h3 k0 k3 k1
 have hn:=hd.few
 have HM:=hide hm
 have HG:=hide hg
 have hm2:m ≤ 256:=by omega
 obtain ⟨g0,hg0⟩:∃ g0,g0 = w.heap.size + 1 + 1 + 1 + 1 := ⟨_,rfl⟩
 have V0:=hide (show PV w g0 [.slice A d.n cp,.slice B m cq,.int .i64 (d.lp:Int)] [.int .i64 (p0:Int),.int .i64 (p1:Int),.int .i64 (p2:Int),.int .i64 (p3:Int),.int .i64 (q0:Int),.int .i64 (q1:Int),.int .i64 (q2:Int),.int .i64 (q3:Int)] [.int .i64 k,.int .i64 (x:Int),.int .i64 (y:Int),.int .i64 sg,.bool ov] [.int .i64 3,.int .i64 0,.int .i64 0,.int .i64 0,.bool ((q1:Int) % 2 == 1)]
  (((((w.alloc (.cells #[.slice A d.n cp,.slice B m cq,.int .i64 (d.lp:Int)] 24)).alloc (.cells #[.int .i64 (p0:Int),.int .i64 (p1:Int),.int .i64 (p2:Int),.int .i64 (p3:Int),.int .i64 (q0:Int),.int .i64 (q1:Int),.int .i64 (q2:Int),.int .i64 (q3:Int)] 131)).alloc (.cells #[.int .i64 k,.int .i64 (x:Int),.int .i64 (y:Int),.int .i64 sg,.bool ov] 43)).alloc (.cells #[.int .i64 0,.int .i64 0,.int .i64 0,.int .i64 0,.bool false] 43)).alloc (.cells #[.int .i64 3,.int .i64 0,.int .i64 0,.int .i64 0,.bool ((q1:Int) % 2 == 1)] 43)) by
  refine ⟨((((row_at (vs := [_,_,_]) rfl).alloc _).alloc _).alloc _).alloc _,(((row_at (vs := [_,_,_,_,_,_,_,_]) (by simp)).alloc _).alloc _).alloc _,((row_at (vs := [_,_,_,_,_]) (by simp)).alloc _).alloc _,⟨[_,_,_,_,_],(row_at (vs := [_,_,_,_,_]) (by simp)).alloc _,rfl⟩,row_at (vs := [_,_,_,_,_]) (by rw [hg0]; simp),?_,by omega⟩
  exact (((((Below.refl _ _).alloc (Nat.le_refl _) _).alloc (by simp) _).alloc (by simp; omega) _).alloc (by simp; omega) _).alloc (by simp; omega) _)
 clear hm hg
 unfold Ln.cells
 go_enter Tryz.func89,Tryz.ntmps89
 go_wp2_with fail
 rw [← hg0]
 clear hg0
 obtain ⟨bb,hbb⟩:∃ bb:Bool,bb = ((q1:Int) % 2 == 1) := ⟨_,rfl⟩
 rw [← hbb] at V0 ⊢
 have HBB:=hide (show bb = decide (q1 % 2 = 1) by rw [hbb,Bool.eq_iff_iff]; simp; omega)
 clear hbb
 obtain ⟨mb,mo,rfl,_⟩:=mate_at (HG.out).m k3
 obtain ⟨W0,hW0⟩:∃ W0:World,W0 = (((((w.alloc (.cells #[.slice A d.n cp,.slice (some ⟨mb,mo,none⟩) m cq,.int .i64 (d.lp:Int)] 24)).alloc (.cells #[.int .i64 (p0:Int),.int .i64 (p1:Int),.int .i64 (p2:Int),.int .i64 (p3:Int),.int .i64 (q0:Int),.int .i64 (q1:Int),.int .i64 (q2:Int),.int .i64 (q3:Int)] 131)).alloc (.cells #[.int .i64 k,.int .i64 (x:Int),.int .i64 (y:Int),.int .i64 sg,.bool ov] 43)).alloc (.cells #[.int .i64 0,.int .i64 0,.int .i64 0,.int .i64 0,.bool false] 43)).alloc (.cells #[.int .i64 3,.int .i64 0,.int .i64 0,.int .i64 0,.bool bb] 43)) := ⟨_,rfl⟩
 rw [← hW0] at V0 ⊢
 clear hW0
 have c3:∀ W,Below w.heap.size w W → W.cell? ⟨mb,mo + q3,none⟩ = some (.int .i64 (d.m q3:Nat)):=fun W hb => by
  obtain ⟨b',o',e,c⟩:=mate_at (HG.out.keep hb).m k3
  injection e with e; injection e with e1 e2; subst e1; subst e2; exact c
 have c2:∀ W,Below w.heap.size w W → W.cell? ⟨mb,mo + p2,none⟩ = some (.int .i64 (d.m p2:Nat)):=fun W hb => by
  obtain ⟨b',o',e,c⟩:=mate_at (HG.out.keep hb).m h2
  injection e with e; injection e with e1 e2; subst e1; subst e2; exact c
 have c5:∀ W,Below w.heap.size w W → W.cell? ⟨mb,mo + p3,none⟩ = some (.int .i64 (d.m p3:Nat)):=fun W hb => by
  obtain ⟨b',o',e,c⟩:=mate_at (HG.out.keep hb).m h3
  injection e with e; injection e with e1 e2; subst e1; subst e2; exact c
 have c0:∀ W,Below w.heap.size w W → W.cell? ⟨mb,mo + q0,none⟩ = some (.int .i64 (d.m q0:Nat)):=fun W hb => by
  obtain ⟨b',o',e,c⟩:=mate_at (HG.out.keep hb).m k0
  injection e with e; injection e with e1 e2; subst e1; subst e2; exact c
 have EX:=hide (show pusI d ⟨p0,p1,p2,p3,q0,q1,q2,q3⟩ x y = ⟨3,(if d.m q3 = q0 then (if d.m p2 = p3 then lpv d p3 else oldv d x y p3) else if d.m p2 = p3 then oldv d x y q0 else if d.m p3 = q3 then lpv d p3 else oldv d x y p3),
  (if d.m q3 = q0 then (if d.m p2 = p3 then lpv d p3 else oldv d x y p3) else if d.m p2 = p3 then oldv d x y q0 else if d.m q0 = p2 then lpv d q0 else oldv d x y q0),(if d.m q3 = q0 then 1 else if d.m p2 = p3 then -1 else 0),bb⟩ by rw [HBB.out]; rfl)
 obtain ⟨a3,ha3⟩:∃ a,a = d.m q3 := ⟨_,rfl⟩
 obtain ⟨a2,ha2⟩:∃ a,a = d.m p2 := ⟨_,rfl⟩
 obtain ⟨a5,ha5⟩:∃ a,a = d.m p3 := ⟨_,rfl⟩
 obtain ⟨a0,ha0⟩:∃ a,a = d.m q0 := ⟨_,rfl⟩
 rw [← ha3] at c3 EX
 rw [← ha2] at c2 EX
 rw [← ha5] at c5 EX
 rw [← ha0] at c0 EX
 clear ha3 ha2 ha5 ha0
 have C3:=hide c3
 have C2:=hide c2
 have C5:=hide c5
 have C0:=hide c0
 clear c3 c2 c5 c0
 obtain ⟨XX,hXX⟩:∃ X,X = (if a3 = q0 then (if a2 = p3 then lpv d p3 else oldv d x y p3) else if a2 = p3 then oldv d x y q0 else if a5 = q3 then lpv d p3 else oldv d x y p3) := ⟨_,rfl⟩
 obtain ⟨YY,hYY⟩:∃ Y,Y = (if a3 = q0 then (if a2 = p3 then lpv d p3 else oldv d x y p3) else if a2 = p3 then oldv d x y q0 else if a0 = p2 then lpv d q0 else oldv d x y q0) := ⟨_,rfl⟩
 obtain ⟨SS,hSS⟩:∃ S:Int,S = (if a3 = q0 then 1 else if a2 = p3 then -1 else 0) := ⟨_,rfl⟩
 rw [← hXX,← hYY,← hSS] at EX
 have HXX:=hide hXX
 have HYY:=hide hYY
 have HSS:=hide hSS
 clear hXX hYY hSS
 have i3:(0:Int) ≤ (p3:Int) ∧ (p3:Int) < (m:Int):=by have := HM.out; omega
 have i2:(0:Int) ≤ (p2:Int) ∧ (p2:Int) < (m:Int):=by have := HM.out; omega
 have j0:(0:Int) ≤ (q0:Int) ∧ (q0:Int) < (m:Int):=by have := HM.out; omega
 have j3:(0:Int) ≤ (q3:Int) ∧ (q3:Int) < (m:Int):=by have := HM.out; omega
 obtain ⟨i31,i32⟩:=i3
 obtain ⟨i21,i22⟩:=i2
 obtain ⟨j01,j02⟩:=j0
 obtain ⟨j31,j32⟩:=j3
 obtain ⟨d0,d1,d2,d3⟩:=box3 V0.out.d
 obtain ⟨l0,l1,l2,l3,l4,l5,l6,l7,l8⟩:=box8 V0.out.l
 have c3:=C3.out W0 V0.out.bel
 have c2:=C2.out W0 V0.out.bel
 go_quiet (fail)
 have V1:=hide (V0.out.drewN nq)
 obtain ⟨W1,hW1⟩:∃ W1:World,W1 = W0.drewN nq := ⟨_,rfl⟩
 rw [← hW1] at V1 ⊢
 clear hW1 d0 d1 d2 d3 l0 l1 l2 l3 l4 l5 l6 l7 l8 c3 c2
 obtain ⟨d0,d1,d2,d3⟩:=box3 V1.out.d
 obtain ⟨l0,l1,l2,l3,l4,l5,l6,l7,l8⟩:=box8 V1.out.l
 have c3:=C3.out W1 V1.out.bel
 have c2:=C2.out W1 V1.out.bel
 go_wp2_with fail
 go_quiet (fail)
 have V2:=hide (V1.out.drewN nq)
 obtain ⟨W2,hW2⟩:∃ W2:World,W2 = W1.drewN nq := ⟨_,rfl⟩
 rw [← hW2] at V2 ⊢
 clear hW2 d0 d1 d2 d3 l0 l1 l2 l3 l4 l5 l6 l7 l8 c3 c2
 go_upto_block 0 with fail
 go_cut [10,11] (fun _ _ wx => PV w g0 [.slice A d.n cp,.slice (some ⟨mb,mo,none⟩) m cq,.int .i64 (d.lp:Int)] [.int .i64 (p0:Int),.int .i64 (p1:Int),.int .i64 (p2:Int),.int .i64 (p3:Int),.int .i64 (q0:Int),.int .i64 (q1:Int),.int .i64 (q2:Int),.int .i64 (q3:Int)] [.int .i64 k,.int .i64 (x:Int),.int .i64 (y:Int),.int .i64 sg,.bool ov] [.int .i64 3,.int .i64 XX,.int .i64 YY,.int .i64 SS,.bool bb] wx)
 case first =>
  by_cases e1:a3 = q0
  ·have t1:((a3:Int) == (q0:Int)) = true:=by rw [beq_iff_eq]; omega
   by_cases e2:a2 = p3
   ·have t2:((a2:Int) == (p3:Int)) = true:=by rw [beq_iff_eq]; omega
    have F:=hide (show XX = lpv d p3 ∧ YY = lpv d p3 ∧ SS = 1 from ⟨by rw [HXX.out,if_pos e1,if_pos e2],by rw [HYY.out,if_pos e1,if_pos e2],by rw [HSS.out,if_pos e1]⟩)
    clear e1 e2
    obtain ⟨l0,l1,l2,l3,l4,l5,l6,l7,l8⟩:=box8 V2.out.l
    go_wp2_with fail
    refine (loopF_any d hd A (some ⟨mb,mo,none⟩) cp cq m w.heap.size p3 W2 V2.out.d (HG.out.keep V2.out.bel) h3).mono ?_
    rintro e W3 ⟨rfl,hb3⟩
    have V3:=hide (V2.out.below hb3)
    clear hb3 l0 l1 l2 l3 l4 l5 l6 l7 l8
    obtain ⟨v0,v1,v2,v3,v4,v5⟩:=box5 V3.out.i
    go_wp2_with fail
    go_meet
    rw [F.out.1,F.out.2.1,F.out.2.2]
    exact ((V3.out.set 1 _).set 3 _).set 2 _
   ·have t2:((a2:Int) == (p3:Int)) = false:=by rw [beq_eq_false_iff_ne]; omega
    have F:=hide (show XX = oldv d x y p3 ∧ YY = oldv d x y p3 ∧ SS = 1 from ⟨by rw [HXX.out,if_pos e1,if_neg e2],by rw [HYY.out,if_pos e1,if_neg e2],by rw [HSS.out,if_pos e1]⟩)
    clear e1 e2
    obtain ⟨l0,l1,l2,l3,l4,l5,l6,l7,l8⟩:=box8 V2.out.l
    go_wp2_with fail
    refine (oldF_any d hd A (some ⟨mb,mo,none⟩) cp cq m w.heap.size (w.heap.size + 1 + 1) x y p3 k sg ov W2 HM.out V2.out.d V2.out.m (HG.out.keep V2.out.bel) h3 hxy).mono ?_
    rintro e W3 ⟨rfl,hb3⟩
    have V3:=hide (V2.out.below hb3)
    clear hb3 l0 l1 l2 l3 l4 l5 l6 l7 l8
    obtain ⟨v0,v1,v2,v3,v4,v5⟩:=box5 V3.out.i
    go_wp2_with fail
    go_meet
    rw [F.out.1,F.out.2.1,F.out.2.2]
    exact ((V3.out.set 1 _).set 3 _).set 2 _
  ·have t1:((a3:Int) == (q0:Int)) = false:=by rw [beq_eq_false_iff_ne]; omega
   by_cases e2:a2 = p3
   ·have t2:((a2:Int) == (p3:Int)) = true:=by rw [beq_iff_eq]; omega
    have F:=hide (show XX = oldv d x y q0 ∧ YY = oldv d x y q0 ∧ SS = -1 from ⟨by rw [HXX.out,if_neg e1,if_pos e2],by rw [HYY.out,if_neg e1,if_pos e2],by rw [HSS.out,if_neg e1,if_pos e2]⟩)
    clear e1 e2
    obtain ⟨l0,l1,l2,l3,l4,l5,l6,l7,l8⟩:=box8 V2.out.l
    go_wp2_with fail
    refine (oldF_any d hd A (some ⟨mb,mo,none⟩) cp cq m w.heap.size (w.heap.size + 1 + 1) x y q0 k sg ov W2 HM.out V2.out.d V2.out.m (HG.out.keep V2.out.bel) k0 hxy).mono ?_
    rintro e W3 ⟨rfl,hb3⟩
    have V3:=hide (V2.out.below hb3)
    clear hb3 l0 l1 l2 l3 l4 l5 l6 l7 l8
    obtain ⟨v0,v1,v2,v3,v4,v5⟩:=box5 V3.out.i
    go_wp2_with fail
    go_meet
    rw [F.out.1,F.out.2.1,F.out.2.2]
    exact ((V3.out.set 1 _).set 3 _).set 2 _
   ·have t2:((a2:Int) == (p3:Int)) = false:=by rw [beq_eq_false_iff_ne]; omega
    have F:=hide (show XX = (if a5 = q3 then lpv d p3 else oldv d x y p3) ∧ YY = (if a0 = p2 then lpv d q0 else oldv d x y q0) ∧ SS = 0 from ⟨by rw [HXX.out,if_neg e1,if_neg e2],by rw [HYY.out,if_neg e1,if_neg e2],by rw [HSS.out,if_neg e1,if_neg e2]⟩)
    clear e1 e2
    go_upto_region 6 with fail
    go_cut [] (fun wx => PV w g0 [.slice A d.n cp,.slice (some ⟨mb,mo,none⟩) m cq,.int .i64 (d.lp:Int)] [.int .i64 (p0:Int),.int .i64 (p1:Int),.int .i64 (p2:Int),.int .i64 (p3:Int),.int .i64 (q0:Int),.int .i64 (q1:Int),.int .i64 (q2:Int),.int .i64 (q3:Int)] [.int .i64 k,.int .i64 (x:Int),.int .i64 (y:Int),.int .i64 sg,.bool ov] [.int .i64 3,.int .i64 (oldv d x y p3),.int .i64 (oldv d x y q0),.int .i64 0,.bool bb] wx)
    case first =>
     have HPW:=hide (show PW w g0 [.slice A d.n cp,.slice (some ⟨mb,mo,none⟩) m cq,.int .i64 (d.lp:Int)] [.int .i64 (p0:Int),.int .i64 (p1:Int),.int .i64 (p2:Int),.int .i64 (p3:Int),.int .i64 (q0:Int),.int .i64 (q1:Int),.int .i64 (q2:Int),.int .i64 (q3:Int)] [.int .i64 k,.int .i64 (x:Int),.int .i64 (y:Int),.int .i64 sg,.bool ov] (.int .i64 3) (.int .i64 0) (.bool bb) W2 from ⟨_,_,V2.out⟩)
     go_region_held3 (fun w' => w'.cell? ⟨w.heap.size + 1,3,none⟩ = some (.int .i64 (p3:Int)) ∧ w'.cell? ⟨w.heap.size + 1,4,none⟩ = some (.int .i64 (q0:Int)) ∧ w'.cell? ⟨g0,1,none⟩ = some (cv w' ⟨g0,1,none⟩) ∧ w'.cell? ⟨g0,2,none⟩ = some (cv w' ⟨g0,2,none⟩) ∧ (∀ o,w'.frozen? ⟨g0,o,none⟩ = false) ∧ PW w g0 [.slice A d.n cp,.slice (some ⟨mb,mo,none⟩) m cq,.int .i64 (d.lp:Int)] [.int .i64 (p0:Int),.int .i64 (p1:Int),.int .i64 (p2:Int),.int .i64 (p3:Int),.int .i64 (q0:Int),.int .i64 (q1:Int),.int .i64 (q2:Int),.int .i64 (q3:Int)] [.int .i64 k,.int .i64 (x:Int),.int .i64 (y:Int),.int .i64 sg,.bool ov] (.int .i64 3) (.int .i64 0) (.bool bb) w')
      ((go_split_ands; refine PW.all ?_; (repeat (first | (with_reducible assumption) | (with_reducible exact HPW.out) | (with_reducible refine PW.set1 ?_ _) | (with_reducible refine PW.set2 ?_ _) | (with_reducible refine PW.drew ?_) | (with_reducible refine PW.below ?_ hb5) | (with_reducible refine PW.below ?_ hb4)))))
      (first
        | (have hx5 := hb4
           clear hx5
           go_at_call 113
           refine Calls.mono (oldF_any d hd A (some ⟨mb,mo,none⟩) cp cq m w.heap.size (w.heap.size + 1 + 1) x y q0 k sg ov _ HM.out ?_ ?_ ?_ k0 hxy) ?_
           ·exact (V2.out.drew.below hb4).d
           ·exact (V2.out.drew.below hb4).m
           ·exact HG.out.keep (V2.out.drew.below hb4).bel
           rintro e w5 ⟨rfl,hb5⟩)
        | (go_at_call 113
           refine Calls.mono (oldF_any d hd A (some ⟨mb,mo,none⟩) cp cq m w.heap.size (w.heap.size + 1 + 1) x y p3 k sg ov _ HM.out ?_ ?_ ?_ h3 hxy) ?_
           ·exact V2.out.drew.d
           ·exact V2.out.drew.m
           ·exact HG.out.keep V2.out.drew.bel
           rintro e w4 ⟨rfl,hb4⟩))
     all_goals
      have HP5:=hide (show PW w g0 [.slice A d.n cp,.slice (some ⟨mb,mo,none⟩) m cq,.int .i64 (d.lp:Int)] [.int .i64 (p0:Int),.int .i64 (p1:Int),.int .i64 (p2:Int),.int .i64 (p3:Int),.int .i64 (q0:Int),.int .i64 (q1:Int),.int .i64 (q2:Int),.int .i64 (q3:Int)] [.int .i64 k,.int .i64 (x:Int),.int .i64 (y:Int),.int .i64 sg,.bool ov] (.int .i64 3) (.int .i64 0) (.bool bb) w5 from (HPW.out.drew.below hb4).below hb5)
      go_wp2_with fail
      go_meet
      exact HP5.out.fin _ _
    case rest =>
     have VC:=hide hcut
     clear hcut V0 V1 V2
     obtain ⟨W3,hW⟩:∃ W:World,W = wc := ⟨_,rfl⟩
     rw [← hW] at VC ⊢
     clear hW
     have V3:=VC
     clear VC
     obtain ⟨d0,d1,d2,d3⟩:=box3 V3.out.d
     obtain ⟨l0,l1,l2,l3,l4,l5,l6,l7,l8⟩:=box8 V3.out.l
     have c5:=C5.out W3 V3.out.bel
     go_upto_region 7 with fail
     go_quiet (fail)
     have V4:=hide (V3.out.drewN nq)
     obtain ⟨W4,hW⟩:∃ W:World,W = W3.drewN nq := ⟨_,rfl⟩
     rw [← hW] at V4 ⊢
     clear hW d0 d1 d2 d3 l0 l1 l2 l3 l4 l5 l6 l7 l8 c5
     by_cases e5:a5 = q3
     ·have t5:((a5:Int) == (q3:Int)) = true:=by rw [beq_iff_eq]; omega
      have G5:=hide (show (if a5 = q3 then lpv d p3 else oldv d x y p3) = lpv d p3 from if_pos e5)
      clear e5
      obtain ⟨l0,l1,l2,l3,l4,l5,l6,l7,l8⟩:=box8 V4.out.l
      go_wp2_with fail
      refine (loopF_any d hd A (some ⟨mb,mo,none⟩) cp cq m w.heap.size p3 W4 V4.out.d (HG.out.keep V4.out.bel) h3).mono ?_
      rintro e W5 ⟨rfl,hb5⟩
      have V5:=hide (V4.out.below hb5)
      clear hb5 l0 l1 l2 l3 l4 l5 l6 l7 l8
      obtain ⟨v0,v1,v2,v3,v4,v5⟩:=box5 V5.out.i
      go_upto_region 9 with fail
      obtain ⟨W6,hW⟩:∃ W:World,W = W5.setCell ⟨g0,1,none⟩ (.int .i64 (lpv d p3)) := ⟨_,rfl⟩
      have V6:=hide (V5.out.set 1 (.int .i64 (lpv d p3)))
      rw [← hW] at V6 ⊢
      clear hW v0 v1 v2 v3 v4 v5
      obtain ⟨d0,d1,d2,d3⟩:=box3 V6.out.d
      obtain ⟨l0,l1,l2,l3,l4,l5,l6,l7,l8⟩:=box8 V6.out.l
      have c0:=C0.out W6 V6.out.bel
      go_upto_region 9 with fail
      go_quiet (fail)
      have V7:=hide (V6.out.drewN nq)
      obtain ⟨W7,hW⟩:∃ W:World,W = W6.drewN nq := ⟨_,rfl⟩
      rw [← hW] at V7 ⊢
      clear hW d0 d1 d2 d3 l0 l1 l2 l3 l4 l5 l6 l7 l8 c0
      by_cases e0:a0 = p2
      ·have t0:((a0:Int) == (p2:Int)) = true:=by rw [beq_iff_eq]; omega
       have G0:=hide (show (if a0 = p2 then lpv d q0 else oldv d x y q0) = lpv d q0 from if_pos e0)
       clear e0
       obtain ⟨l0,l1,l2,l3,l4,l5,l6,l7,l8⟩:=box8 V7.out.l
       go_wp2_with fail
       refine (loopF_any d hd A (some ⟨mb,mo,none⟩) cp cq m w.heap.size q0 W7 V7.out.d (HG.out.keep V7.out.bel) k0).mono ?_
       rintro e W8 ⟨rfl,hb8⟩
       have V8:=hide (V7.out.below hb8)
       clear hb8 l0 l1 l2 l3 l4 l5 l6 l7 l8
       obtain ⟨v0,v1,v2,v3,v4,v5⟩:=box5 V8.out.i
       go_wp2_with fail
       go_meet
       rw [F.out.1,F.out.2.1,F.out.2.2,G5.out,G0.out]
       exact V8.out.set 2 _
      ·have t0:((a0:Int) == (p2:Int)) = false:=by rw [beq_eq_false_iff_ne]; omega
       have G0:=hide (show (if a0 = p2 then lpv d q0 else oldv d x y q0) = oldv d x y q0 from if_neg e0)
       clear e0
       go_wp2_with fail
       go_meet
       rw [F.out.1,F.out.2.1,F.out.2.2,G5.out,G0.out]
       exact V7.out
     ·have t5:((a5:Int) == (q3:Int)) = false:=by rw [beq_eq_false_iff_ne]; omega
      have G5:=hide (show (if a5 = q3 then lpv d p3 else oldv d x y p3) = oldv d x y p3 from if_neg e5)
      clear e5
      obtain ⟨d0,d1,d2,d3⟩:=box3 V4.out.d
      obtain ⟨l0,l1,l2,l3,l4,l5,l6,l7,l8⟩:=box8 V4.out.l
      have c0:=C0.out W4 V4.out.bel
      go_upto_region 9 with fail
      go_quiet (fail)
      have V5:=hide (V4.out.drewN nq)
      obtain ⟨W5,hW⟩:∃ W:World,W = W4.drewN nq := ⟨_,rfl⟩
      rw [← hW] at V5 ⊢
      clear hW d0 d1 d2 d3 l0 l1 l2 l3 l4 l5 l6 l7 l8 c0
      by_cases e0:a0 = p2
      ·have t0:((a0:Int) == (p2:Int)) = true:=by rw [beq_iff_eq]; omega
       have G0:=hide (show (if a0 = p2 then lpv d q0 else oldv d x y q0) = lpv d q0 from if_pos e0)
       clear e0
       obtain ⟨l0,l1,l2,l3,l4,l5,l6,l7,l8⟩:=box8 V5.out.l
       go_wp2_with fail
       refine (loopF_any d hd A (some ⟨mb,mo,none⟩) cp cq m w.heap.size q0 W5 V5.out.d (HG.out.keep V5.out.bel) k0).mono ?_
       rintro e W6 ⟨rfl,hb6⟩
       have V6:=hide (V5.out.below hb6)
       clear hb6 l0 l1 l2 l3 l4 l5 l6 l7 l8
       obtain ⟨v0,v1,v2,v3,v4,v5⟩:=box5 V6.out.i
       go_wp2_with fail
       go_meet
       rw [F.out.1,F.out.2.1,F.out.2.2,G5.out,G0.out]
       exact V6.out.set 2 _
      ·have t0:((a0:Int) == (p2:Int)) = false:=by rw [beq_eq_false_iff_ne]; omega
       have G0:=hide (show (if a0 = p2 then lpv d q0 else oldv d x y q0) = oldv d x y q0 from if_neg e0)
       clear e0
       go_wp2_with fail
       go_meet
       rw [F.out.1,F.out.2.1,F.out.2.2,G5.out,G0.out]
       exact V5.out
 case rest =>
  have V3:=hide hcut
  clear hcut V0 V1 V2
  obtain ⟨v0,v1,v2,v3,v4,v5⟩:=box5 V3.out.i
  obtain ⟨us,r2,l2⟩:=V3.out.r
  obtain ⟨b0,b1,b2,b3,b4,b5⟩:wc.cell? ⟨w.heap.size + 1 + 1 + 1,0,none⟩ = some (cv wc ⟨w.heap.size + 1 + 1 + 1,0,none⟩) ∧ wc.cell? ⟨w.heap.size + 1 + 1 + 1,1,none⟩ = some (cv wc ⟨w.heap.size + 1 + 1 + 1,1,none⟩) ∧ wc.cell? ⟨w.heap.size + 1 + 1 + 1,2,none⟩ = some (cv wc ⟨w.heap.size + 1 + 1 + 1,2,none⟩) ∧ wc.cell? ⟨w.heap.size + 1 + 1 + 1,3,none⟩ = some (cv wc ⟨w.heap.size + 1 + 1 + 1,3,none⟩) ∧ wc.cell? ⟨w.heap.size + 1 + 1 + 1,4,none⟩ = some (cv wc ⟨w.heap.size + 1 + 1 + 1,4,none⟩) ∧ (∀ o,wc.frozen? ⟨w.heap.size + 1 + 1 + 1,o,none⟩ = false) := ⟨cv_some (r2.cell (i := 0) (by omega)),cv_some (r2.cell (i := 1) (by omega)),cv_some (r2.cell (i := 2) (by omega)),cv_some (r2.cell (i := 3) (by omega)),cv_some (r2.cell (i := 4) (by omega)),r2.free⟩
  go_wp2
  refine bodyPost_ret (v := .agg #[.int .i64 3,.int .i64 XX,.int .i64 YY,.int .i64 SS,.bool bb]) ?_ rfl ?_
  ·obtain ⟨f0,f1,f2,f3,f4,_⟩:=box5 (row5 r2 l2 (.int .i64 3) (.int .i64 XX) (.int .i64 YY) (.int .i64 SS) (.bool bb))
   clear b0 b1 b2 b3 b4 b5 v0 v1 v2 v3 v4 v5
   simp [results,Tryz.results89,go_sem,f0,f1,f2,f3,f4]
  ·refine ⟨?_,((((V3.out.bel.setCell (by show _ ≤ w.heap.size + 1 + 1 + 1; omega) _).setCell (by show _ ≤ w.heap.size + 1 + 1 + 1; omega) _).setCell (by show _ ≤ w.heap.size + 1 + 1 + 1; omega) _).setCell (by show _ ≤ w.heap.size + 1 + 1 + 1; omega) _).setCell (by show _ ≤ w.heap.size + 1 + 1 + 1; omega) _⟩
   rw [EX.out]
   rfl
end Go.Proofs.YtghdiolnonejaaaGreatDoor
end
section
namespace Go.Proofs.YtghdiolnonejaaaGreatDoor
open Go Go.RowKit
def Gl (ps:List Int) (k i:Nat):List Nat := (List.range k).filter (fun c => decide (Pl.pv ps c = (i:Int)))
theorem Gl_succ (ps:List Int) (k i:Nat):Gl ps (k + 1) i = Gl ps k i ++ if Pl.pv ps k = (i:Int) then [k] else [] := by
 unfold Gl
 rw [List.range_succ,List.filter_append]
 by_cases h:Pl.pv ps k = (i:Int) <;> simp [List.filter_cons,h]
theorem Gl_len (ps:List Int) (k i:Nat):(Gl ps k i).length ≤ k := by
 unfold Gl
 have:=List.length_filter_le (fun c => decide (Pl.pv ps c = (i:Int))) (List.range k)
 simpa using this
theorem mem_Gl {ps:List Int} {k i c:Nat}:c ∈ Gl ps k i ↔ c < k ∧ Pl.pv ps c = (i:Int) := by unfold Gl; simp
def gv (vs:List Value) (i:Nat):Value := vs.getD i (.slice none 0 0)
structure Grp (w:World) (g P:Nat) (ps:List Int) (k:Nat) (vs:List Value) (W:World):Prop where
 len:vs.length = P
 row:Row W g 22 vs
 own:∀ i,i < P → W.ownsRow (g + 1) 3 1 (gv vs i) (Gl ps k i).length ((Gl ps k i).map (fun k:Nat => Value.int .i64 k))
 ne:∀ i j,i < P → j < P → i ≠ j → ∀ b,(gv vs i).ownBlock = some b → (gv vs j).ownBlock ≠ some b
 bel:Below w.heap.size w W
 lo:w.heap.size ≤ g
theorem Grp.below {w:World} {g P:Nat} {ps:List Int} {k:Nat} {vs:List Value} {W W':World} (h:Grp w g P ps k vs W) (hb:Below W.heap.size W W'):Grp w g P ps k vs W' :=
 ⟨h.len,h.row.below hb,fun i hi => own_keep (h.own i hi) hb (Nat.le_refl _),h.ne,h.bel.trans (hb.mono h.bel.size),h.lo⟩
theorem gv_set {vs:List Value} {q:Nat} (hq:q < vs.length) (v:Value) (i:Nat):gv (vs.set q v) i = if i = q then v else gv vs i := by
 unfold gv
 rw [List.getD_eq_getElem?_getD,List.getD_eq_getElem?_getD,List.getElem?_set]
 by_cases h:q = i
 ·subst h; simp [hq]
 ·rw [if_neg h,if_neg (fun e => h e.symm)]
theorem Grp.put {w:World} {g P:Nat} {ps:List Int} {k q:Nat} {vs:List Value} {W W2:World} {v':Value} {g':Nat} (h:Grp w g P ps k vs W) (hq:q < P) (hp:Pl.pv ps k = (q:Int))
 (own:W2.ownsRow (g + 1) 3 1 v' ((Gl ps k q).length + 1) ((Gl ps k q).map (fun k:Nat => Value.int .i64 k) ++ [.int .i64 (k:Nat)])) (gr:W.grownBy W2 (gv vs q).ownBlock) (hv:v'.ownBlock = some g') (hat:(gv vs q).ownBlock = some g' ∨ g' = W.heap.size) :
 Grp w g P ps (k + 1) (vs.set q v') (W2.setCell ⟨g,q,none⟩ v') := by
 have hql:q < vs.length:=by rw [h.len]; exact hq
 have hlt:=fun i hi => (h.own i hi).lt
 refine ⟨by rw [List.length_set,h.len],(h.row.grown gr ?_).set q v',fun i hi => ?_,fun i j hi hj hij b e1 e2 => ?_,(h.bel.grown gr h.bel.size (fun b e => by have := (hlt q hq b e).1; have := h.lo; omega)).setCell h.lo _,h.lo⟩
 ·intro e
  have:=(hlt q hq g e.symm).1
  omega
 ·rw [gv_set hql,Gl_succ]
  by_cases e:i = q
  ·subst e
   rw [if_pos rfl,if_pos hp]
   refine ownsRow_setCell_below ?_ (by show g < g + 1; omega) _
   simpa using own
  ·rw [if_neg e,if_neg (by omega),List.append_nil]
   refine ownsRow_setCell_below ((h.own i hi).kept gr ?_) (by show g < g + 1; omega) _
   cases hm:(gv vs i).ownBlock with
   | none => exact .inl rfl
   | some b => exact .inr (fun e' => h.ne i q hi hq e b hm e'.symm)
 ·rw [gv_set hql] at e1 e2
  by_cases ei:i = q
  ·rw [if_pos ei,hv] at e1
   injection e1 with e1
   rw [if_neg (by omega)] at e2
   rcases hat with e | e
   ·exact h.ne q j hq hj (by omega) g' e (by rw [e2,e1])
   ·have:=(hlt j hj b e2).2
    omega
  ·rw [if_neg ei] at e1
   by_cases ej:j = q
   ·rw [if_pos ej,hv] at e2
    injection e2 with e2
    rcases hat with e | e
    ·exact h.ne i q hi hq ei g' (by rw [e1,e2]) e
    ·have:=(hlt i hi b e1).2
     omega
   ·rw [if_neg ej] at e2
    exact h.ne i j hi hj hij b e1 e2
def GraphPost (d:Pl.Dg) (w:World) (e:Ending) (w':World):Prop :=
 ∃ (A:Option Addr) (c P:Nat) (ps:List Int) (vs:List Value),e = .returned (.slice A P c) ∧ P ≤ d.n ∧ Pl.LB d ps P ∧ (∀ a,a < d.n → 0 ≤ Pl.pv ps a) ∧ RowT w' 22 A P vs ∧ Vs w' vs ((List.range P).map (Gl ps d.n)) ∧ Below w.heap.size w w' ∧ Far w.heap.size vs
theorem run_rows (n:Nat) (hn:n ≤ 100000) (w:World):(Instr.makeSlice 59 (.int .i64 (n:Int)) (.int .i64 (n:Int))).run Tryz.prog w = .ok (.slice (some ⟨w.heap.size,0,none⟩) n n) (w.alloc (.cells (Array.replicate n (Value.slice none 0 0)) 22)) := by
 obtain ⟨i0,hi,hz0,hz1,hz2⟩:=info_parts rowInfo
 have:=run_make (P := Tryz.prog) w 59 22 i0 (.slice none 0 0) Tryz.underlying59 hi hz0 .i64 .i64 n n (by omega) (Int.le_refl _) (by rw [hz2]; omega) (by omega)
 rw [hz1,Nat.mul_one,Int.toNat_natCast,show madeCells (Value.cells (.slice none 0 0)) n = (List.replicate n (.slice none 0 0)).toArray from made_rep _ _] at this
 exact this
theorem Row.gv {W:World} {g:Nat} {t:TypeId} {vs:List Value} (h:Row W g t vs) {q:Nat} (hq:q < vs.length):W.cell? ⟨g,q,none⟩ = some (gv vs q) := by
 rw [h.cell hq]
 unfold Go.Proofs.YtghdiolnonejaaaGreatDoor.gv
 rw [List.getD_eq_getElem?_getD,List.getElem?_eq_getElem hq]; rfl
theorem range_get {P i:Nat} {l:List Nat} {f:Nat → List Nat} (e:((List.range P).map f)[i]? = some l):i < P ∧ l = f i := by
 rw [List.getElem?_map] at e
 by_cases h:i < P
 ·rw [List.getElem?_range h] at e
  injection e with e
  exact ⟨h,e.symm⟩
 ·rw [List.getElem?_eq_none (by simpa using Nat.le_of_not_lt h)] at e
  cases e
theorem Grp.vs {w:World} {g P:Nat} {ps:List Int} {k:Nat} {vs:List Value} {W:World} (h:Grp w g P ps k vs W):Vs W vs ((List.range P).map (Gl ps k)) := by
 refine ⟨by simp [h.len],fun i l e => ?_⟩
 obtain ⟨hi,rfl⟩:=range_get e
 have ho:=h.own i hi
 obtain ⟨A,c,e2⟩:=owns_slice ho
 refine ⟨Go.Proofs.YtghdiolnonejaaaGreatDoor.gv vs i,?_,A,c,e2,by rw [e2] at ho; exact own_rowT ho⟩
 unfold Go.Proofs.YtghdiolnonejaaaGreatDoor.gv
 rw [List.getD_eq_getElem?_getD,List.getElem?_eq_getElem (by rw [h.len]; exact hi)]; rfl
theorem Grp.far {w:World} {g P:Nat} {ps:List Int} {k:Nat} {vs:List Value} {W:World} (h:Grp w g P ps k vs W):Far w.heap.size vs := fun v hv b hb => by
 obtain ⟨i,hi,e⟩:=List.mem_iff_getElem.1 hv
 have h1:Go.Proofs.YtghdiolnonejaaaGreatDoor.gv vs i = v:=by unfold Go.Proofs.YtghdiolnonejaaaGreatDoor.gv; rw [List.getD_eq_getElem?_getD,List.getElem?_eq_getElem hi]; exact e
 have h2:=(h.own i (by rw [← h.len]; exact hi)).lt b (by rw [h1]; exact hb)
 have:=h.lo
 omega
set_option maxRecDepth 100000 in
set_option maxHeartbeats 2000000 in
theorem graph_any (d:Pl.Dg) (hd:Pl.Valid d) (A B:Option Addr) (cp cq m:Nat) (w:World) (hm:m = 4 * d.n) (hg:DgAt w A B d) :
 Calls Tryz.prog 87 #[.agg #[.slice A d.n cp,.slice B m cq,.int .i64 d.lp]] w (GraphPost d w) := by
 have hn:=hd.wf.few
 have HM:=hide hm
 have HG:=hide hg
 have B0:=hide (show Below w.heap.size w (w.alloc (.cells #[.slice A d.n cp,.slice B m cq,.int .i64 d.lp] 24)) from (Below.refl _ _).alloc (Nat.le_refl _) _)
 have X0:=hide (show Row (w.alloc (.cells #[.slice A d.n cp,.slice B m cq,.int .i64 d.lp] 24)) w.heap.size 24 [.slice A d.n cp,.slice B m cq,.int .i64 d.lp] from Row.new w _ [_,_,_])
 clear hg
 subst hm
 go_enter Tryz.func87,Tryz.ntmps87
 go_wp2_with fail
 refine (valid_yes d hd A B cp cq _ _ rfl (HG.out.keep B0.out)).mono ?_
 rintro e w1 ⟨rfl,hb1⟩
 have B1:=hide (B0.out.trans (hb1.mono B0.out.size))
 have X1:=hide (X0.out.below hb1)
 obtain ⟨f0,f1,f2,f3⟩:=box3 X1.out
 clear hb1
 go_wp2_with fail
 refine (label_any d hd.wf A B cp cq _ _ (HG.out.keep B1.out)).mono ?_
 rintro e w2 ⟨ps,P,gp,rfl,hlb,hall,hgp,hir,hb2⟩
 have HLB:=hide hlb
 have HALL:=hide hall
 have hPn:=hlb.le
 have HIR:=hide hir
 have B2:=hide (B1.out.trans (hb2.mono B1.out.size))
 have hgps:=hir.lt
 have hps:ps.length = d.n:=hlb.len
 have HPS:=hide hps
 clear hlb hall hir hb2 f0 f1 f2 f3 hps
 have hmk:=fun W:World => run_rows P (by omega) W
 have H0:=hide (show Grp w w2.heap.size P ps 0 (List.replicate P (.slice none 0 0)) (w2.alloc (.cells (Array.replicate P (Value.slice none 0 0)) 22)) from by
  have hgv:∀ i,gv (List.replicate P (.slice none 0 0)) i = .slice none 0 0:=fun i => by
   unfold Go.Proofs.YtghdiolnonejaaaGreatDoor.gv
   rw [List.getD_eq_getElem?_getD,List.getElem?_replicate]
   split <;> rfl
  refine ⟨by simp,?_,fun i hi => ?_,fun i j hi hj hij b e => ?_,B2.out.alloc B2.out.size _,B2.out.size⟩
  ·have:=Row.new w2 22 (List.replicate P (.slice none 0 0))
   simpa using this
  ·rw [hgv]; exact World.ownsRow_nil _ _ _ _
  ·rw [hgv] at e; simp [Value.ownBlock] at e)
 have HI0:=hide (show IRow (w2.alloc (.cells (Array.replicate P (Value.slice none 0 0)) 22)) gp ps from Row.alloc HIR.out _)
 go_wp2
 clear hmk
 obtain ⟨gg,hgg⟩:∃ gg,gg = w2.heap.size := ⟨_,rfl⟩
 rw [← hgg] at H0 hgps ⊢
 have HGG:=hide hgg
 go_loopg [20] d.n (fun g i wx => ∃ (k:Nat) (vs:List Value),k + g = d.n ∧ i = .int .i64 k ∧ Grp w gg P ps k vs wx ∧ IRow wx gp ps)
 case atStart => exact ⟨0,_,by omega,rfl,by have := H0.out; rw [hgg] at this ⊢; exact this,HI0.out⟩
 case round =>
  clear H0 HI0 HIR hgg HGG
  obtain ⟨k,vs,hkg,rfl,hgr,hir⟩:=hrel
  have HKG:=hide hkg
  have hkn:k ≤ d.n:=by omega
  have HGR:=hide hgr
  have HIR:=hide hir
  have hsz:=hgr.row.lt
  clear hkg hgr hir
  by_cases hlt:k < d.n
  ·have c1:=HIR.out.cell (i := k) (by rw [HPS.out]; exact hlt)
   have h0:=HALL.out k hlt
   have h1:=(HLB.out.lo k hlt).2
   obtain ⟨q,hq⟩:=Int.eq_ofNat_of_zero_le h0
   rw [hq] at c1 h1
   have HQ:=hide hq
   clear hq h0
   have hqP:q < P:=by omega
   have hql:q < vs.length:=by rw [HGR.out.len]; exact hqP
   have c2:=HGR.out.row.gv hql
   have fr2:=HGR.out.row.free q
   obtain ⟨vq,hvq⟩:∃ v,v = gv vs q := ⟨_,rfl⟩
   rw [← hvq] at c2
   have HVQ:=hide hvq
   clear hvq
   have iq:(0:Int) ≤ (q:Int):=by omega
   have jq:(q:Int) < (P:Int):=by omega
   have hgl:=Gl_len ps k q
   obtain ⟨i0,hi0,hz0,hz1,hz2⟩:=info_parts intInfo
   have OQ:=hide (show wr.ownsRow (gg + 1) 3 1 vq (Gl ps k q).length ((Gl ps k q).map (fun k:Nat => Value.int .i64 k)) by rw [HVQ.out]; exact HGR.out.own q hqP)
   go_wp2_with (at_builtin; refine wpList_append_lies _ (by rfl) _ _ 22 (by rfl) (gg + 1) 3 i0 (.int .i64 0) 1 8 Tryz.underlying22 hi0 hz0 hz1 hz2 rfl (by omega) vq (Gl ps k q).length _ (by rfl) (OQ.out.alloc _) ⟨wr.heap.size,0,none⟩ 1 1 [.int .i64 (k:Nat)] (by rfl) (by rfl) (one_news wr (.int .i64 (k:Nat))) (by simp [Value.oneCell']) (by omega) (by unfold maxLen; omega) (by omega) (by simp; omega) (wr.heap.size + 1) (by simp) ?_; intro g3 c3 w3 own3 grow3 at3 lt3; have hrow3 := Row.grown (Row.alloc HGR.out.row (.cells #[.int .i64 (k:Nat)] 3)) grow3 (by intro e; have := (OQ.out.lt gg e.symm).1; omega); have cq3 := hrow3.gv hql; have fq3 := hrow3.free q; have OWN3 := hide own3; have GR3 := hide grow3; have AT3 := hide at3; have HROW3 := hide hrow3; clear own3 grow3 at3 hrow3)
   go_roundg (gk - 1)
   case measure => have := HKG.out; omega
   case rel =>
    refine ⟨k + 1,vs.set q (.slice (some ⟨g3,0,none⟩) ((Gl ps k q).length + 1) c3),by have := HKG.out; omega,by go_num,?_,?_⟩
    ·exact Grp.put (HGR.out.below ((Below.refl _ _).alloc (Nat.le_refl _) (.cells #[.int .i64 (k:Nat)] 3))) hqP HQ.out OWN3.out (by rw [← HVQ.out]; exact GR3.out) rfl (by rw [← HVQ.out]; simpa using AT3.out)
    ·refine Row.other (Row.grown (Row.alloc HIR.out _) GR3.out ?_) (by show gp ≠ gg; omega) _
     intro e
     have:=(OQ.out.lt gp e.symm).1
     omega
  ·go_wp2
   go_ret
   obtain rfl:k = d.n := by omega
   refine ⟨_,_,P,ps,vs,rfl,hPn,HLB.out,HALL.out,?_,HGR.out.vs,HGR.out.bel,HGR.out.far⟩
   refine ⟨HGR.out.len,fun _ => ⟨gg,0,vs.toArray,(0,0),rfl,HGR.out.row,fun j u hu => ?_⟩⟩
   rw [Nat.zero_add]
   simpa using hu
end Go.Proofs.YtghdiolnonejaaaGreatDoor
end
section
namespace Go.Proofs.YtghdiolnonejaaaGreatDoor
open Go.RowKit
def inR (n:Nat) (m:Mv):Prop :=
 if m.kind = 1 then -1 ≤ m.x ∧ m.x < 4 * n ∧ m.y = 0 ∧ (m.sign = 1 ∨ m.sign = -1)
 else if m.kind = 2 then 0 ≤ m.x ∧ m.x < n ∧ m.y = 0 ∧ m.sign = 0 ∧ m.over = false
 else if m.kind = 4 then 0 ≤ m.x ∧ m.x < m.y ∧ m.y < n ∧ m.sign = 0 ∧ m.over = false
 else if m.kind = 5 then 0 ≤ m.x ∧ m.x < 4 * n ∧ m.y = 0 ∧ m.sign = 0 ∧ m.over = false
 else -2 ≤ m.x ∧ m.x < 4 * n ∧ -2 ≤ m.y ∧ m.y < 4 * n ∧ (if m.x ≠ m.y then m.sign = 0 else if m.x < 0 then m.sign = 0 ∨ m.sign = 1 else m.sign = 1 ∨ m.sign = -1)
def InPost (n:Nat) (m:Mv) (w:World) (e:Ending) (w':World):Prop := e = .returned (.bool (Pl.vb (inR n m))) ∧ Below w.heap.size w w'
theorem in_ret {p:Prop} {b:Bool} (h:b = true ↔ p):Ending.returned (.bool b) = .returned (.bool (Pl.vb p)) := by
 refine ret_bool ?_
 rw [Bool.eq_iff_iff,Pl.vb_iff,h]
set_option maxRecDepth 100000 in
set_option maxHeartbeats 1000000 in
theorem inRange_1 (n:Nat) (x y s:Int) (o:Bool) (w:World) (hn:n ≤ 1000) :
 Calls Tryz.prog 45 #[.int .i64 (n:Int),(Mv.mk 1 x y s o).v] w (InPost n ⟨1,x,y,s,o⟩ w) := by
 unfold Mv.v
 by_cases hs:s = 0
 ·subst hs
  cases o
  all_goals
   go_enter Tryz.func45,Tryz.ntmps45
   go_wp2
   all_goals
    go_ret
    refine ⟨in_ret ?_,(Below.refl _ _).alloc (Nat.le_refl _) _⟩
    unfold inR
    (try simp only [beq_iff_eq,beq_eq_false_iff_ne,ne_eq,bne_iff_ne,decide_eq_true_eq,decide_eq_false_iff_not] at *); (first | (simp; done) | (simp; omega) | omega | (simp_all; done) | (simp_all; omega))
 ·have t0:(s == 0) = false:=by simpa using hs
  go_enter Tryz.func45,Tryz.ntmps45
  go_wp2
  all_goals
   go_ret
   refine ⟨in_ret ?_,(Below.refl _ _).alloc (Nat.le_refl _) _⟩
   unfold inR
   (try simp only [beq_iff_eq,beq_eq_false_iff_ne,ne_eq,bne_iff_ne,decide_eq_true_eq,decide_eq_false_iff_not] at *); (first | (simp; done) | (simp; omega) | omega | (simp_all; done) | (simp_all; omega))
set_option maxRecDepth 100000 in
set_option maxHeartbeats 1000000 in
theorem inRange_2 (n:Nat) (x y s:Int) (o:Bool) (w:World) (hn:n ≤ 1000) :
 Calls Tryz.prog 45 #[.int .i64 (n:Int),(Mv.mk 2 x y s o).v] w (InPost n ⟨2,x,y,s,o⟩ w) := by
 unfold Mv.v
 by_cases hs:s = 0
 ·subst hs
  cases o
  all_goals
   go_enter Tryz.func45,Tryz.ntmps45
   go_wp2
   all_goals
    go_ret
    refine ⟨in_ret ?_,(Below.refl _ _).alloc (Nat.le_refl _) _⟩
    unfold inR
    (try simp only [beq_iff_eq,beq_eq_false_iff_ne,ne_eq,bne_iff_ne,decide_eq_true_eq,decide_eq_false_iff_not] at *); (first | (simp; done) | (simp; omega) | omega | (simp_all; done) | (simp_all; omega))
 ·have t0:(s == 0) = false:=by simpa using hs
  go_enter Tryz.func45,Tryz.ntmps45
  go_wp2
  all_goals
   go_ret
   refine ⟨in_ret ?_,(Below.refl _ _).alloc (Nat.le_refl _) _⟩
   unfold inR
   (try simp only [beq_iff_eq,beq_eq_false_iff_ne,ne_eq,bne_iff_ne,decide_eq_true_eq,decide_eq_false_iff_not] at *); (first | (simp; done) | (simp; omega) | omega | (simp_all; done) | (simp_all; omega))
set_option maxRecDepth 100000 in
set_option maxHeartbeats 1000000 in
theorem inRange_3 (n:Nat) (x y s:Int) (o:Bool) (w:World) (hn:n ≤ 1000) :
 Calls Tryz.prog 45 #[.int .i64 (n:Int),(Mv.mk 3 x y s o).v] w (InPost n ⟨3,x,y,s,o⟩ w) := by
 unfold Mv.v
 by_cases hs:s = 0
 ·subst hs
  cases o
  all_goals
   go_enter Tryz.func45,Tryz.ntmps45
   go_wp2
   all_goals
    go_ret
    refine ⟨in_ret ?_,(Below.refl _ _).alloc (Nat.le_refl _) _⟩
    unfold inR
    (try simp only [beq_iff_eq,beq_eq_false_iff_ne,ne_eq,bne_iff_ne,decide_eq_true_eq,decide_eq_false_iff_not] at *); (first | (simp; done) | (simp; omega) | omega | (simp_all; done) | (simp_all; omega))
 ·have t0:(s == 0) = false:=by simpa using hs
  go_enter Tryz.func45,Tryz.ntmps45
  go_wp2
  all_goals
   go_ret
   refine ⟨in_ret ?_,(Below.refl _ _).alloc (Nat.le_refl _) _⟩
   unfold inR
   (try simp only [beq_iff_eq,beq_eq_false_iff_ne,ne_eq,bne_iff_ne,decide_eq_true_eq,decide_eq_false_iff_not] at *); (first | (simp; done) | (simp; omega) | omega | (simp_all; done) | (simp_all; omega))
set_option maxRecDepth 100000 in
set_option maxHeartbeats 1000000 in
theorem inRange_4 (n:Nat) (x y s:Int) (o:Bool) (w:World) (hn:n ≤ 1000) :
 Calls Tryz.prog 45 #[.int .i64 (n:Int),(Mv.mk 4 x y s o).v] w (InPost n ⟨4,x,y,s,o⟩ w) := by
 unfold Mv.v
 by_cases hs:s = 0
 ·subst hs
  cases o
  all_goals
   go_enter Tryz.func45,Tryz.ntmps45
   go_wp2
   all_goals
    go_ret
    refine ⟨in_ret ?_,(Below.refl _ _).alloc (Nat.le_refl _) _⟩
    unfold inR
    (try simp only [beq_iff_eq,beq_eq_false_iff_ne,ne_eq,bne_iff_ne,decide_eq_true_eq,decide_eq_false_iff_not] at *); (first | (simp; done) | (simp; omega) | omega | (simp_all; done) | (simp_all; omega))
 ·have t0:(s == 0) = false:=by simpa using hs
  go_enter Tryz.func45,Tryz.ntmps45
  go_wp2
  all_goals
   go_ret
   refine ⟨in_ret ?_,(Below.refl _ _).alloc (Nat.le_refl _) _⟩
   unfold inR
   (try simp only [beq_iff_eq,beq_eq_false_iff_ne,ne_eq,bne_iff_ne,decide_eq_true_eq,decide_eq_false_iff_not] at *); (first | (simp; done) | (simp; omega) | omega | (simp_all; done) | (simp_all; omega))
end Go.Proofs.YtghdiolnonejaaaGreatDoor
end
section
namespace Go.Proofs.YtghdiolnonejaaaGreatDoor.Pl
def sm (f:Nat → Int):Nat → Int
 | 0 => 0
 | k + 1 => sm f k + f k
theorem sum_append' (l r:List Int):(l ++ r).sum = l.sum + r.sum := by simp
theorem sum_one (x:Int):[x].sum = x := by simp
theorem left_sum_one (f:Nat → Int) (c:Nat):∀ k,((left k [c]).map f).sum = sm f k - if c < k then f c else 0
 | 0 => by simp [left_zero,sm]
 | k + 1 => by
   rw [left_succ,List.map_append,sum_append',left_sum_one f c k]
   show _ = sm f k + f k - _
   by_cases h:k = c
   ·subst h; simp; try omega
   ·have:([c].contains k) = false:=by simp [h]
    rw [this]
    simp only [Bool.false_eq_true,if_false,List.map_cons,List.map_nil,sum_one]
    by_cases h2:c < k
    ·rw [if_pos h2,if_pos (by omega)]; omega
    ·rw [if_neg h2,if_neg (by omega)]; omega
theorem left_sum_two (f:Nat → Int) {x y:Nat} (hxy:x < y):∀ k,((left k [x,y]).map f).sum = sm f k - (if x < k then f x else 0) - if y < k then f y else 0
 | 0 => by simp [left_zero,sm]
 | k + 1 => by
   rw [left_succ,List.map_append,sum_append',left_sum_two f hxy k]
   show _ = sm f k + f k - _ - _
   by_cases h:k = x
   ·subst h
    have:([k,y].contains k) = true:=by simp
    rw [this]
    simp only [if_true,List.map_nil,List.sum_nil]
    rw [if_neg (Nat.lt_irrefl _),if_pos (Nat.lt_succ_self _),if_neg (by omega),if_neg (by omega)]
    omega
   ·by_cases h3:k = y
    ·subst h3
     have:([x,k].contains k) = true:=by simp
     rw [this]
     simp only [if_true,List.map_nil,List.sum_nil]
     rw [if_pos hxy,if_neg (Nat.lt_irrefl k),if_pos (show x < k + 1 by omega),if_pos (Nat.lt_succ_self k)]
     omega
    ·have:([x,y].contains k) = false:=by simp [h,h3]
     rw [this]
     simp only [Bool.false_eq_true,if_false,List.map_cons,List.map_nil,sum_one]
     by_cases h2:x < k <;> by_cases h4:y < k
     ·rw [if_pos h2,if_pos (show x < k + 1 by omega),if_pos h4,if_pos (show y < k + 1 by omega)]; omega
     ·rw [if_pos h2,if_pos (show x < k + 1 by omega),if_neg h4,if_neg (show ¬ y < k + 1 by omega)]; omega
     ·omega
     ·rw [if_neg h2,if_neg (show ¬ x < k + 1 by omega),if_neg h4,if_neg (show ¬ y < k + 1 by omega)]; omega
theorem sm_list (l:List Int):sm (fun c => l.getD c 0) l.length = l.sum := by
 have key:∀ (l:List Int) (k:Nat),k ≤ l.length → sm (fun c => l.getD c 0) k = (l.take k).sum:=by
  intro l k
  induction k with
  | zero => intro _; rfl
  | succ k ih =>
    intro h
    show sm _ k + l.getD k 0 = _
    rw [ih (by omega),List.take_add_one,List.getElem?_eq_getElem (by omega),sum_append',List.getD_eq_getElem?_getD,List.getElem?_eq_getElem (by omega)]
    simp
 rw [key l l.length (Nat.le_refl _),List.take_length]
theorem shrS_one (sg:List Int) {c:Nat} (h:c < sg.length):(shrS [c] sg).sum = sg.sum - sg.getD c 0 := by
 unfold shrS
 rw [left_sum_one,if_pos h,sm_list]
theorem shrS_two (sg:List Int) {x y:Nat} (hxy:x < y) (h:y < sg.length):(shrS [x,y] sg).sum = sg.sum - sg.getD x 0 - sg.getD y 0 := by
 unfold shrS
 rw [left_sum_two _ hxy,if_pos (by omega),if_pos h,sm_list]
theorem lens_signs {d:Dg} (hd:Wf d) {h:Nat} (hh:h < 4 * d.n) (hg:nx d (nx d h) = h) (hp:h % 2 = d.m h % 2):d.s (h / 4) + d.s (nx d h / 4) = 0 := by
 have hm:=hd.lt h hh
 have w1:=hd.way h hh
 have hgl:nx d h < 4 * d.n:=tn_lt hm
 have w2:=hd.way (nx d h) hgl
 have s1:=hd.sign (h / 4) (by omega)
 have s2:=hd.sign (d.m h / 4) (by omega)
 have e1:d.m (nx d h) / 4 = h / 4:=by
  have:=congrArg (· / 4) hg
  simp only [nx,tn_div] at this
  exact this
 have e2:d.m (nx d h) % 4 = (h % 4 + 1) % 4:=by
  have:=congrArg (· % 4) hg
  unfold nx at this
  simp only [tn_mod] at this
  rw [← this]
  unfold nx
  omega
 have e3:nx d h / 4 = d.m h / 4:=by unfold nx; rw [tn_div]
 have e4:nx d h % 4 = (d.m h % 4 + 3) % 4:=by unfold nx; rw [tn_mod]
 rw [e3]
 unfold out at w1 w2
 rw [e1,e2,e3,e4] at w2
 generalize d.s (h / 4) = s at *
 generalize d.s (d.m h / 4) = t at *
 have ha:h % 4 = 0 ∨ h % 4 = 1 ∨ h % 4 = 2 ∨ h % 4 = 3:=by omega
 have hb:d.m h % 4 = 0 ∨ d.m h % 4 = 1 ∨ d.m h % 4 = 2 ∨ d.m h % 4 = 3:=by omega
 rcases ha with a | a | a | a <;> rcases hb with b | b | b | b <;> (first | (exfalso; omega) | skip) <;> rw [a,b] at w1 w2 <;> rcases s1 with rfl | rfl <;> rcases s2 with rfl | rfl <;> simp at w1 w2 ⊢
end Go.Proofs.YtghdiolnonejaaaGreatDoor.Pl
end
section
namespace Go.Proofs.YtghdiolnonejaaaGreatDoor.Pl
section
variable {d d':Dg} {f g:Nat} {fx fy:Bool}
theorem Pd.l0 (hd:Valid d) (K:Pd d d' f g fx fy):(pkL0 d f g).length = 4 * (d.n + 2) ∧ (pkL0 d f g).getD (pp d.n f 0) 0 = pp (d.n + 1) g 2 ∧ (pkL0 d f g).getD (pp d.n f 1) 0 = pp (d.n + 1) g 1 ∧ ∀ z,z < 4 * d.n → (pkL0 d f g).getD z 0 = d.m z := by
 have B:=K.base hd
 have hw:=(Valid.iff.1 hd).1
 refine ⟨B.ms.len,?_,?_,fun z hz => ?_⟩
 ·rw [B.ms.at_ _ (by unfold pp; omega) (by rw [B.b4]; unfold pp; omega),B.b4]
 ·rw [B.ms.at_ _ (by unfold pp; omega) (by rw [B.b1]; unfold pp; omega),B.b1]
 ·rw [B.ms.at_ z (by omega) (by rw [B.old z hz]; exact hw.ne z hz),B.old z hz]
theorem Pd.out_loops (hd:Valid d) (K:Pd d d' f g fx fy) (hv:Valid d') (hl:d'.mt = jl (jl (pkL0 d f g) (pp (d.n + 1) g 0) (pp d.n f 2)) (pp d.n f 3) (pp (d.n + 1) g 3)):Out d d' f g 1 1 := by
 have hw:=(Valid.iff.1 hd).1
 have hw':=(Valid.iff.1 hv).1
 obtain ⟨ln,l0,l1,lo⟩:=K.l0 hd
 have e:∀ z,z < 4 * (d.n + 2) → d'.m z = if z = (pp (d.n + 1) g 3) then (pp d.n f 3) else if z = (pp d.n f 3) then (pp (d.n + 1) g 3) else if z = (pp d.n f 2) then (pp (d.n + 1) g 0) else if z = (pp (d.n + 1) g 0) then (pp d.n f 2) else (pkL0 d f g).getD z 0:=fun z hz => by
  rw [← dg_m hw' (by rw [K.n]; exact hz),hl,jl_at (by simp only [jl_len,ln,pp]; omega) (by simp only [jl_len,ln,pp]; omega),jl_at (by simp only [jl_len,ln,pp]; omega) (by simp only [jl_len,ln,pp]; omega)]
 have m0:d'.m (pp d.n f 0) = (pp (d.n + 1) g 2):=by rw [e _ (by unfold pp; omega),if_neg (by unfold pp; omega),if_neg (by unfold pp; omega),if_neg (by unfold pp; omega),if_neg (by unfold pp; omega),l0]
 have m1:d'.m (pp d.n f 1) = (pp (d.n + 1) g 1):=by rw [e _ (by unfold pp; omega),if_neg (by unfold pp; omega),if_neg (by unfold pp; omega),if_neg (by unfold pp; omega),if_neg (by unfold pp; omega),l1]
 have v2:d'.m (pp d.n f 2) = (pp (d.n + 1) g 0):=by rw [e _ (by unfold pp; omega),if_neg (by unfold pp; omega),if_neg (by unfold pp; omega),if_pos rfl]
 have v0:d'.m (pp (d.n + 1) g 0) = (pp d.n f 2):=by rw [e _ (by unfold pp; omega),if_neg (by unfold pp; omega),if_neg (by unfold pp; omega),if_neg (by unfold pp; omega),if_pos rfl]
 have v3:d'.m (pp d.n f 3) = (pp (d.n + 1) g 3):=by rw [e _ (by unfold pp; omega),if_neg (by unfold pp; omega),if_pos rfl]
 have w3:d'.m (pp (d.n + 1) g 3) = (pp d.n f 3):=by rw [e _ (by unfold pp; omega),if_pos rfl]
 have old:∀ z,z < 4 * d.n → d'.m z = d.m z:=fun z hz => by rw [e z (by omega),if_neg (by unfold pp; omega),if_neg (by unfold pp; omega),if_neg (by unfold pp; omega),if_neg (by unfold pp; omega),lo z hz]
 exact (show In d d' f g from ⟨K.n,hv,m0,m1⟩).loops v2 v3 old
theorem Pd.out_xedge (hd:Valid d) (K:Pd d d' f g fx fy) (hv:Valid d') {x:Nat} (hx:x < 4 * d.n) (hl:d'.mt = jl (jl (jl (pkL0 d f g) (pp (d.n + 1) g 0) (pp d.n f 2)) x (pp d.n f 3)) (pp (d.n + 1) g 3) (d.m x)):Out d d' f g 1 0 := by
 have hw:=(Valid.iff.1 hd).1
 have hw':=(Valid.iff.1 hv).1
 obtain ⟨ln,l0,l1,lo⟩:=K.l0 hd
 have hmx:=hw.lt x hx
 have hnex:=hw.ne x hx
 have e:∀ z,z < 4 * (d.n + 2) → d'.m z = if z = (d.m x) then (pp (d.n + 1) g 3) else if z = (pp (d.n + 1) g 3) then (d.m x) else if z = (pp d.n f 3) then x else if z = x then (pp d.n f 3) else if z = (pp d.n f 2) then (pp (d.n + 1) g 0) else if z = (pp (d.n + 1) g 0) then (pp d.n f 2) else (pkL0 d f g).getD z 0:=fun z hz => by
  rw [← dg_m hw' (by rw [K.n]; exact hz),hl,jl_at (by simp only [jl_len,ln,pp]; omega) (by simp only [jl_len,ln,pp]; omega),jl_at (by simp only [jl_len,ln,pp]; omega) (by simp only [jl_len,ln,pp]; omega),jl_at (by simp only [jl_len,ln,pp]; omega) (by simp only [jl_len,ln,pp]; omega)]
 have m0:d'.m (pp d.n f 0) = (pp (d.n + 1) g 2):=by rw [e _ (by unfold pp; omega),if_neg (by unfold pp; omega),if_neg (by unfold pp; omega),if_neg (by unfold pp; omega),if_neg (by unfold pp; omega),if_neg (by unfold pp; omega),if_neg (by unfold pp; omega),l0]
 have m1:d'.m (pp d.n f 1) = (pp (d.n + 1) g 1):=by rw [e _ (by unfold pp; omega),if_neg (by unfold pp; omega),if_neg (by unfold pp; omega),if_neg (by unfold pp; omega),if_neg (by unfold pp; omega),if_neg (by unfold pp; omega),if_neg (by unfold pp; omega),l1]
 have v2:d'.m (pp d.n f 2) = (pp (d.n + 1) g 0):=by rw [e _ (by unfold pp; omega),if_neg (by unfold pp; omega),if_neg (by unfold pp; omega),if_neg (by unfold pp; omega),if_neg (by unfold pp; omega),if_pos rfl]
 have v0:d'.m (pp (d.n + 1) g 0) = (pp d.n f 2):=by rw [e _ (by unfold pp; omega),if_neg (by unfold pp; omega),if_neg (by unfold pp; omega),if_neg (by unfold pp; omega),if_neg (by unfold pp; omega),if_neg (by unfold pp; omega),if_pos rfl]
 have v3:d'.m (pp d.n f 3) = x:=by rw [e _ (by unfold pp; omega),if_neg (by unfold pp; omega),if_neg (by unfold pp; omega),if_pos rfl]
 have w3:d'.m (pp (d.n + 1) g 3) = (d.m x):=by rw [e _ (by unfold pp; omega),if_neg (by unfold pp; omega),if_pos rfl]
 have old:∀ z,z < 4 * d.n → z ≠ x → z ≠ d.m x → d'.m z = d.m z:=fun z hz z1 z2 => by rw [e z (by omega),if_neg z2,if_neg (by unfold pp; omega),if_neg (by unfold pp; omega),if_neg z1,if_neg (by unfold pp; omega),if_neg (by unfold pp; omega),lo z hz]
 exact (show In d d' f g from ⟨K.n,hv,m0,m1⟩).xedge hw hx v2 v3 w3 old
theorem Pd.out_yedge (hd:Valid d) (K:Pd d d' f g fx fy) (hv:Valid d') {y:Nat} (hy:y < 4 * d.n) (hl:d'.mt = jl (jl (jl (pkL0 d f g) y (pp (d.n + 1) g 0)) (pp d.n f 2) (d.m y)) (pp d.n f 3) (pp (d.n + 1) g 3)):Out d d' f g 0 1 := by
 have hw:=(Valid.iff.1 hd).1
 have hw':=(Valid.iff.1 hv).1
 obtain ⟨ln,l0,l1,lo⟩:=K.l0 hd
 have hmy:=hw.lt y hy
 have hney:=hw.ne y hy
 have e:∀ z,z < 4 * (d.n + 2) → d'.m z = if z = (pp (d.n + 1) g 3) then (pp d.n f 3) else if z = (pp d.n f 3) then (pp (d.n + 1) g 3) else if z = (d.m y) then (pp d.n f 2) else if z = (pp d.n f 2) then (d.m y) else if z = (pp (d.n + 1) g 0) then y else if z = y then (pp (d.n + 1) g 0) else (pkL0 d f g).getD z 0:=fun z hz => by
  rw [← dg_m hw' (by rw [K.n]; exact hz),hl,jl_at (by simp only [jl_len,ln,pp]; omega) (by simp only [jl_len,ln,pp]; omega),jl_at (by simp only [jl_len,ln,pp]; omega) (by simp only [jl_len,ln,pp]; omega),jl_at (by simp only [jl_len,ln,pp]; omega) (by simp only [jl_len,ln,pp]; omega)]
 have m0:d'.m (pp d.n f 0) = (pp (d.n + 1) g 2):=by rw [e _ (by unfold pp; omega),if_neg (by unfold pp; omega),if_neg (by unfold pp; omega),if_neg (by unfold pp; omega),if_neg (by unfold pp; omega),if_neg (by unfold pp; omega),if_neg (by unfold pp; omega),l0]
 have m1:d'.m (pp d.n f 1) = (pp (d.n + 1) g 1):=by rw [e _ (by unfold pp; omega),if_neg (by unfold pp; omega),if_neg (by unfold pp; omega),if_neg (by unfold pp; omega),if_neg (by unfold pp; omega),if_neg (by unfold pp; omega),if_neg (by unfold pp; omega),l1]
 have v2:d'.m (pp d.n f 2) = (d.m y):=by rw [e _ (by unfold pp; omega),if_neg (by unfold pp; omega),if_neg (by unfold pp; omega),if_neg (by unfold pp; omega),if_pos rfl]
 have v0:d'.m (pp (d.n + 1) g 0) = y:=by rw [e _ (by unfold pp; omega),if_neg (by unfold pp; omega),if_neg (by unfold pp; omega),if_neg (by unfold pp; omega),if_neg (by unfold pp; omega),if_pos rfl]
 have v3:d'.m (pp d.n f 3) = (pp (d.n + 1) g 3):=by rw [e _ (by unfold pp; omega),if_neg (by unfold pp; omega),if_pos rfl]
 have w3:d'.m (pp (d.n + 1) g 3) = (pp d.n f 3):=by rw [e _ (by unfold pp; omega),if_pos rfl]
 have old:∀ z,z < 4 * d.n → z ≠ y → z ≠ d.m y → d'.m z = d.m z:=fun z hz z1 z2 => by rw [e z (by omega),if_neg (by unfold pp; omega),if_neg (by unfold pp; omega),if_neg z2,if_neg (by unfold pp; omega),if_neg (by unfold pp; omega),if_neg z1,lo z hz]
 exact (show In d d' f g from ⟨K.n,hv,m0,m1⟩).yedge hw hy v2 v0 v3 old
theorem Pd.out_edges (hd:Valid d) (K:Pd d d' f g fx fy) (hv:Valid d') {x:Nat} (hx:x < 4 * d.n) {y:Nat} (hy:y < 4 * d.n) (xy:x ≠ y) (xm:d.m x ≠ y) (hl:d'.mt = jl (jl (jl (jl (pkL0 d f g) y (pp (d.n + 1) g 0)) (pp d.n f 2) (d.m y)) x (pp d.n f 3)) (pp (d.n + 1) g 3) (d.m x)):Out d d' f g 0 0 := by
 have hw:=(Valid.iff.1 hd).1
 have hw':=(Valid.iff.1 hv).1
 obtain ⟨ln,l0,l1,lo⟩:=K.l0 hd
 have hmx:=hw.lt x hx
 have hnex:=hw.ne x hx
 have hmy:=hw.lt y hy
 have hney:=hw.ne y hy
 have ym:d.m y ≠ x:=fun e => xm (by rw [← e,hw.inv y hy])
 have mm:d.m x ≠ d.m y:=fun e => xy (hw.bij.inj _ _ hx hy e)
 have e:∀ z,z < 4 * (d.n + 2) → d'.m z = if z = (d.m x) then (pp (d.n + 1) g 3) else if z = (pp (d.n + 1) g 3) then (d.m x) else if z = (pp d.n f 3) then x else if z = x then (pp d.n f 3) else if z = (d.m y) then (pp d.n f 2) else if z = (pp d.n f 2) then (d.m y) else if z = (pp (d.n + 1) g 0) then y else if z = y then (pp (d.n + 1) g 0) else (pkL0 d f g).getD z 0:=fun z hz => by
  rw [← dg_m hw' (by rw [K.n]; exact hz),hl,jl_at (by simp only [jl_len,ln,pp]; omega) (by simp only [jl_len,ln,pp]; omega),jl_at (by simp only [jl_len,ln,pp]; omega) (by simp only [jl_len,ln,pp]; omega),jl_at (by simp only [jl_len,ln,pp]; omega) (by simp only [jl_len,ln,pp]; omega),jl_at (by simp only [jl_len,ln,pp]; omega) (by simp only [jl_len,ln,pp]; omega)]
 have m0:d'.m (pp d.n f 0) = (pp (d.n + 1) g 2):=by rw [e _ (by unfold pp; omega),if_neg (by unfold pp; omega),if_neg (by unfold pp; omega),if_neg (by unfold pp; omega),if_neg (by unfold pp; omega),if_neg (by unfold pp; omega),if_neg (by unfold pp; omega),if_neg (by unfold pp; omega),if_neg (by unfold pp; omega),l0]
 have m1:d'.m (pp d.n f 1) = (pp (d.n + 1) g 1):=by rw [e _ (by unfold pp; omega),if_neg (by unfold pp; omega),if_neg (by unfold pp; omega),if_neg (by unfold pp; omega),if_neg (by unfold pp; omega),if_neg (by unfold pp; omega),if_neg (by unfold pp; omega),if_neg (by unfold pp; omega),if_neg (by unfold pp; omega),l1]
 have v2:d'.m (pp d.n f 2) = (d.m y):=by rw [e _ (by unfold pp; omega),if_neg (by unfold pp; omega),if_neg (by unfold pp; omega),if_neg (by unfold pp; omega),if_neg (by unfold pp; omega),if_neg (by unfold pp; omega),if_pos rfl]
 have v0:d'.m (pp (d.n + 1) g 0) = y:=by rw [e _ (by unfold pp; omega),if_neg (by unfold pp; omega),if_neg (by unfold pp; omega),if_neg (by unfold pp; omega),if_neg (by unfold pp; omega),if_neg (by unfold pp; omega),if_neg (by unfold pp; omega),if_pos rfl]
 have v3:d'.m (pp d.n f 3) = x:=by rw [e _ (by unfold pp; omega),if_neg (by unfold pp; omega),if_neg (by unfold pp; omega),if_pos rfl]
 have w3:d'.m (pp (d.n + 1) g 3) = (d.m x):=by rw [e _ (by unfold pp; omega),if_neg (by unfold pp; omega),if_pos rfl]
 have old:∀ z,z < 4 * d.n → z ≠ x → z ≠ d.m x → z ≠ y → z ≠ d.m y → d'.m z = d.m z:=fun z hz z1 z2 z3 z4 => by rw [e z (by omega),if_neg z2,if_neg (by unfold pp; omega),if_neg (by unfold pp; omega),if_neg z1,if_neg z4,if_neg (by unfold pp; omega),if_neg (by unfold pp; omega),if_neg z3,lo z hz]
 exact (show In d d' f g from ⟨K.n,hv,m0,m1⟩).edges hw hx hy xy xm v2 v0 v3 w3 old
theorem Pd.out_self0 (hd:Valid d) (K:Pd d d' f g fx fy) (hv:Valid d') (hl:d'.mt = jl (jl (pkL0 d f g) (pp (d.n + 1) g 3) (pp (d.n + 1) g 0)) (pp d.n f 2) (pp d.n f 3)):Out d d' f g 0 1 := by
 have hw:=(Valid.iff.1 hd).1
 have hw':=(Valid.iff.1 hv).1
 obtain ⟨ln,l0,l1,lo⟩:=K.l0 hd
 have e:∀ z,z < 4 * (d.n + 2) → d'.m z = if z = (pp d.n f 3) then (pp d.n f 2) else if z = (pp d.n f 2) then (pp d.n f 3) else if z = (pp (d.n + 1) g 0) then (pp (d.n + 1) g 3) else if z = (pp (d.n + 1) g 3) then (pp (d.n + 1) g 0) else (pkL0 d f g).getD z 0:=fun z hz => by
  rw [← dg_m hw' (by rw [K.n]; exact hz),hl,jl_at (by simp only [jl_len,ln,pp]; omega) (by simp only [jl_len,ln,pp]; omega),jl_at (by simp only [jl_len,ln,pp]; omega) (by simp only [jl_len,ln,pp]; omega)]
 have m0:d'.m (pp d.n f 0) = (pp (d.n + 1) g 2):=by rw [e _ (by unfold pp; omega),if_neg (by unfold pp; omega),if_neg (by unfold pp; omega),if_neg (by unfold pp; omega),if_neg (by unfold pp; omega),l0]
 have m1:d'.m (pp d.n f 1) = (pp (d.n + 1) g 1):=by rw [e _ (by unfold pp; omega),if_neg (by unfold pp; omega),if_neg (by unfold pp; omega),if_neg (by unfold pp; omega),if_neg (by unfold pp; omega),l1]
 have v2:d'.m (pp d.n f 2) = (pp d.n f 3):=by rw [e _ (by unfold pp; omega),if_neg (by unfold pp; omega),if_pos rfl]
 have v0:d'.m (pp (d.n + 1) g 0) = (pp (d.n + 1) g 3):=by rw [e _ (by unfold pp; omega),if_neg (by unfold pp; omega),if_neg (by unfold pp; omega),if_pos rfl]
 have v3:d'.m (pp d.n f 3) = (pp d.n f 2):=by rw [e _ (by unfold pp; omega),if_pos rfl]
 have w3:d'.m (pp (d.n + 1) g 3) = (pp (d.n + 1) g 0):=by rw [e _ (by unfold pp; omega),if_neg (by unfold pp; omega),if_neg (by unfold pp; omega),if_neg (by unfold pp; omega),if_pos rfl]
 have old:∀ z,z < 4 * d.n → d'.m z = d.m z:=fun z hz => by rw [e z (by omega),if_neg (by unfold pp; omega),if_neg (by unfold pp; omega),if_neg (by unfold pp; omega),if_neg (by unfold pp; omega),lo z hz]
 exact (show In d d' f g from ⟨K.n,hv,m0,m1⟩).self0 v2 v0 old
theorem Pd.out_self1 (hd:Valid d) (K:Pd d d' f g fx fy) (hv:Valid d') {x:Nat} (hx:x < 4 * d.n) (hl:d'.mt = jl (jl (jl (pkL0 d f g) x (pp d.n f 3)) (pp (d.n + 1) g 3) (pp (d.n + 1) g 0)) (pp d.n f 2) (d.m x)):Out d d' f g 0 0 := by
 have hw:=(Valid.iff.1 hd).1
 have hw':=(Valid.iff.1 hv).1
 obtain ⟨ln,l0,l1,lo⟩:=K.l0 hd
 have hmx:=hw.lt x hx
 have hnex:=hw.ne x hx
 have e:∀ z,z < 4 * (d.n + 2) → d'.m z = if z = (d.m x) then (pp d.n f 2) else if z = (pp d.n f 2) then (d.m x) else if z = (pp (d.n + 1) g 0) then (pp (d.n + 1) g 3) else if z = (pp (d.n + 1) g 3) then (pp (d.n + 1) g 0) else if z = (pp d.n f 3) then x else if z = x then (pp d.n f 3) else (pkL0 d f g).getD z 0:=fun z hz => by
  rw [← dg_m hw' (by rw [K.n]; exact hz),hl,jl_at (by simp only [jl_len,ln,pp]; omega) (by simp only [jl_len,ln,pp]; omega),jl_at (by simp only [jl_len,ln,pp]; omega) (by simp only [jl_len,ln,pp]; omega),jl_at (by simp only [jl_len,ln,pp]; omega) (by simp only [jl_len,ln,pp]; omega)]
 have m0:d'.m (pp d.n f 0) = (pp (d.n + 1) g 2):=by rw [e _ (by unfold pp; omega),if_neg (by unfold pp; omega),if_neg (by unfold pp; omega),if_neg (by unfold pp; omega),if_neg (by unfold pp; omega),if_neg (by unfold pp; omega),if_neg (by unfold pp; omega),l0]
 have m1:d'.m (pp d.n f 1) = (pp (d.n + 1) g 1):=by rw [e _ (by unfold pp; omega),if_neg (by unfold pp; omega),if_neg (by unfold pp; omega),if_neg (by unfold pp; omega),if_neg (by unfold pp; omega),if_neg (by unfold pp; omega),if_neg (by unfold pp; omega),l1]
 have v2:d'.m (pp d.n f 2) = (d.m x):=by rw [e _ (by unfold pp; omega),if_neg (by unfold pp; omega),if_pos rfl]
 have v0:d'.m (pp (d.n + 1) g 0) = (pp (d.n + 1) g 3):=by rw [e _ (by unfold pp; omega),if_neg (by unfold pp; omega),if_neg (by unfold pp; omega),if_pos rfl]
 have v3:d'.m (pp d.n f 3) = x:=by rw [e _ (by unfold pp; omega),if_neg (by unfold pp; omega),if_neg (by unfold pp; omega),if_neg (by unfold pp; omega),if_neg (by unfold pp; omega),if_pos rfl]
 have w3:d'.m (pp (d.n + 1) g 3) = (pp (d.n + 1) g 0):=by rw [e _ (by unfold pp; omega),if_neg (by unfold pp; omega),if_neg (by unfold pp; omega),if_neg (by unfold pp; omega),if_pos rfl]
 have old:∀ z,z < 4 * d.n → z ≠ x → z ≠ d.m x → d'.m z = d.m z:=fun z hz z1 z2 => by rw [e z (by omega),if_neg z2,if_neg (by unfold pp; omega),if_neg (by unfold pp; omega),if_neg (by unfold pp; omega),if_neg (by unfold pp; omega),if_neg z1,lo z hz]
 exact (show In d d' f g from ⟨K.n,hv,m0,m1⟩).self1 hw hx v2 v0 v3 old
theorem Pd.out_self2 (hd:Valid d) (K:Pd d d' f g fx fy) (hv:Valid d') {x:Nat} (hx:x < 4 * d.n) (hl:d'.mt = jl (jl (jl (pkL0 d f g) x (pp (d.n + 1) g 0)) (pp d.n f 2) (pp d.n f 3)) (pp (d.n + 1) g 3) (d.m x)):Out d d' f g 0 0 := by
 have hw:=(Valid.iff.1 hd).1
 have hw':=(Valid.iff.1 hv).1
 obtain ⟨ln,l0,l1,lo⟩:=K.l0 hd
 have hmx:=hw.lt x hx
 have hnex:=hw.ne x hx
 have e:∀ z,z < 4 * (d.n + 2) → d'.m z = if z = (d.m x) then (pp (d.n + 1) g 3) else if z = (pp (d.n + 1) g 3) then (d.m x) else if z = (pp d.n f 3) then (pp d.n f 2) else if z = (pp d.n f 2) then (pp d.n f 3) else if z = (pp (d.n + 1) g 0) then x else if z = x then (pp (d.n + 1) g 0) else (pkL0 d f g).getD z 0:=fun z hz => by
  rw [← dg_m hw' (by rw [K.n]; exact hz),hl,jl_at (by simp only [jl_len,ln,pp]; omega) (by simp only [jl_len,ln,pp]; omega),jl_at (by simp only [jl_len,ln,pp]; omega) (by simp only [jl_len,ln,pp]; omega),jl_at (by simp only [jl_len,ln,pp]; omega) (by simp only [jl_len,ln,pp]; omega)]
 have m0:d'.m (pp d.n f 0) = (pp (d.n + 1) g 2):=by rw [e _ (by unfold pp; omega),if_neg (by unfold pp; omega),if_neg (by unfold pp; omega),if_neg (by unfold pp; omega),if_neg (by unfold pp; omega),if_neg (by unfold pp; omega),if_neg (by unfold pp; omega),l0]
 have m1:d'.m (pp d.n f 1) = (pp (d.n + 1) g 1):=by rw [e _ (by unfold pp; omega),if_neg (by unfold pp; omega),if_neg (by unfold pp; omega),if_neg (by unfold pp; omega),if_neg (by unfold pp; omega),if_neg (by unfold pp; omega),if_neg (by unfold pp; omega),l1]
 have v2:d'.m (pp d.n f 2) = (pp d.n f 3):=by rw [e _ (by unfold pp; omega),if_neg (by unfold pp; omega),if_neg (by unfold pp; omega),if_neg (by unfold pp; omega),if_pos rfl]
 have v0:d'.m (pp (d.n + 1) g 0) = x:=by rw [e _ (by unfold pp; omega),if_neg (by unfold pp; omega),if_neg (by unfold pp; omega),if_neg (by unfold pp; omega),if_neg (by unfold pp; omega),if_pos rfl]
 have v3:d'.m (pp d.n f 3) = (pp d.n f 2):=by rw [e _ (by unfold pp; omega),if_neg (by unfold pp; omega),if_neg (by unfold pp; omega),if_pos rfl]
 have w3:d'.m (pp (d.n + 1) g 3) = (d.m x):=by rw [e _ (by unfold pp; omega),if_neg (by unfold pp; omega),if_pos rfl]
 have old:∀ z,z < 4 * d.n → z ≠ x → z ≠ d.m x → d'.m z = d.m z:=fun z hz z1 z2 => by rw [e z (by omega),if_neg z2,if_neg (by unfold pp; omega),if_neg (by unfold pp; omega),if_neg (by unfold pp; omega),if_neg (by unfold pp; omega),if_neg z1,lo z hz]
 exact (show In d d' f g from ⟨K.n,hv,m0,m1⟩).self2 hw hx v2 v0 w3 old
end
end Go.Proofs.YtghdiolnonejaaaGreatDoor.Pl
end
section
namespace Go.Proofs.YtghdiolnonejaaaGreatDoor
open Go Go.RowKit
attribute [local go_sem ↓] Go.wp_at_zero Go.wp_at_succ
theorem cl0 (A:Option Addr) (c:Nat) (w:World):Calls Tryz.prog 42 #[.slice A 0 c] w fun e w' => ∃ (A':Option Addr) (c':Nat),e = .returned (.slice A' 0 c') ∧ Below w.heap.size w w' := by
 cases A with
 | none =>
   refine (Tryz.slices_Clone_int_nil 0 c w).mono ?_
   rintro e w' ⟨rfl,rfl⟩
   exact ⟨none,0,rfl,Below.refl _ _⟩
 | some a =>
   refine (Tryz.slices_Clone_int_zero a c w).mono ?_
   rintro e w' ⟨v,rfl,own,_,hb⟩
   obtain ⟨A',c',rfl⟩:=owns_slice own
   exact ⟨A',c',rfl,hb⟩
set_option maxRecDepth 100000 in
set_option maxHeartbeats 2000000 in
theorem clone_zero (A B:Option Addr) (cp cq:Nat) (lp:Int) (w:World) :
 Calls Tryz.prog 23 #[.agg #[.slice A 0 cp,.slice B 0 cq,.int .i64 lp]] w fun e w' => ∃ (A9 B9:Option Addr) (c8 c9:Nat),e = .returned (.agg #[.slice A9 0 c8,.slice B9 0 c9,.int .i64 lp]) ∧ Below w.heap.size w w' := by
 have HGS:=hide (GS.start w (.slice A 0 cp) (.slice B 0 cq) (.int .i64 lp) (.slice none 0 0) (.slice none 0 0) (.int .i64 0))
 go_enter Tryz.func23,Tryz.ntmps23
 go_wp2_with fail
 obtain ⟨V0,hV0⟩:∃ V:World,V = (w.alloc (.cells #[.slice A 0 cp,.slice B 0 cq,.int .i64 lp] 24)).alloc (.cells #[.slice none 0 0,.slice none 0 0,.int .i64 0] 24) := ⟨_,rfl⟩
 rw [← hV0] at HGS ⊢
 have hv0:w.heap.size + 2 ≤ V0.heap.size:=by rw [hV0]; simp
 clear hV0
 obtain ⟨c0,c1,c2,c3,c4,c5,c6,_⟩:=HGS.out.all
 go_region_held3 (fun w' => w'.cell? ⟨w.heap.size,0,none⟩ = some (.slice A 0 cp) ∧ w'.cell? ⟨w.heap.size,1,none⟩ = some (.slice B 0 cq) ∧ w'.cell? ⟨w.heap.size,2,none⟩ = some (.int .i64 lp) ∧ w'.cell? ⟨w.heap.size + 1,0,none⟩ = some (cv w' ⟨w.heap.size + 1,0,none⟩) ∧ w'.cell? ⟨w.heap.size + 1,1,none⟩ = some (cv w' ⟨w.heap.size + 1,1,none⟩) ∧ w'.cell? ⟨w.heap.size + 1,2,none⟩ = some (cv w' ⟨w.heap.size + 1,2,none⟩) ∧ (∀ o,w'.frozen? ⟨w.heap.size + 1,o,none⟩ = false) ∧ GS w w.heap.size (.slice A 0 cp) (.slice B 0 cq) (.int .i64 lp) w')
  ((go_split_ands; refine GS.all ?_; (repeat (first | (with_reducible assumption) | (with_reducible exact HGS.out) | (with_reducible refine GS.set ?_ _ _) | (with_reducible refine GS.drew ?_) | (with_reducible refine GS.below ?_ hbb) | (with_reducible refine GS.below ?_ hba)))))
  (first
    | (have hxa := hba
       clear hxa
       go_at_call 42
       refine Calls.mono (cl0 B cq _) ?_
       rintro e wb ⟨Ab,kb,rfl,hbb⟩)
    | (go_at_call 42
       refine Calls.mono (cl0 A cp _) ?_
       rintro e wa ⟨Aa,ka,rfl,hba⟩))
 clear c0 c1 c2 c3 c4 c5 c6
 have G5:=hide ((HGS.out.drew.below hba).below hbb)
 go_wp2
 refine bodyPost_ret (v := .agg #[.slice Aa 0 ka,.slice Ab 0 kb,.int .i64 lp]) ?_ rfl ⟨Aa,Ab,ka,kb,rfl,?_⟩
 ·obtain ⟨e0,e1,e2⟩:=G5.out.fin (.slice Aa 0 ka) (.slice Ab 0 kb) (.int .i64 lp)
  simp [results,Tryz.results23,go_sem,e0,e1,e2]
 ·exact ((G5.out.bel.setCell (by show _ ≤ w.heap.size + 1; omega) _).setCell (by show _ ≤ w.heap.size + 1; omega) _).setCell (by show _ ≤ w.heap.size + 1; omega) _
theorem clone_all (d:Pl.Dg) (A B:Option Addr) (cp cq m:Nat) (w:World) (hm:m = 4 * d.n) (hg:DgAt w A B d) (hn:d.n ≤ 64) :
 Calls Tryz.prog 23 #[.agg #[.slice A d.n cp,.slice B m cq,.int .i64 d.lp]] w fun e w' => ∃ (A9 B9:Option Addr) (c8 c9:Nat),e = .returned (.agg #[.slice A9 d.n c8,.slice B9 m c9,.int .i64 d.lp]) ∧ DgT w' A9 B9 d ∧ Below w.heap.size w w' := by
 rcases Nat.eq_zero_or_pos d.n with h0 | h0
 ·have hs:=hg.s.len
  have hmm:=hg.m.len
  subst hm
  rw [h0] at hs hmm
  have:=clone_zero A B cp cq d.lp w
  rw [h0]
  refine this.mono ?_
  rintro e w' ⟨A9,B9,c8,c9,rfl,hb⟩
  exact ⟨A9,B9,c8,c9,rfl,⟨⟨by rw [h0]; simpa using hs,fun h => by omega⟩,⟨by rw [h0]; simpa using hmm,fun h => by omega⟩⟩,hb⟩
 ·refine (clone_any d A B cp cq m w hm hg ⟨h0,hn⟩).mono ?_
  rintro e w' ⟨g1,c1,g2,c2,rfl,o1,o2,_,hb⟩
  exact ⟨_,_,c1,c2,rfl,⟨own_intsT o1,by rw [← hm]; exact o2.intsT⟩,hb⟩
end Go.Proofs.YtghdiolnonejaaaGreatDoor
end
