/-
 The texts Xj, Xp.
-/
import Derived.Test.YtghdiolnonejaaaR03
set_option linter.unusedVariables false
set_option linter.unusedSimpArgs false
section
namespace Go.Proofs.Ytghdiolnonejaaa
open Go Go.RowKit
attribute [local go_sem ↓] Go.wp_at_zero Go.wp_at_succ
def sb (d:Pl.Dg) (h k:Nat):Nat := Pl.tn (eo d (th d h k)) 2
def so (d:Pl.Dg) (h k:Nat):Nat := eo d (th d h k)
def si (d:Pl.Dg) (h k:Nat):Nat := ei d (th d h k)
def sf (d:Pl.Dg) (h k:Nat):Nat := Pl.tn (ei d (th d h k)) 2
def sTo (d:Pl.Dg) (h:Nat):Nat → List Nat
 | 0 => List.range (4 * d.n)
 | k + 1 => ((sTo d h k).set (sb d h k) (si d h k)).set (sf d h k) (so d h k)
def sOu (d:Pl.Dg) (h:Nat):Nat → List Bool
 | 0 => List.replicate (4 * d.n) false
 | k + 1 => ((sOu d h k).set (sb d h k) true).set (sf d h k) true
def sM (d:Pl.Dg) (h:Nat):Nat → List Nat
 | 0 => d.mt
 | u + 1 => if (sOu d h 3).getD u false = true then jn (sM d h u) ((sTo d h 3).getD u 0) ((sTo d h 3).getD (d.m u) 0) else sM d h u
def sF (d:Pl.Dg) (h:Nat):Nat → List Nat
 | 0 => sM d h (4 * d.n)
 | k + 1 => jn (sF d h k) (sb d h k) (sf d h k)
def lnx (l:List Nat) (u:Nat):Nat := Pl.tn (l.getD u 0) 3
def sC (d:Pl.Dg) (h u:Nat):Bool := (sOu d h 3).getD u false && (sOu d h 3).getD (lnx (sF d h 3) u) false && (sOu d h 3).getD (lnx (sF d h 3) (lnx (sF d h 3) u)) false && lnx (sF d h 3) (lnx (sF d h 3) (lnx (sF d h 3) u)) == u
def sX (d:Pl.Dg) (h:Nat):Nat → Nat
 | 0 => 0
 | g + 1 => if sC d h (4 * d.n - (g + 1)) then 4 * d.n - (g + 1) else sX d h g
open Classical in
noncomputable def sldC (d:Pl.Dg) (h:Nat):Int := if isT d h then 0 else 6
def sldD (d:Pl.Dg) (h:Nat):Pl.Dg := ⟨d.sg,sF d h 3,d.lp⟩
def sldI (d:Pl.Dg) (h:Nat):Mv := ⟨5,sX d h (4 * d.n),0,0,false⟩
def SldPost (d:Pl.Dg) (h:Nat) (w:World) (e:Ending) (w':World):Prop := (sldC d h ≠ 0 → ResErr (sldC d h) e) ∧ (sldC d h = 0 → ResOk (sldD d h) (sldI d h) e w') ∧ Below w.heap.size w w'
theorem sTo_len (d:Pl.Dg) (h:Nat):∀ k,(sTo d h k).length = 4 * d.n
 | 0 => by simp [sTo]
 | k + 1 => by simp [sTo,sTo_len d h k]
theorem sOu_len (d:Pl.Dg) (h:Nat):∀ k,(sOu d h k).length = 4 * d.n
 | 0 => by simp [sOu]
 | k + 1 => by simp [sOu,sOu_len d h k]
theorem tri_v (d:Pl.Dg) (hd:Pl.Wf d) (A B:Option Addr) (cp cq m h:Nat) (w:World) (hm:m = 4 * d.n) (hg:DgAt w A B d) (hh:h < 4 * d.n) :
 Calls Try.prog 95 #[.agg #[.slice A d.n cp,.slice B m cq,.int .i64 d.lp],.int .i64 (h:Int)] w fun e w' => ∃ b0 o0 i0 f0 b1 o1 i1 f1 b2 o2 i2 f2:Nat,
  e = .returned (.tuple #[.agg #[.int .i64 (b0:Int),.int .i64 (o0:Int),.int .i64 (i0:Int),.int .i64 (f0:Int),.int .i64 (b1:Int),.int .i64 (o1:Int),.int .i64 (i1:Int),.int .i64 (f1:Int),.int .i64 (b2:Int),.int .i64 (o2:Int),.int .i64 (i2:Int),.int .i64 (f2:Int)],.bool (Pl.vb (isT d h))]) ∧
  (isT d h → b0 = sb d h 0 ∧ o0 = so d h 0 ∧ i0 = si d h 0 ∧ f0 = sf d h 0 ∧ b1 = sb d h 1 ∧ o1 = so d h 1 ∧ i1 = si d h 1 ∧ f1 = sf d h 1 ∧ b2 = sb d h 2 ∧ o2 = so d h 2 ∧ i2 = si d h 2 ∧ f2 = sf d h 2) ∧ Below w.heap.size w w' := by
 refine (triangle_any d hd A B cp cq m h w hm hg hh).mono ?_
 rintro e w' ⟨h1,h2,hb⟩
 by_cases h3:is3 d h
 ·exact ⟨_,_,_,_,_,_,_,_,_,_,_,_,h1 h3,fun _ => ⟨rfl,rfl,rfl,rfl,rfl,rfl,rfl,rfl,rfl,rfl,rfl,rfl⟩,hb⟩
 ·refine ⟨0,0,0,0,0,0,0,0,0,0,0,0,?_,fun h => absurd h.1 h3,hb⟩
  rw [h2 h3,Pl.vb_false (fun h => h3 h.1)]
  rfl
theorem s_lt {d:Pl.Dg} (hd:Pl.Wf d) {h:Nat} (hh:h < 4 * d.n) (k:Nat):sb d h k < 4 * d.n ∧ so d h k < 4 * d.n ∧ si d h k < 4 * d.n ∧ sf d h k < 4 * d.n := by
 have h1:=eo_lt hd (th_lt hd hh k)
 have h2:=hd.lt _ h1
 exact ⟨Pl.tn_lt h1,h1,h2,Pl.tn_lt h2⟩
theorem sTo_lt {d:Pl.Dg} (hd:Pl.Wf d) {h:Nat} (hh:h < 4 * d.n):∀ k u,u < 4 * d.n → (sTo d h k).getD u 0 < 4 * d.n
 | 0,u,hu => by simp [sTo,List.getD_eq_getElem?_getD,hu]
 | k + 1, u, hu => by
   obtain ⟨h1,h2,h3,h4⟩:=s_lt hd hh k
   have ih:=sTo_lt hd hh k u hu
   have key:∀ (l:List Nat) (a b:Nat),l.getD u 0 < 4 * d.n → b < 4 * d.n → (l.set a b).getD u 0 < 4 * d.n:=by
    intro l a b hl hb
    rw [List.getD_eq_getElem?_getD,List.getElem?_set] at *
    split
    ·split
     ·simpa using hb
     ·simp; omega
    ·exact hl
   exact key _ _ _ (key _ _ _ ih h3) h2
theorem jn_lt' {N:Nat} {l:List Nat} {a b:Nat} (h:∀ k,k < N → l.getD k 0 < N) (ha:a < N) (hb:b < N):∀ k,k < N → (jn l a b).getD k 0 < N := by
 intro k hk
 have key:∀ (l:List Nat) (a b:Nat),l.getD k 0 < N → b < N → (l.set a b).getD k 0 < N:=by
  intro l a b hl hb
  rw [List.getD_eq_getElem?_getD,List.getElem?_set] at *
  split
  ·split
   ·simpa using hb
   ·simp; omega
  ·exact hl
 exact key _ _ _ (key _ _ _ (h k hk) hb) ha
theorem sM_lt {d:Pl.Dg} (hd:Pl.Wf d) {h:Nat} (hh:h < 4 * d.n):∀ u,u ≤ 4 * d.n → ∀ k,k < 4 * d.n → (sM d h u).getD k 0 < 4 * d.n
 | 0, _, k, hk => by
   have:=hd.lt k hk
   rw [← getD_m (by rw [hd.len]; exact hk)] at this
   exact this
 | u + 1, hu, k, hk => by
   unfold sM
   split
   ·exact jn_lt' (sM_lt hd hh u (by omega)) (sTo_lt hd hh 3 u (by omega)) (sTo_lt hd hh 3 _ (hd.lt u (by omega))) k hk
   ·exact sM_lt hd hh u (by omega) k hk
theorem sF_lt {d:Pl.Dg} (hd:Pl.Wf d) {h:Nat} (hh:h < 4 * d.n):∀ j k,k < 4 * d.n → (sF d h j).getD k 0 < 4 * d.n
 | 0,k,hk => sM_lt hd hh _ (Nat.le_refl _) k hk
 | j + 1, k, hk => by
   obtain ⟨h1,h2,h3,h4⟩:=s_lt hd hh j
   unfold sF
   exact jn_lt' (sF_lt hd hh j) h1 h4 k hk
theorem cl1 (A:Option Addr) (n c:Nat) (xs:List Int) (w:World) (hx:IntsAt w A n xs) (hn:0 < n ∧ n ≤ 1000) :
 Calls Try.prog 65 #[.slice A n c] w fun e w' => ∃ g c':Nat,e = .returned (.slice (some ⟨g,0,none⟩) n c') ∧ w'.ownsRow w.heap.size 3 1 (.slice (some ⟨g,0,none⟩) n c') n (xs.map (.int .i64)) ∧ Below w.heap.size w w' := by
 have hl:=hx.len
 obtain ⟨b,o,rfl,_⟩:=hx.at_ (k := 0) hn.1
 refine (Try.slices_Clone_int b o n c xs w (by omega) (by omega) (fun j hj => ?_)).mono ?_
 ·obtain ⟨b',o',e,hc⟩:=hx.at_ (k := j) (by omega)
  injection e with e
  injection e with e1 e2
  subst e1
  subst e2
  exact hc
 ·rintro e w' ⟨v,rfl,own,_,hb⟩
  rw [List.take_of_length_le (by omega)] at own
  obtain ⟨A',c',rfl⟩:=owns_slice own
  obtain ⟨g,rfl,_,_⟩:=owns_pos hn.1 own
  exact ⟨g,c',rfl,own,hb⟩
set_option maxRecDepth 100000 in
set_option maxHeartbeats 2000000 in
theorem clone_any (d:Pl.Dg) (A B:Option Addr) (cp cq m:Nat) (w:World) (hm:m = 4 * d.n) (hg:DgAt w A B d) (hn:0 < d.n ∧ d.n ≤ 64) :
 Calls Try.prog 37 #[.agg #[.slice A d.n cp,.slice B m cq,.int .i64 d.lp]] w fun e w' => ∃ g1 c1 g2 c2:Nat,e = .returned (.agg #[.slice (some ⟨g1,0,none⟩) d.n c1,.slice (some ⟨g2,0,none⟩) m c2,.int .i64 d.lp]) ∧
  w'.ownsRow w.heap.size 3 1 (.slice (some ⟨g1,0,none⟩) d.n c1) d.n (d.sg.map (.int .i64)) ∧ OwnN w' w.heap.size g2 m c2 d.mt ∧ g1 ≠ g2 ∧ Below w.heap.size w w' := by
 have HG:=hide hg
 have HGM:=hide (show IntsAt w B m (nats d.mt) by rw [hm]; exact hg.m)
 have hm0:0 < m ∧ m ≤ 1000:=by omega
 have hnn:0 < d.n ∧ d.n ≤ 1000:=by omega
 clear hm hg
 have HGS:=hide (GS.start w (.slice A d.n cp) (.slice B m cq) (.int .i64 d.lp) (.slice none 0 0) (.slice none 0 0) (.int .i64 0))
 go_enter Try.func37,Try.ntmps37
 go_wp2_with fail
 obtain ⟨V0,hV0⟩:∃ V:World,V = (w.alloc (.cells #[.slice A d.n cp,.slice B m cq,.int .i64 d.lp] 24)).alloc (.cells #[.slice none 0 0,.slice none 0 0,.int .i64 0] 24) := ⟨_,rfl⟩
 rw [← hV0] at HGS ⊢
 have hv0:w.heap.size + 2 ≤ V0.heap.size:=by rw [hV0]; simp
 clear hV0
 obtain ⟨c0,c1,c2,c3,c4,c5,c6,_⟩:=HGS.out.all
 go_region_held3 (fun w' => w'.cell? ⟨w.heap.size,0,none⟩ = some (.slice A d.n cp) ∧ w'.cell? ⟨w.heap.size,1,none⟩ = some (.slice B m cq) ∧ w'.cell? ⟨w.heap.size,2,none⟩ = some (.int .i64 d.lp) ∧ w'.cell? ⟨w.heap.size + 1,0,none⟩ = some (cv w' ⟨w.heap.size + 1,0,none⟩) ∧ w'.cell? ⟨w.heap.size + 1,1,none⟩ = some (cv w' ⟨w.heap.size + 1,1,none⟩) ∧ w'.cell? ⟨w.heap.size + 1,2,none⟩ = some (cv w' ⟨w.heap.size + 1,2,none⟩) ∧ (∀ o,w'.frozen? ⟨w.heap.size + 1,o,none⟩ = false) ∧ GS w w.heap.size (.slice A d.n cp) (.slice B m cq) (.int .i64 d.lp) w')
  ((go_split_ands; refine GS.all ?_; (repeat (first | (with_reducible assumption) | (with_reducible exact HGS.out) | (with_reducible refine GS.set ?_ _ _) | (with_reducible refine GS.drew ?_) | (with_reducible refine GS.below ?_ hbb) | (with_reducible refine GS.below ?_ hba)))))
  (first
    | (have hxa := hba
       clear hxa
       go_at_call 65
       refine Calls.mono (cl1 B m cq (nats d.mt) _ ?_ hm0) ?_
       ·exact HGM.out.keep (HGS.out.drew.below hba).bel
       rintro e wb ⟨g2,k2,rfl,ownb,hbb⟩)
    | (go_at_call 65
       refine Calls.mono (cl1 A d.n cp d.sg _ ?_ hnn) ?_
       ·exact HG.out.s.keep HGS.out.drew.bel
       rintro e wa ⟨g1,k1,rfl,owna,hba⟩))
 clear c0 c1 c2 c3 c4 c5 c6
 have G5:=hide ((HGS.out.drew.below hba).below hbb)
 go_wp2
 have ga:=World.ownsRow.lt owna g1 rfl
 have gb:=World.ownsRow.lt ownb g2 rfl
 have e9:V0.drew.heap.size = V0.heap.size:=rfl
 refine bodyPost_ret (v := .agg #[.slice (some ⟨g1,0,none⟩) d.n k1,.slice (some ⟨g2,0,none⟩) m k2,.int .i64 d.lp]) ?_ rfl ⟨g1,k1,g2,k2,rfl,?_,?_,?_,?_⟩
 ·obtain ⟨e0,e1,e2⟩:=G5.out.fin (.slice (some ⟨g1,0,none⟩) d.n k1) (.slice (some ⟨g2,0,none⟩) m k2) (.int .i64 d.lp)
  simp [results,Try.results37,go_sem,e0,e1,e2]
 ·exact own_set (own_set (own_set (own_keep (own_keep owna hbb (Nat.le_refl _)) (Below.refl _ _) (by omega)) (by omega)) (by omega)) (by omega)
 ·unfold OwnN
  rw [← map_nats]
  exact own_set (own_set (own_set (own_keep ownb (Below.refl _ _) (by have := hba.size; omega)) (by omega)) (by omega)) (by omega)
 ·omega
 ·exact ((G5.out.bel.setCell (by show _ ≤ w.heap.size + 1; omega) _).setCell (by show _ ≤ w.heap.size + 1; omega) _).setCell (by show _ ≤ w.heap.size + 1; omega) _
theorem nats_set0 (F:List Nat) (y v:Nat):nats (F.set y v) = (nats F).set y (v:Int) := by unfold nats; rw [List.map_set]
theorem nats_len (F:List Nat):(nats F).length = F.length := by unfold nats; simp
theorem box4 {W:World} {g:Nat} {t:TypeId} {a b c e:Value} (h:Row W g t [a,b,c,e]):W.cell? ⟨g,0,none⟩ = some a ∧ W.cell? ⟨g,1,none⟩ = some b ∧ W.cell? ⟨g,2,none⟩ = some c ∧ W.cell? ⟨g,3,none⟩ = some e ∧ ∀ o,W.frozen? ⟨g,o,none⟩ = false :=
 ⟨h.cell (i := 0) (by simp),h.cell (i := 1) (by simp),h.cell (i := 2) (by simp),h.cell (i := 3) (by simp),h.free⟩
theorem s_ne {d:Pl.Dg} (hd:Pl.Wf d) {h:Nat} (hh:h < 4 * d.n) (hi:isT d h) (k:Nat) (hk:k < 3):sb d h k ≠ sf d h k := by
 have hl:=th_lt hd hh k
 obtain ⟨⟨e3,c01,c12,c02⟩,_⟩:=hi
 have key:d.m (th d h k) / 4 ≠ th d h k / 4:=by
  have hk3:k = 0 ∨ k = 1 ∨ k = 2:=by omega
  have nd:∀ z,Pl.nx d z / 4 = d.m z / 4:=fun z => by unfold Pl.nx; rw [Pl.tn_div]
  rcases hk3 with rfl | rfl | rfl
  ·rw [← nd]; show th d h 1 / 4 ≠ h / 4; omega
  ·rw [← nd]; show th d h 2 / 4 ≠ th d h 1 / 4; omega
  ·rw [← nd,e3]; omega
 intro e
 have:=congrArg (· / 4) e
 unfold sb sf ei eo at this
 simp only [Pl.tn_div] at this
 by_cases ho:Pl.out d (th d h k) = true
 ·rw [if_pos ho] at this; omega
 ·rw [if_neg ho,hd.inv _ hl] at this; omega
structure SB (w:World) (ge:Nat) (dv mv ev:List Value) (W:World):Prop where
 d:Row W w.heap.size 24 dv
 m:Row W (w.heap.size + 1) 37 mv
 rd:∃ vs,Row W (w.heap.size + 1 + 1) 24 vs ∧ vs.length = 3
 rm:∃ us,Row W (w.heap.size + 1 + 1 + 1) 37 us ∧ us.length = 5
 e:Row W ge 107 ev
 bel:Below w.heap.size w W
 lo:w.heap.size + 1 + 1 + 1 < ge
section
variable {w W W':World} {ge:Nat} {dv mv ev:List Value}
theorem SB.drew (h:SB w ge dv mv ev W):SB w ge dv mv ev W.drew := ⟨h.d,h.m,h.rd,h.rm,h.e,h.bel.drew,h.lo⟩
theorem SB.below (h:SB w ge dv mv ev W) (hb:Below W.heap.size W W'):SB w ge dv mv ev W' :=
 let ⟨vs,r1,l1⟩:=h.rd
 let ⟨us,r2,l2⟩:=h.rm
 ⟨h.d.below hb,h.m.below hb,⟨vs,r1.below hb,l1⟩,⟨us,r2.below hb,l2⟩,h.e.below hb,h.bel.trans (hb.mono h.bel.size),h.lo⟩
theorem SB.alloc (h:SB w ge dv mv ev W) (o:Obj):SB w ge dv mv ev (W.alloc o) := h.below ((Below.refl _ _).alloc (Nat.le_refl _) o)
theorem SB.store (h:SB w ge dv mv ev W) {g:Nat} (hg:ge < g) (o:Nat) (v:Value):SB w ge dv mv ev (W.setCell ⟨g,o,none⟩ v) :=
 have a:=h.lo
 let ⟨vs,r1,l1⟩:=h.rd
 let ⟨us,r2,l2⟩:=h.rm
 ⟨h.d.other (by show _ ≠ g; omega) v,h.m.other (by show _ ≠ g; omega) v,⟨vs,r1.other (by show _ ≠ g; omega) v,l1⟩,⟨us,r2.other (by show _ ≠ g; omega) v,l2⟩,h.e.other (by show _ ≠ g; omega) v,h.bel.setCell (by show _ ≤ g; omega) v,h.lo⟩
theorem SB.grown (h:SB w ge dv mv ev W) {r:Option Nat} (hg:W.grownBy W' r) (hr:∀ k,r = some k → ge < k):SB w ge dv mv ev W' :=
 have a:=h.lo
 have key:∀ {g:Nat},g ≤ ge → some g ≠ r:=fun {g} hg' e => by have := hr g e.symm; omega
 let ⟨vs,r1,l1⟩:=h.rd
 let ⟨us,r2,l2⟩:=h.rm
 ⟨h.d.grown hg (key (by omega)),h.m.grown hg (key (by omega)),⟨vs,r1.grown hg (key (by omega)),l1⟩,⟨us,r2.grown hg (key (by omega)),l2⟩,h.e.grown hg (key (by omega)),h.bel.grown hg h.bel.size (fun k hk => by have := hr k hk; omega),h.lo⟩
end
theorem row_farS {W:World} {g t:Nat} {vs:List Value} {base:Nat} {v:Value} {n:Nat} {xs:List Value} (h:Row W g t vs) (ht:t ≠ 3) (ho:W.ownsRow base 3 1 v n xs):some g ≠ v.ownBlock := by
 intro e
 obtain ⟨cs,fr,h3⟩:=ownsRow_block ho g e.symm
 rw [h] at h3
 injection h3 with h3
 injection h3 with _ h4
 exact ht h4
structure SL (w:World) (ge gt gu gr g1 c1 g2 c2 base m n:Nat) (dv mv ev:List Value) (tl:List Int) (ou:List Bool) (ss:List Value) (lp:Int) (L:List Nat) (W:World):Prop where
 s:SB w ge dv mv ev W
 t:IRow W gt tl
 u:BRow W gu ou
 r:Row W gr 24 [.slice (some ⟨g1,0,none⟩) n c1,.slice (some ⟨g2,0,none⟩) m c2,.int .i64 lp]
 o1:W.ownsRow base 3 1 (.slice (some ⟨g1,0,none⟩) n c1) n ss
 o2:OwnN W base g2 m c2 L
 ne:g1 ≠ g2
 l1:ge < gt
 l2:gt < gu
 l3:gu < base
 l4:ge < gr
section
variable {w W W2:World} {ge gt gu gr g1 c1 g2 c2 base m n:Nat} {dv mv ev:List Value} {tl:List Int} {ou:List Bool} {ss:List Value} {lp:Int} {L L':List Nat}
theorem SL.drew (h:SL w ge gt gu gr g1 c1 g2 c2 base m n dv mv ev tl ou ss lp L W):SL w ge gt gu gr g1 c1 g2 c2 base m n dv mv ev tl ou ss lp L W.drew := ⟨h.s.drew,h.t,h.u,h.r,h.o1,h.o2,h.ne,h.l1,h.l2,h.l3,h.l4⟩
theorem SL.cast (h:SL w ge gt gu gr g1 c1 g2 c2 base m n dv mv ev tl ou ss lp L W) (e:W2 = W):SL w ge gt gu gr g1 c1 g2 c2 base m n dv mv ev tl ou ss lp L W2 := e ▸ h
theorem SL.alloc (h:SL w ge gt gu gr g1 c1 g2 c2 base m n dv mv ev tl ou ss lp L W) (o:Obj):SL w ge gt gu gr g1 c1 g2 c2 base m n dv mv ev tl ou ss lp L (W.alloc o) :=
 ⟨h.s.alloc o,Row.alloc h.t o,Row.alloc h.u o,h.r.alloc o,World.ownsRow.alloc h.o1 o,h.o2.alloc o,h.ne,h.l1,h.l2,h.l3,h.l4⟩
theorem SL.join (h:SL w ge gt gu gr g1 c1 g2 c2 base m n dv mv ev tl ou ss lp L W) (own:OwnN W2 base g2 m c2 L') (gw:W.grownBy W2 (some g2)):SL w ge gt gu gr g1 c1 g2 c2 base m n dv mv ev tl ou ss lp L' W2 := by
 have hb:base ≤ g2:=World.ownsRow.lt h.o2 g2 rfl |>.1
 have a1:=h.l1
 have a2:=h.l2
 have a3:=h.l3
 refine ⟨h.s.grown gw (fun k hk => by injection hk with hk; omega),Row.grown h.t gw (fun e => by injection e with e; omega),Row.grown h.u gw (fun e => by injection e with e; omega),h.r.grown gw (row_farS h.r (by decide) h.o2),own_grown h.o1 gw h.ne,own,h.ne,h.l1,h.l2,h.l3,h.l4⟩
theorem SL.store (h:SL w ge gt gu gr g1 c1 g2 c2 base m n dv mv ev tl ou ss lp L W) {gv:Nat} {t:TypeId} {vs:List Value} (hv:Row W gv t vs) (ht:t ≠ 3) (hg:ge < gv) (hr:gr ≠ gv) (hu:gu ≠ gv) (o:Nat) (v:Value):SL w ge gt gu gr g1 c1 g2 c2 base m n dv mv ev tl ou ss lp L (W.setCell ⟨gv,o,none⟩ v) := by
 have e1:=row_farS hv ht h.o1
 have e2:=row_farS hv ht h.o2
 have e3:gt ≠ gv:=fun e => by
  have h5:=h.t
  rw [e] at h5
  unfold IRow Row at h5
  rw [hv] at h5
  injection h5 with h5
  injection h5 with _ h6
  exact ht h6
 exact ⟨h.s.store hg o v,Row.other h.t e3 v,Row.other h.u hu v,h.r.other hr v,own_set h.o1 (fun e => e1 (by rw [e]; rfl)),own_set h.o2 (fun e => e2 (by rw [e]; rfl)),h.ne,h.l1,h.l2,h.l3,h.l4⟩
end
theorem next_l (base g m c u:Nat) (L:List Nat) (w:World) (h:OwnN w base g m c L) (hu:u < m) (hm:m ≤ 1000) (hl:L.getD u 0 < m) :
 Calls Try.prog 96 #[.slice (some ⟨g,0,none⟩) m c,.int .i64 (u:Int)] w fun e w' => e = .returned (.int .i64 (lnx L u:Nat)) ∧ w' = w := by
 have hc:=h.cell hu
 have e:=hide (show lnx L u = Pl.tn (L.getD u 0) 3 from rfl)
 obtain ⟨v,hv⟩:∃ v,v = L.getD u 0 := ⟨_,rfl⟩
 rw [← hv] at hc hl e
 clear hv
 have i0:(0:Int) ≤ (u:Int):=by omega
 have i1:(u:Int) < (m:Int):=by omega
 go_enter Try.func96,Try.ntmps96
 go_wp2_with fail
 refine (turn_back v _ (by omega)).mono ?_
 rintro en w1 ⟨rfl,rfl⟩
 go_wp2
 go_ret
 exact ⟨ret_int (by rw [e.out]),rfl⟩
theorem getD_natsS {l:List Nat} {i:Nat}:Pl.pv (nats l) i = ((l.getD i 0:Nat):Int) := by
 unfold Pl.pv nats
 rw [List.getD_eq_getElem?_getD,List.getD_eq_getElem?_getD,List.getElem?_map]
 cases l[i]? <;> rfl
theorem rowT_drew {w:World} {t:TypeId} {A:Option Addr} {n:Nat} {xs:List Value} (h:RowT w t A n xs):RowT w.drew t A n xs := h
theorem cells3s {W:World} {g:Nat} {t:TypeId} {vs:List Value} (h:Row W g t vs) (l:vs.length = 3):W.cell? ⟨g,0,none⟩ = some (cv W ⟨g,0,none⟩) ∧ W.cell? ⟨g,1,none⟩ = some (cv W ⟨g,1,none⟩) ∧ W.cell? ⟨g,2,none⟩ = some (cv W ⟨g,2,none⟩) ∧ ∀ o,W.frozen? ⟨g,o,none⟩ = false :=
 ⟨cv_some (h.cell (i := 0) (by omega)),cv_some (h.cell (i := 1) (by omega)),cv_some (h.cell (i := 2) (by omega)),h.free⟩
theorem cells5s {W:World} {g:Nat} {t:TypeId} {vs:List Value} (h:Row W g t vs) (l:vs.length = 5):W.cell? ⟨g,0,none⟩ = some (cv W ⟨g,0,none⟩) ∧ W.cell? ⟨g,1,none⟩ = some (cv W ⟨g,1,none⟩) ∧ W.cell? ⟨g,2,none⟩ = some (cv W ⟨g,2,none⟩) ∧ W.cell? ⟨g,3,none⟩ = some (cv W ⟨g,3,none⟩) ∧ W.cell? ⟨g,4,none⟩ = some (cv W ⟨g,4,none⟩) ∧ ∀ o,W.frozen? ⟨g,o,none⟩ = false :=
 ⟨cv_some (h.cell (i := 0) (by omega)),cv_some (h.cell (i := 1) (by omega)),cv_some (h.cell (i := 2) (by omega)),cv_some (h.cell (i := 3) (by omega)),cv_some (h.cell (i := 4) (by omega)),h.free⟩
def tk (m k:Nat):List Nat := (List.range m).map (fun j => if j < k then j else 0)
theorem tk_len (m k:Nat):(tk m k).length = m := by simp [tk]
theorem tk_zero (m:Nat):nats (tk m 0) = List.replicate m 0 := by
 apply List.ext_getElem (by simp [nats,tk])
 intro i h1 h2
 simp [nats,tk]
theorem tk_set {m k:Nat} (h:k < m):(nats (tk m k)).set k (k:Int) = nats (tk m (k + 1)) := by
 apply List.ext_getElem (by simp [nats,tk])
 intro i h1 h2
 simp only [nats,tk,List.getElem_set,List.getElem_map,List.getElem_range]
 by_cases h3:k = i
 ·subst h3; simp
 ·rw [if_neg h3]
  by_cases h4:i < k
  ·rw [if_pos h4,if_pos (by omega)]
  ·rw [if_neg h4,if_neg (by omega)]
theorem tk_all (m:Nat):tk m m = List.range m := by
 apply List.ext_getElem (by simp [tk])
 intro i h1 h2
 simp [tk] at h1 ⊢
 omega
set_option maxRecDepth 100000 in
set_option maxHeartbeats 8000000 in
theorem slide_any (d:Pl.Dg) (hd:Pl.Wf d) (A B:Option Addr) (cp cq m h:Nat) (k y sg:Int) (ov:Bool) (w:World) (hm:m = 4 * d.n) (hg:DgAt w A B d) (hh:h < 4 * d.n) :
 Calls Try.prog 54 #[.agg #[.slice A d.n cp,.slice B m cq,.int .i64 d.lp],.agg #[.int .i64 k,.int .i64 (h:Int),.int .i64 y,.int .i64 sg,.bool ov]] w (SldPost d h w) := by
 have hn:=hd.few
 have hlp:=hd.lp
 have HG:=hide hg
 have hm2:m ≤ 256:=by omega
 have hn0:0 < d.n:=by omega
 have hm0:0 < m:=by omega
 have HM:=hide hm
 clear hg hm
 obtain ⟨x0,x1,x2,x3,b0,s0⟩:=boxes4 w (.slice A d.n cp) (.slice B m cq) (.int .i64 d.lp) (.int .i64 k) (.int .i64 (h:Int)) (.int .i64 y) (.int .i64 sg) (.bool ov)
 unfold W4 at x0 x1 x2 x3 b0 s0
 have X0:=hide x0
 have X1:=hide x1
 have X2:=hide x2
 have X3:=hide x3
 have B0:=hide b0
 have S0:=hide s0
 clear x0 x1 x2 x3 b0 s0
 have hmk1:=fun W:World => run_ints m (by omega) W
 have hmk2:=fun W:World => run_bools m (by omega) W
 go_enter Try.func54,Try.ntmps54
 go_wp2_with fail
 refine (tri_v d hd A B cp cq m h _ HM.out (HG.out.keep B0.out) hh).mono ?_
 rintro e w1 ⟨b0,o0,i0,f0,b1,o1,i1,f1,b2,o2,i2,f2,rfl,hT,hb1⟩
 have HT:=hide hT
 have hsz:w.heap.size + 4 ≤ w1.heap.size:=by have := hb1.size; have := S0.out; omega
 have Y0:=hide (X0.out.below hb1)
 have Y1:=hide (X1.out.below hb1)
 have Y2:=hide (X2.out.below hb1)
 have Y3:=hide (X3.out.below hb1)
 have B1:=hide (B0.out.trans (hb1.mono B0.out.size))
 clear X0 X1 X2 X3 B0 S0 hb1 hT
 by_cases hI:isT d h
 ·rw [Pl.vb_true hI]
  obtain ⟨e1,e2,e3,e4,e5,e6,e7,e8,e9,e10,e11,e12⟩:=HT.out hI
  have HI:=hide hI
  obtain ⟨lb0,lo0,li0,lf0⟩:=s_lt hd hh 0
  obtain ⟨lb1,lo1,li1,lf1⟩:=s_lt hd hh 1
  obtain ⟨lb2,lo2,li2,lf2⟩:=s_lt hd hh 2
  rw [← e1] at lb0
  rw [← e2] at lo0
  rw [← e3] at li0
  rw [← e4] at lf0
  rw [← e5] at lb1
  rw [← e6] at lo1
  rw [← e7] at li1
  rw [← e8] at lf1
  rw [← e9] at lb2
  rw [← e10] at lo2
  rw [← e11] at li2
  rw [← e12] at lf2
  have HE:=hide (show (b0 = sb d h 0 ∧ o0 = so d h 0 ∧ i0 = si d h 0 ∧ f0 = sf d h 0) ∧ (b1 = sb d h 1 ∧ o1 = so d h 1 ∧ i1 = si d h 1 ∧ f1 = sf d h 1) ∧ (b2 = sb d h 2 ∧ o2 = so d h 2 ∧ i2 = si d h 2 ∧ f2 = sf d h 2) from ⟨⟨e1,e2,e3,e4⟩,⟨e5,e6,e7,e8⟩,e9,e10,e11,e12⟩)
  clear hI e1 e2 e3 e4 e5 e6 e7 e8 e9 e10 e11 e12 HT
  obtain ⟨d0,d1,d2,d3⟩:=box3 Y0.out
  have z1:w.heap.size < w1.heap.size:=by omega
  go_wp2
  obtain ⟨ge,hge⟩:∃ g,g = w1.heap.size := ⟨_,rfl⟩
  obtain ⟨gt,hgt⟩:∃ g,g = w1.heap.size + 1 := ⟨_,rfl⟩
  obtain ⟨V1,hV1⟩:∃ V:World,V = (w1.alloc (.cells #[.int .i64 (b0:Int),.int .i64 (o0:Int),.int .i64 (i0:Int),.int .i64 (f0:Int),.int .i64 (b1:Int),.int .i64 (o1:Int),.int .i64 (i1:Int),.int .i64 (f1:Int),.int .i64 (b2:Int),.int .i64 (o2:Int),.int .i64 (i2:Int),.int .i64 (f2:Int)] 107)).alloc (.cells (Array.replicate m (Value.int .i64 0)) 3) := ⟨_,rfl⟩
  rw [← hgt,← hge,← hV1]
  have S1:=hide (show SB w ge [.slice A d.n cp,.slice B m cq,.int .i64 (d.lp:Int)] [.int .i64 k,.int .i64 (h:Int),.int .i64 y,.int .i64 sg,.bool ov] [.int .i64 (b0:Int),.int .i64 (o0:Int),.int .i64 (i0:Int),.int .i64 (f0:Int),.int .i64 (b1:Int),.int .i64 (o1:Int),.int .i64 (i1:Int),.int .i64 (f1:Int),.int .i64 (b2:Int),.int .i64 (o2:Int),.int .i64 (i2:Int),.int .i64 (f2:Int)] V1 from by
   rw [hV1]
   exact ⟨(Y0.out.alloc _).alloc _,(Y1.out.alloc _).alloc _,⟨_,(Y2.out.alloc _).alloc _,rfl⟩,⟨_,(Y3.out.alloc _).alloc _,rfl⟩,(row_at (vs := [_,_,_,_,_,_,_,_,_,_,_,_]) hge).alloc _,(B1.out.alloc B1.out.size _).alloc (B1.out.alloc B1.out.size _).size _,by omega⟩)
  have T1:=hide (show IRow V1 gt (nats (tk m 0)) from by
   rw [hV1,tk_zero]
   have:=IRow.made (w1.alloc (.cells #[.int .i64 (b0:Int),.int .i64 (o0:Int),.int .i64 (i0:Int),.int .i64 (f0:Int),.int .i64 (b1:Int),.int .i64 (o1:Int),.int .i64 (i1:Int),.int .i64 (f1:Int),.int .i64 (b2:Int),.int .i64 (o2:Int),.int .i64 (i2:Int),.int .i64 (f2:Int)] 107)) m
   have e:(w1.alloc (.cells #[.int .i64 (b0:Int),.int .i64 (o0:Int),.int .i64 (i0:Int),.int .i64 (f0:Int),.int .i64 (b1:Int),.int .i64 (o1:Int),.int .i64 (i1:Int),.int .i64 (f1:Int),.int .i64 (b2:Int),.int .i64 (o2:Int),.int .i64 (i2:Int),.int .i64 (f2:Int)] 107)).heap.size = gt:=by rw [hgt]; simp
   rw [e] at this
   exact this)
  have hget:ge < gt:=by omega
  clear hge hgt hV1 Y0 Y1 Y2 Y3 B1 d0 d1 d2 d3 z1 hsz hmk1
  go_loopg [10,40] m (fun g s10 s40 wx => ∃ q9:Nat,q9 + g = m ∧ s40 = .int .i64 (q9:Int) ∧ SB w ge [.slice A d.n cp,.slice B m cq,.int .i64 (d.lp:Int)] [.int .i64 k,.int .i64 (h:Int),.int .i64 y,.int .i64 sg,.bool ov] [.int .i64 (b0:Int),.int .i64 (o0:Int),.int .i64 (i0:Int),.int .i64 (f0:Int),.int .i64 (b1:Int),.int .i64 (o1:Int),.int .i64 (i1:Int),.int .i64 (f1:Int),.int .i64 (b2:Int),.int .i64 (o2:Int),.int .i64 (i2:Int),.int .i64 (f2:Int)] wx ∧ IRow wx gt (nats (tk m q9)))
  case atStart => exact ⟨0,by omega,rfl,S1.out,T1.out⟩
  case round =>
   clear S1 T1
   obtain ⟨k1,hkg,rfl,hsb,hir⟩:=hrel
   have HKG:=hide hkg
   have SK:=hide hsb
   have TK:=hide hir
   clear hsb hir
   by_cases hk1:k1 < m
   ·have c1:=TK.out.cell (i := k1) (by rw [nats_len,tk_len]; exact hk1)
    have fr:=Row.free TK.out
    have k0:(0:Int) ≤ (k1:Int):=by omega
    have ki:(k1:Int) < (m:Int):=by omega
    clear hkg
    go_wp2
    go_roundg (gk - 1)
    case measure => have := HKG.out; omega
    case rel =>
     refine ⟨k1 + 1,by have := HKG.out; omega,by go_num,SK.out.store hget _ _,?_⟩
     rw [← tk_set hk1]
     exact TK.out.set k1 _
   ·have ki:¬ ((k1:Int) < (m:Int)):=by omega
    have hkm:k1 = m:=by omega
    have T2:=hide (show IRow wr gt (nats (sTo d h 0)) by
     have:=TK.out
     rw [hkm,tk_all] at this
     unfold sTo
     rw [← HM.out]
     exact this)
    clear hkg hkm TK
    obtain ⟨d0,d1,d2,d3⟩:=box3 SK.out.d
    obtain ⟨r0,r1,r2,r3,r4,r5,r6,r7,r8,r9,r10,r11,rf⟩:=box12 SK.out.e
    have z1:=SK.out.d.lt
    have z2:=SK.out.e.lt
    have z3:=T2.out.lt
    go_wp2
    obtain ⟨gu,hgu⟩:∃ g,g = wr.heap.size := ⟨_,rfl⟩
    obtain ⟨V2,hV2⟩:∃ V:World,V = wr.alloc (.cells (Array.replicate m (Value.bool false)) 4) := ⟨_,rfl⟩
    rw [← hgu,← hV2]
    have S2:=hide (show SB w ge [.slice A d.n cp,.slice B m cq,.int .i64 (d.lp:Int)] [.int .i64 k,.int .i64 (h:Int),.int .i64 y,.int .i64 sg,.bool ov] [.int .i64 (b0:Int),.int .i64 (o0:Int),.int .i64 (i0:Int),.int .i64 (f0:Int),.int .i64 (b1:Int),.int .i64 (o1:Int),.int .i64 (i1:Int),.int .i64 (f1:Int),.int .i64 (b2:Int),.int .i64 (o2:Int),.int .i64 (i2:Int),.int .i64 (f2:Int)] V2 from by rw [hV2]; exact SK.out.alloc _)
    have T3:=hide (show IRow V2 gt (nats (sTo d h 0)) from by rw [hV2]; exact Row.alloc T2.out _)
    have U3:=hide (show BRow V2 gu (sOu d h 0) from by
     rw [hV2,hgu]
     have:=BRow.made wr m
     unfold sOu
     rw [← HM.out]
     exact this)
    have hgtu:gt < gu:=by omega
    clear hgu hV2 SK T2 d0 d1 d2 d3 r0 r1 r2 r3 r4 r5 r6 r7 r8 r9 r10 r11 rf z1 z2 z3 hmk2
    have NE0:=hide (show b0 ≠ f0 by rw [HE.out.1.1,HE.out.1.2.2.2]; exact s_ne hd hh HI.out 0 (by omega))
    have NE1:=hide (show b1 ≠ f1 by rw [HE.out.2.1.1,HE.out.2.1.2.2.2]; exact s_ne hd hh HI.out 1 (by omega))
    have NE2:=hide (show b2 ≠ f2 by rw [HE.out.2.2.1,HE.out.2.2.2.2.2]; exact s_ne hd hh HI.out 2 (by omega))
    have j0:∀ W,(Instr.index 107 (.agg #[.int .i64 (b0:Int),.int .i64 (o0:Int),.int .i64 (i0:Int),.int .i64 (f0:Int),.int .i64 (b1:Int),.int .i64 (o1:Int),.int .i64 (i1:Int),.int .i64 (f1:Int),.int .i64 (b2:Int),.int .i64 (o2:Int),.int .i64 (i2:Int),.int .i64 (f2:Int)]) (.int .i64 0)).run Try.prog W = .ok (.agg #[.int .i64 (b0:Int),.int .i64 (o0:Int),.int .i64 (i0:Int),.int .i64 (f0:Int)]) W:=fun _ => by kernel_rfl
    have j1:∀ W,(Instr.index 107 (.agg #[.int .i64 (b0:Int),.int .i64 (o0:Int),.int .i64 (i0:Int),.int .i64 (f0:Int),.int .i64 (b1:Int),.int .i64 (o1:Int),.int .i64 (i1:Int),.int .i64 (f1:Int),.int .i64 (b2:Int),.int .i64 (o2:Int),.int .i64 (i2:Int),.int .i64 (f2:Int)]) (.int .i64 1)).run Try.prog W = .ok (.agg #[.int .i64 (b1:Int),.int .i64 (o1:Int),.int .i64 (i1:Int),.int .i64 (f1:Int)]) W:=fun _ => by kernel_rfl
    have j2:∀ W,(Instr.index 107 (.agg #[.int .i64 (b0:Int),.int .i64 (o0:Int),.int .i64 (i0:Int),.int .i64 (f0:Int),.int .i64 (b1:Int),.int .i64 (o1:Int),.int .i64 (i1:Int),.int .i64 (f1:Int),.int .i64 (b2:Int),.int .i64 (o2:Int),.int .i64 (i2:Int),.int .i64 (f2:Int)]) (.int .i64 2)).run Try.prog W = .ok (.agg #[.int .i64 (b2:Int),.int .i64 (o2:Int),.int .i64 (i2:Int),.int .i64 (f2:Int)]) W:=fun _ => by kernel_rfl
    have J0:=hide j0
    have J1:=hide j1
    have J2:=hide j2
    clear j0 j1 j2
    go_loopg [13,53] 3 (fun g s13 s53 wx => ∃ q9:Nat,q9 + g = 3 ∧ s53 = .int .i64 (q9:Int) ∧ SB w ge [.slice A d.n cp,.slice B m cq,.int .i64 (d.lp:Int)] [.int .i64 k,.int .i64 (h:Int),.int .i64 y,.int .i64 sg,.bool ov] [.int .i64 (b0:Int),.int .i64 (o0:Int),.int .i64 (i0:Int),.int .i64 (f0:Int),.int .i64 (b1:Int),.int .i64 (o1:Int),.int .i64 (i1:Int),.int .i64 (f1:Int),.int .i64 (b2:Int),.int .i64 (o2:Int),.int .i64 (i2:Int),.int .i64 (f2:Int)] wx ∧ IRow wx gt (nats (sTo d h q9)) ∧ BRow wx gu (sOu d h q9))
    case atStart => exact ⟨0,rfl,rfl,S2.out,T3.out,U3.out⟩
    case round =>
     clear S2 T3 U3
     obtain ⟨q9,hkg,rfl,hsb,hir,hbr⟩:=hrel
     have HKG:=hide hkg
     have SK:=hide hsb
     have TK:=hide hir
     have UK:=hide hbr
     clear hsb hir hbr
     have hk4:q9 = 0 ∨ q9 = 1 ∨ q9 = 2 ∨ q9 = 3:=by omega
     clear hkg
     rcases hk4 with rfl | rfl | rfl | rfl
     ·have j:=J0.out
      have lb:b0 < (sTo d h 0).length:=by rw [sTo_len]; omega
      have lf:f0 < (sTo d h 0).length:=by rw [sTo_len]; omega
      have lb':b0 < (sOu d h 0).length:=by rw [sOu_len]; omega
      have lf':f0 < (sOu d h 0).length:=by rw [sOu_len]; omega
      have y1:(0:Int) ≤ (b0:Int):=by omega
      have y2:(b0:Int) < (m:Int):=by have := HM.out; omega
      have y3:(0:Int) ≤ (f0:Int):=by omega
      have y4:(f0:Int) < (m:Int):=by have := HM.out; omega
      have y5:b0 ≠ f0:=NE0.out
      have y6:f0 ≠ b0:=Ne.symm NE0.out
      go_upto_region 14 with fail
      obtain ⟨gp,hgp⟩:∃ g,g = wr.heap.size := ⟨_,rfl⟩
      obtain ⟨V3,hV3⟩:∃ V:World,V = wr.alloc (.cells #[.int .i64 (b0:Int),.int .i64 (o0:Int),.int .i64 (i0:Int),.int .i64 (f0:Int)] 106) := ⟨_,rfl⟩
      rw [← hgp,← hV3]
      have S3:=hide (show SB w ge [.slice A d.n cp,.slice B m cq,.int .i64 (d.lp:Int)] [.int .i64 k,.int .i64 (h:Int),.int .i64 y,.int .i64 sg,.bool ov] [.int .i64 (b0:Int),.int .i64 (o0:Int),.int .i64 (i0:Int),.int .i64 (f0:Int),.int .i64 (b1:Int),.int .i64 (o1:Int),.int .i64 (i1:Int),.int .i64 (f1:Int),.int .i64 (b2:Int),.int .i64 (o2:Int),.int .i64 (i2:Int),.int .i64 (f2:Int)] V3 from by rw [hV3]; exact SK.out.alloc _)
      have T3:=hide (show IRow V3 gt (nats (sTo d h 0)) from by rw [hV3]; exact Row.alloc TK.out _)
      have U3:=hide (show BRow V3 gu (sOu d h 0) from by rw [hV3]; exact Row.alloc UK.out _)
      have P3:=hide (show Row V3 gp 106 [.int .i64 (b0:Int),.int .i64 (o0:Int),.int .i64 (i0:Int),.int .i64 (f0:Int)] from by rw [hV3]; exact row_at (vs := [_,_,_,_]) hgp)
      have y7:gt ≠ gp:=by have := Row.lt TK.out; omega
      have y8:gu ≠ gp:=by have := Row.lt UK.out; omega
      have y9:gp ≠ gt:=Ne.symm y7
      have y10:gp ≠ gu:=Ne.symm y8
      clear hgp hV3 SK TK UK j
      go_cut [] (fun wx => SB w ge [.slice A d.n cp,.slice B m cq,.int .i64 (d.lp:Int)] [.int .i64 k,.int .i64 (h:Int),.int .i64 y,.int .i64 sg,.bool ov] [.int .i64 (b0:Int),.int .i64 (o0:Int),.int .i64 (i0:Int),.int .i64 (f0:Int),.int .i64 (b1:Int),.int .i64 (o1:Int),.int .i64 (i1:Int),.int .i64 (f1:Int),.int .i64 (b2:Int),.int .i64 (o2:Int),.int .i64 (i2:Int),.int .i64 (f2:Int)] wx ∧ IRow wx gt (nats (sTo d h (0 + 1))) ∧ BRow wx gu (sOu d h 0) ∧ Row wx gp 106 [.int .i64 (b0:Int),.int .i64 (o0:Int),.int .i64 (i0:Int),.int .i64 (f0:Int)])
      case first =>
       obtain ⟨p0,p1,p2,p3,p4⟩:=box4 P3.out
       have cb:=T3.out.cell (i := b0) (by rw [nats_len]; exact lb)
       have cf:=T3.out.cell (i := f0) (by rw [nats_len]; exact lf)
       have fr:=Row.free T3.out
       have EQ:=hide (show nats (sTo d h (0 + 1)) = ((nats (sTo d h 0)).set b0 (i0:Int)).set f0 (o0:Int) by rw [← nats_set0,← nats_set0,HE.out.1.1,HE.out.1.2.1,HE.out.1.2.2.1,HE.out.1.2.2.2]; rfl)
       go_region
       all_goals
        go_wp2_with fail
        go_meet
        refine ⟨((S3.out.store hget _ _).store hget _ _).drew,?_,?_,?_⟩
        ·rw [EQ.out]; exact (IRow.set (T3.out.set b0 _) f0 _)
        ·exact Row.drew ((Row.other U3.out (by show gu ≠ gt; omega) _).other (by show gu ≠ gt; omega) _)
        ·exact Row.drew ((P3.out.other (by show gp ≠ gt; omega) _).other (by show gp ≠ gt; omega) _)
      case rest =>
       obtain ⟨hs4,ht4,hu4,hp4⟩:=hcut
       have S4:=hide hs4
       have T4:=hide ht4
       have U4:=hide hu4
       have P4:=hide hp4
       clear hs4 ht4 hu4 hp4 S3 T3 U3 P3
       go_upto_region 15 with fail
       obtain ⟨p0,p1,p2,p3,p4⟩:=box4 P4.out
       have cb:=U4.out.cell (i := b0) lb'
       have cf:=U4.out.cell (i := f0) lf'
       have fr:=Row.free U4.out
       have EQ:=hide (show sOu d h (0 + 1) = ((sOu d h 0).set b0 true).set f0 true by rw [HE.out.1.1,HE.out.1.2.2.2]; rfl)
       have S5:=hide (((S4.out.store (Nat.lt_trans hget hgtu) b0 (.bool true)).store (Nat.lt_trans hget hgtu) f0 (.bool true)).drew)
       have T5:=hide (Row.drew ((Row.other T4.out (a := ⟨gu,b0,none⟩) (by show gt ≠ gu; omega) (.bool true)).other (a := ⟨gu,f0,none⟩) (by show gt ≠ gu; omega) (.bool true)))
       have U5:=hide (Row.drew (BRow.set (U4.out.set b0 true) f0 true))
       go_region
       all_goals
        clear p0 p1 p2 p3 p4 cb cf fr
        go_wp2
        go_roundg (gk - 1)
        case measure => have := HKG.out; omega
        case rel =>
         refine ⟨0 + 1,by have := HKG.out; omega,by go_num,S5.out,T5.out,?_⟩
         rw [EQ.out]
         exact U5.out
     ·have j:=J1.out
      have lb:b1 < (sTo d h 1).length:=by rw [sTo_len]; omega
      have lf:f1 < (sTo d h 1).length:=by rw [sTo_len]; omega
      have lb':b1 < (sOu d h 1).length:=by rw [sOu_len]; omega
      have lf':f1 < (sOu d h 1).length:=by rw [sOu_len]; omega
      have y1:(0:Int) ≤ (b1:Int):=by omega
      have y2:(b1:Int) < (m:Int):=by have := HM.out; omega
      have y3:(0:Int) ≤ (f1:Int):=by omega
      have y4:(f1:Int) < (m:Int):=by have := HM.out; omega
      have y5:b1 ≠ f1:=NE1.out
      have y6:f1 ≠ b1:=Ne.symm NE1.out
      go_upto_region 14 with fail
      obtain ⟨gp,hgp⟩:∃ g,g = wr.heap.size := ⟨_,rfl⟩
      obtain ⟨V3,hV3⟩:∃ V:World,V = wr.alloc (.cells #[.int .i64 (b1:Int),.int .i64 (o1:Int),.int .i64 (i1:Int),.int .i64 (f1:Int)] 106) := ⟨_,rfl⟩
      rw [← hgp,← hV3]
      have S3:=hide (show SB w ge [.slice A d.n cp,.slice B m cq,.int .i64 (d.lp:Int)] [.int .i64 k,.int .i64 (h:Int),.int .i64 y,.int .i64 sg,.bool ov] [.int .i64 (b0:Int),.int .i64 (o0:Int),.int .i64 (i0:Int),.int .i64 (f0:Int),.int .i64 (b1:Int),.int .i64 (o1:Int),.int .i64 (i1:Int),.int .i64 (f1:Int),.int .i64 (b2:Int),.int .i64 (o2:Int),.int .i64 (i2:Int),.int .i64 (f2:Int)] V3 from by rw [hV3]; exact SK.out.alloc _)
      have T3:=hide (show IRow V3 gt (nats (sTo d h 1)) from by rw [hV3]; exact Row.alloc TK.out _)
      have U3:=hide (show BRow V3 gu (sOu d h 1) from by rw [hV3]; exact Row.alloc UK.out _)
      have P3:=hide (show Row V3 gp 106 [.int .i64 (b1:Int),.int .i64 (o1:Int),.int .i64 (i1:Int),.int .i64 (f1:Int)] from by rw [hV3]; exact row_at (vs := [_,_,_,_]) hgp)
      have y7:gt ≠ gp:=by have := Row.lt TK.out; omega
      have y8:gu ≠ gp:=by have := Row.lt UK.out; omega
      have y9:gp ≠ gt:=Ne.symm y7
      have y10:gp ≠ gu:=Ne.symm y8
      clear hgp hV3 SK TK UK j
      go_cut [] (fun wx => SB w ge [.slice A d.n cp,.slice B m cq,.int .i64 (d.lp:Int)] [.int .i64 k,.int .i64 (h:Int),.int .i64 y,.int .i64 sg,.bool ov] [.int .i64 (b0:Int),.int .i64 (o0:Int),.int .i64 (i0:Int),.int .i64 (f0:Int),.int .i64 (b1:Int),.int .i64 (o1:Int),.int .i64 (i1:Int),.int .i64 (f1:Int),.int .i64 (b2:Int),.int .i64 (o2:Int),.int .i64 (i2:Int),.int .i64 (f2:Int)] wx ∧ IRow wx gt (nats (sTo d h (1 + 1))) ∧ BRow wx gu (sOu d h 1) ∧ Row wx gp 106 [.int .i64 (b1:Int),.int .i64 (o1:Int),.int .i64 (i1:Int),.int .i64 (f1:Int)])
      case first =>
       obtain ⟨p0,p1,p2,p3,p4⟩:=box4 P3.out
       have cb:=T3.out.cell (i := b1) (by rw [nats_len]; exact lb)
       have cf:=T3.out.cell (i := f1) (by rw [nats_len]; exact lf)
       have fr:=Row.free T3.out
       have EQ:=hide (show nats (sTo d h (1 + 1)) = ((nats (sTo d h 1)).set b1 (i1:Int)).set f1 (o1:Int) by rw [← nats_set0,← nats_set0,HE.out.2.1.1,HE.out.2.1.2.1,HE.out.2.1.2.2.1,HE.out.2.1.2.2.2]; rfl)
       go_region
       all_goals
        go_wp2_with fail
        go_meet
        refine ⟨((S3.out.store hget _ _).store hget _ _).drew,?_,?_,?_⟩
        ·rw [EQ.out]; exact (IRow.set (T3.out.set b1 _) f1 _)
        ·exact Row.drew ((Row.other U3.out (by show gu ≠ gt; omega) _).other (by show gu ≠ gt; omega) _)
        ·exact Row.drew ((P3.out.other (by show gp ≠ gt; omega) _).other (by show gp ≠ gt; omega) _)
      case rest =>
       obtain ⟨hs4,ht4,hu4,hp4⟩:=hcut
       have S4:=hide hs4
       have T4:=hide ht4
       have U4:=hide hu4
       have P4:=hide hp4
       clear hs4 ht4 hu4 hp4 S3 T3 U3 P3
       go_upto_region 15 with fail
       obtain ⟨p0,p1,p2,p3,p4⟩:=box4 P4.out
       have cb:=U4.out.cell (i := b1) lb'
       have cf:=U4.out.cell (i := f1) lf'
       have fr:=Row.free U4.out
       have EQ:=hide (show sOu d h (1 + 1) = ((sOu d h 1).set b1 true).set f1 true by rw [HE.out.2.1.1,HE.out.2.1.2.2.2]; rfl)
       have S5:=hide (((S4.out.store (Nat.lt_trans hget hgtu) b1 (.bool true)).store (Nat.lt_trans hget hgtu) f1 (.bool true)).drew)
       have T5:=hide (Row.drew ((Row.other T4.out (a := ⟨gu,b1,none⟩) (by show gt ≠ gu; omega) (.bool true)).other (a := ⟨gu,f1,none⟩) (by show gt ≠ gu; omega) (.bool true)))
       have U5:=hide (Row.drew (BRow.set (U4.out.set b1 true) f1 true))
       go_region
       all_goals
        clear p0 p1 p2 p3 p4 cb cf fr
        go_wp2
        go_roundg (gk - 1)
        case measure => have := HKG.out; omega
        case rel =>
         refine ⟨1 + 1,by have := HKG.out; omega,by go_num,S5.out,T5.out,?_⟩
         rw [EQ.out]
         exact U5.out
     ·have j:=J2.out
      have lb:b2 < (sTo d h 2).length:=by rw [sTo_len]; omega
      have lf:f2 < (sTo d h 2).length:=by rw [sTo_len]; omega
      have lb':b2 < (sOu d h 2).length:=by rw [sOu_len]; omega
      have lf':f2 < (sOu d h 2).length:=by rw [sOu_len]; omega
      have y1:(0:Int) ≤ (b2:Int):=by omega
      have y2:(b2:Int) < (m:Int):=by have := HM.out; omega
      have y3:(0:Int) ≤ (f2:Int):=by omega
      have y4:(f2:Int) < (m:Int):=by have := HM.out; omega
      have y5:b2 ≠ f2:=NE2.out
      have y6:f2 ≠ b2:=Ne.symm NE2.out
      go_upto_region 14 with fail
      obtain ⟨gp,hgp⟩:∃ g,g = wr.heap.size := ⟨_,rfl⟩
      obtain ⟨V3,hV3⟩:∃ V:World,V = wr.alloc (.cells #[.int .i64 (b2:Int),.int .i64 (o2:Int),.int .i64 (i2:Int),.int .i64 (f2:Int)] 106) := ⟨_,rfl⟩
      rw [← hgp,← hV3]
      have S3:=hide (show SB w ge [.slice A d.n cp,.slice B m cq,.int .i64 (d.lp:Int)] [.int .i64 k,.int .i64 (h:Int),.int .i64 y,.int .i64 sg,.bool ov] [.int .i64 (b0:Int),.int .i64 (o0:Int),.int .i64 (i0:Int),.int .i64 (f0:Int),.int .i64 (b1:Int),.int .i64 (o1:Int),.int .i64 (i1:Int),.int .i64 (f1:Int),.int .i64 (b2:Int),.int .i64 (o2:Int),.int .i64 (i2:Int),.int .i64 (f2:Int)] V3 from by rw [hV3]; exact SK.out.alloc _)
      have T3:=hide (show IRow V3 gt (nats (sTo d h 2)) from by rw [hV3]; exact Row.alloc TK.out _)
      have U3:=hide (show BRow V3 gu (sOu d h 2) from by rw [hV3]; exact Row.alloc UK.out _)
      have P3:=hide (show Row V3 gp 106 [.int .i64 (b2:Int),.int .i64 (o2:Int),.int .i64 (i2:Int),.int .i64 (f2:Int)] from by rw [hV3]; exact row_at (vs := [_,_,_,_]) hgp)
      have y7:gt ≠ gp:=by have := Row.lt TK.out; omega
      have y8:gu ≠ gp:=by have := Row.lt UK.out; omega
      have y9:gp ≠ gt:=Ne.symm y7
      have y10:gp ≠ gu:=Ne.symm y8
      clear hgp hV3 SK TK UK j
      go_cut [] (fun wx => SB w ge [.slice A d.n cp,.slice B m cq,.int .i64 (d.lp:Int)] [.int .i64 k,.int .i64 (h:Int),.int .i64 y,.int .i64 sg,.bool ov] [.int .i64 (b0:Int),.int .i64 (o0:Int),.int .i64 (i0:Int),.int .i64 (f0:Int),.int .i64 (b1:Int),.int .i64 (o1:Int),.int .i64 (i1:Int),.int .i64 (f1:Int),.int .i64 (b2:Int),.int .i64 (o2:Int),.int .i64 (i2:Int),.int .i64 (f2:Int)] wx ∧ IRow wx gt (nats (sTo d h (2 + 1))) ∧ BRow wx gu (sOu d h 2) ∧ Row wx gp 106 [.int .i64 (b2:Int),.int .i64 (o2:Int),.int .i64 (i2:Int),.int .i64 (f2:Int)])
      case first =>
       obtain ⟨p0,p1,p2,p3,p4⟩:=box4 P3.out
       have cb:=T3.out.cell (i := b2) (by rw [nats_len]; exact lb)
       have cf:=T3.out.cell (i := f2) (by rw [nats_len]; exact lf)
       have fr:=Row.free T3.out
       have EQ:=hide (show nats (sTo d h (2 + 1)) = ((nats (sTo d h 2)).set b2 (i2:Int)).set f2 (o2:Int) by rw [← nats_set0,← nats_set0,HE.out.2.2.1,HE.out.2.2.2.1,HE.out.2.2.2.2.1,HE.out.2.2.2.2.2]; rfl)
       go_region
       all_goals
        go_wp2_with fail
        go_meet
        refine ⟨((S3.out.store hget _ _).store hget _ _).drew,?_,?_,?_⟩
        ·rw [EQ.out]; exact (IRow.set (T3.out.set b2 _) f2 _)
        ·exact Row.drew ((Row.other U3.out (by show gu ≠ gt; omega) _).other (by show gu ≠ gt; omega) _)
        ·exact Row.drew ((P3.out.other (by show gp ≠ gt; omega) _).other (by show gp ≠ gt; omega) _)
      case rest =>
       obtain ⟨hs4,ht4,hu4,hp4⟩:=hcut
       have S4:=hide hs4
       have T4:=hide ht4
       have U4:=hide hu4
       have P4:=hide hp4
       clear hs4 ht4 hu4 hp4 S3 T3 U3 P3
       go_upto_region 15 with fail
       obtain ⟨p0,p1,p2,p3,p4⟩:=box4 P4.out
       have cb:=U4.out.cell (i := b2) lb'
       have cf:=U4.out.cell (i := f2) lf'
       have fr:=Row.free U4.out
       have EQ:=hide (show sOu d h (2 + 1) = ((sOu d h 2).set b2 true).set f2 true by rw [HE.out.2.2.1,HE.out.2.2.2.2.2]; rfl)
       have S5:=hide (((S4.out.store (Nat.lt_trans hget hgtu) b2 (.bool true)).store (Nat.lt_trans hget hgtu) f2 (.bool true)).drew)
       have T5:=hide (Row.drew ((Row.other T4.out (a := ⟨gu,b2,none⟩) (by show gt ≠ gu; omega) (.bool true)).other (a := ⟨gu,f2,none⟩) (by show gt ≠ gu; omega) (.bool true)))
       have U5:=hide (Row.drew (BRow.set (U4.out.set b2 true) f2 true))
       go_region
       all_goals
        clear p0 p1 p2 p3 p4 cb cf fr
        go_wp2
        go_roundg (gk - 1)
        case measure => have := HKG.out; omega
        case rel =>
         refine ⟨2 + 1,by have := HKG.out; omega,by go_num,S5.out,T5.out,?_⟩
         rw [EQ.out]
         exact U5.out
     ·have S5:=SK
      have T5:=TK
      have U5:=UK
      clear SK TK UK HKG
      obtain ⟨d0,d1,d2,d3⟩:=box3 S5.out.d
      go_wp2_with fail
      refine (clone_any d A B cp cq m _ HM.out (HG.out.keep S5.out.bel) ⟨hn0,hn⟩).mono ?_
      rintro e w6 ⟨g1,c1,g2,c2,rfl,own1,own2,hne,hb6⟩
      obtain ⟨base,hbase⟩:∃ b,b = wr.heap.size := ⟨_,rfl⟩
      rw [← hbase] at own1 own2
      obtain ⟨gr,hgr⟩:∃ g,g = w6.heap.size := ⟨_,rfl⟩
      have S6:=hide (show SL w ge gt gu gr g1 c1 g2 c2 base m d.n [.slice A d.n cp,.slice B m cq,.int .i64 (d.lp:Int)] [.int .i64 k,.int .i64 (h:Int),.int .i64 y,.int .i64 sg,.bool ov] [.int .i64 (b0:Int),.int .i64 (o0:Int),.int .i64 (i0:Int),.int .i64 (f0:Int),.int .i64 (b1:Int),.int .i64 (o1:Int),.int .i64 (i1:Int),.int .i64 (f1:Int),.int .i64 (b2:Int),.int .i64 (o2:Int),.int .i64 (i2:Int),.int .i64 (f2:Int)] (nats (sTo d h 3)) (sOu d h 3) (d.sg.map (.int .i64)) (d.lp:Int) d.mt (w6.alloc (.cells #[.slice (some ⟨g1,0,none⟩) d.n c1,.slice (some ⟨g2,0,none⟩) m c2,.int .i64 (d.lp:Int)] 24)) from
       ⟨(S5.out.below hb6).alloc _,Row.alloc (Row.below T5.out hb6) _,Row.alloc (Row.below U5.out hb6) _,row_at (vs := [_,_,_]) hgr,World.ownsRow.alloc own1 _,OwnN.alloc own2 _,hne,hget,hgtu,by have := Row.lt U5.out; omega,by have := Row.lt T5.out; have := hb6.size; omega⟩)
      clear own1 own2 hb6 hbase d0 d1 d2 d3 S5 T5 U5
      go_wp2
      rw [← hgr]
      clear hgr
      obtain ⟨V6,hV6⟩:∃ V:World,V = w6.alloc (.cells #[.slice (some ⟨g1,0,none⟩) d.n c1,.slice (some ⟨g2,0,none⟩) m c2,.int .i64 (d.lp:Int)] 24) := ⟨_,rfl⟩
      rw [← hV6] at S6 ⊢
      clear hV6
      have hlo:(sOu d h 3).length = m:=by rw [sOu_len,HM.out]
      have hlt:(nats (sTo d h 3)).length = m:=by rw [nats_len,sTo_len,HM.out]
      go_loopg [15,16,81] m (fun g s15 s16 s81 wx => ∃ q9:Nat,q9 + g = m ∧ s81 = .int .i64 (q9:Int) ∧ SL w ge gt gu gr g1 c1 g2 c2 base m d.n [.slice A d.n cp,.slice B m cq,.int .i64 (d.lp:Int)] [.int .i64 k,.int .i64 (h:Int),.int .i64 y,.int .i64 sg,.bool ov] [.int .i64 (b0:Int),.int .i64 (o0:Int),.int .i64 (i0:Int),.int .i64 (f0:Int),.int .i64 (b1:Int),.int .i64 (o1:Int),.int .i64 (i1:Int),.int .i64 (f1:Int),.int .i64 (b2:Int),.int .i64 (o2:Int),.int .i64 (i2:Int),.int .i64 (f2:Int)] (nats (sTo d h 3)) (sOu d h 3) (d.sg.map (.int .i64)) (d.lp:Int) (sM d h q9) wx)
      case atStart => exact ⟨0,by omega,rfl,S6.out⟩
      case round =>
       clear S6
       obtain ⟨q9,hkg,rfl,hsl⟩:=hrel
       have HKG:=hide hkg
       have SK:=hide hsl
       clear hsl
       by_cases hq:q9 < m
       ·have cu:=SK.out.u.cell (i := q9) (by omega)
        have q0:(0:Int) ≤ (q9:Int):=by omega
        have q1:(q9:Int) < (m:Int):=by omega
        have hq4:q9 < 4 * d.n:=by have := HM.out; omega
        have HST:=hide (show sM d h (q9 + 1) = if (sOu d h 3).getD q9 false = true then jn (sM d h q9) ((sTo d h 3).getD q9 0) ((sTo d h 3).getD (d.m q9) 0) else sM d h q9 from rfl)
        have ta:=sTo_lt hd hh 3 q9 hq4
        have mq:=hd.lt q9 hq4
        have tb:=sTo_lt hd hh 3 (d.m q9) mq
        clear hkg
        cases ho:(sOu d h 3).getD q9 false with
        | false =>
          rw [ho] at cu
          have HS2:=hide (show sM d h (q9 + 1) = sM d h q9 by rw [HST.out,ho]; rfl)
          clear ho ta tb mq
          go_wp2
          go_roundg (gk - 1)
          case measure => have := HKG.out; omega
          case rel => exact ⟨q9 + 1,by have := HKG.out; omega,by go_num,by rw [HS2.out]; exact SK.out⟩
        | true =>
          rw [ho] at cu
          have HS2:=hide (show sM d h (q9 + 1) = jn (sM d h q9) ((sTo d h 3).getD q9 0) ((sTo d h 3).getD (d.m q9) 0) by rw [HST.out,ho]; rfl)
          clear ho
          obtain ⟨d0,d1,d2,d3⟩:=box3 SK.out.s.d
          obtain ⟨r0,r1,r2,r3⟩:=box3 SK.out.r
          obtain ⟨mb,mo,rfl,cm⟩:=mate_at (HG.out.keep SK.out.s.bel).m hq4
          have ct:=SK.out.t.cell (i := q9) (by omega)
          have ct2:=SK.out.t.cell (i := d.m q9) (by have := HM.out; omega)
          rw [getD_natsS] at ct ct2
          obtain ⟨u1,hu1⟩:∃ u,u = d.m q9 := ⟨_,rfl⟩
          obtain ⟨ta1,hta1⟩:∃ u,u = (sTo d h 3).getD q9 0 := ⟨_,rfl⟩
          rw [← hu1] at ct2 cm mq tb HS2
          obtain ⟨tb1,htb1⟩:∃ u,u = (sTo d h 3).getD u1 0 := ⟨_,rfl⟩
          rw [← hta1] at ct ta HS2
          rw [← htb1] at ct2 tb HS2
          clear hu1 hta1 htb1
          have q2:(0:Int) ≤ (u1:Int):=by omega
          have q3:(u1:Int) < (m:Int):=by have := HM.out; omega
          go_upto_region 22 with fail
          go_still_tail 14,(by kernel_rfl)
          change wpList _ _ _ _ _ wr.drew
          obtain ⟨X5,hX⟩:∃ X:World,X = wr.drew := ⟨_,rfl⟩
          rw [← hX]
          have SX:=hide (SK.out.drew.cast hX)
          clear hX d0 d1 d2 d3 r0 r1 r2 r3 cm ct ct2 cu
          go_wp2_with fail
          refine (join_any base g2 m c2 ta1 tb1 _ X5 SX.out.o2 (by have := HM.out; omega) (by have := HM.out; omega) (by omega)).mono ?_
          rintro e w7 ⟨rfl,own7,gr7⟩
          have S7:=hide (SX.out.join own7 gr7)
          clear own7 gr7
          go_wp2
          go_roundg (gk - 1)
          case measure => have := HKG.out; omega
          case rel => exact ⟨q9 + 1,by have := HKG.out; omega,by go_num,by rw [HS2.out]; exact S7.out⟩
       ·have q1:¬ ((q9:Int) < (m:Int)):=by omega
        have S7:=hide (show SL w ge gt gu gr g1 c1 g2 c2 base m d.n [.slice A d.n cp,.slice B m cq,.int .i64 (d.lp:Int)] [.int .i64 k,.int .i64 (h:Int),.int .i64 y,.int .i64 sg,.bool ov] [.int .i64 (b0:Int),.int .i64 (o0:Int),.int .i64 (i0:Int),.int .i64 (f0:Int),.int .i64 (b1:Int),.int .i64 (o1:Int),.int .i64 (i1:Int),.int .i64 (f1:Int),.int .i64 (b2:Int),.int .i64 (o2:Int),.int .i64 (i2:Int),.int .i64 (f2:Int)] (nats (sTo d h 3)) (sOu d h 3) (d.sg.map (.int .i64)) (d.lp:Int) (sF d h 0) wr from by
         have:q9 = 4 * d.n:=by have := HM.out; omega
         have h8:=SK.out
         rw [this] at h8
         exact h8)
        clear hkg HKG SK
        obtain ⟨r0,r1,r2,r3,r4,r5,r6,r7,r8,r9,r10,r11,rf⟩:=box12 S7.out.s.e
        go_wp2
        clear r0 r1 r2 r3 r4 r5 r6 r7 r8 r9 r10 r11 rf
        go_loopg [18,104] 3 (fun g s18 s104 wx => ∃ q9:Nat,q9 + g = 3 ∧ s104 = .int .i64 (q9:Int) ∧ SL w ge gt gu gr g1 c1 g2 c2 base m d.n [.slice A d.n cp,.slice B m cq,.int .i64 (d.lp:Int)] [.int .i64 k,.int .i64 (h:Int),.int .i64 y,.int .i64 sg,.bool ov] [.int .i64 (b0:Int),.int .i64 (o0:Int),.int .i64 (i0:Int),.int .i64 (f0:Int),.int .i64 (b1:Int),.int .i64 (o1:Int),.int .i64 (i1:Int),.int .i64 (f1:Int),.int .i64 (b2:Int),.int .i64 (o2:Int),.int .i64 (i2:Int),.int .i64 (f2:Int)] (nats (sTo d h 3)) (sOu d h 3) (d.sg.map (.int .i64)) (d.lp:Int) (sF d h q9) wx)
        case atStart => exact ⟨0,rfl,rfl,S7.out⟩
        case round =>
         clear S7
         obtain ⟨q9,hkg,rfl,hsl⟩:=hrel
         have HKG:=hide hkg
         have SK:=hide hsl
         clear hsl
         have hk4:q9 = 0 ∨ q9 = 1 ∨ q9 = 2 ∨ q9 = 3:=by omega
         clear hkg
         rcases hk4 with rfl | rfl | rfl | rfl
         ·have j:=J0.out
          obtain ⟨r0,r1,r2,r3⟩:=box3 SK.out.r
          have hgl:=SK.out.r.lt
          go_wp2_with fail
          refine (join_any base g2 m c2 b0 f0 _ _ (SK.out.alloc _).o2 (by have := HM.out; omega) (by have := HM.out; omega) (by omega)).mono ?_
          rintro e w7 ⟨rfl,own7,gr7⟩
          have S7:=hide ((SK.out.alloc _).join own7 gr7)
          have HS2:=hide (show sF d h (0 + 1) = jn (sF d h 0) b0 f0 by rw [HE.out.1.1,HE.out.1.2.2.2]; rfl)
          clear own7 gr7 j r0 r1 r2 r3
          go_wp2
          go_roundg (gk - 1)
          case measure => have := HKG.out; omega
          case rel => exact ⟨0 + 1,by have := HKG.out; omega,by go_num,by rw [HS2.out]; exact S7.out⟩
         ·have j:=J1.out
          obtain ⟨r0,r1,r2,r3⟩:=box3 SK.out.r
          have hgl:=SK.out.r.lt
          go_wp2_with fail
          refine (join_any base g2 m c2 b1 f1 _ _ (SK.out.alloc _).o2 (by have := HM.out; omega) (by have := HM.out; omega) (by omega)).mono ?_
          rintro e w7 ⟨rfl,own7,gr7⟩
          have S7:=hide ((SK.out.alloc _).join own7 gr7)
          have HS2:=hide (show sF d h (1 + 1) = jn (sF d h 1) b1 f1 by rw [HE.out.2.1.1,HE.out.2.1.2.2.2]; rfl)
          clear own7 gr7 j r0 r1 r2 r3
          go_wp2
          go_roundg (gk - 1)
          case measure => have := HKG.out; omega
          case rel => exact ⟨1 + 1,by have := HKG.out; omega,by go_num,by rw [HS2.out]; exact S7.out⟩
         ·have j:=J2.out
          obtain ⟨r0,r1,r2,r3⟩:=box3 SK.out.r
          have hgl:=SK.out.r.lt
          go_wp2_with fail
          refine (join_any base g2 m c2 b2 f2 _ _ (SK.out.alloc _).o2 (by have := HM.out; omega) (by have := HM.out; omega) (by omega)).mono ?_
          rintro e w7 ⟨rfl,own7,gr7⟩
          have S7:=hide ((SK.out.alloc _).join own7 gr7)
          have HS2:=hide (show sF d h (2 + 1) = jn (sF d h 2) b2 f2 by rw [HE.out.2.2.1,HE.out.2.2.2.2.2]; rfl)
          clear own7 gr7 j r0 r1 r2 r3
          go_wp2
          go_roundg (gk - 1)
          case measure => have := HKG.out; omega
          case rel => exact ⟨2 + 1,by have := HKG.out; omega,by go_num,by rw [HS2.out]; exact S7.out⟩
         ·clear HKG J0 J1 J2
          have S8:=hide (SK.out.alloc (.cells #[.int .i64 5,.int .i64 0,.int .i64 0,.int .i64 0,.bool false] 37))
          have hgl:=SK.out.r.lt
          have hgl2:=Row.lt SK.out.u
          have hgl3:=SK.out.s.e.lt
          go_wp2
          obtain ⟨gv,hgv⟩:∃ g,g = wr.heap.size := ⟨_,rfl⟩
          have Z8:=hide (show Row (wr.alloc (.cells #[.int .i64 5,.int .i64 0,.int .i64 0,.int .i64 0,.bool false] 37)) gv 37 [.int .i64 5,.int .i64 ((sX d h 0:Nat):Int),.int .i64 0,.int .i64 0,.bool false] from row_at (vs := [_,_,_,_,_]) hgv)
          obtain ⟨V8,hV8⟩:∃ V:World,V = wr.alloc (.cells #[.int .i64 5,.int .i64 0,.int .i64 0,.int .i64 0,.bool false] 37) := ⟨_,rfl⟩
          rw [← hV8] at S8 Z8 ⊢
          rw [← hgv]
          have zr:gr ≠ gv:=by omega
          have zu:gu ≠ gv:=by omega
          have ze:ge < gv:=by omega
          clear hgv hV8 hgl hgl2 hgl3 SK
          have hlF:=sF_lt hd hh 3
          have HLF:=hide (show ∀ z,z < m → (sF d h 3).getD z 0 < m from fun z hz => by have := hlF z (by have := HM.out; omega); have := HM.out; omega)
          clear hlF
          have HLO:=hide hlo
          clear hlo hlt
          go_loopg [20,21,22] m (fun g s20 s21 s22 wx => ∃ q9:Nat,q9 + g = m ∧ s20 = .int .i64 ((m:Int) - 1 - (q9:Int)) ∧ SL w ge gt gu gr g1 c1 g2 c2 base m d.n [.slice A d.n cp,.slice B m cq,.int .i64 (d.lp:Int)] [.int .i64 k,.int .i64 (h:Int),.int .i64 y,.int .i64 sg,.bool ov] [.int .i64 (b0:Int),.int .i64 (o0:Int),.int .i64 (i0:Int),.int .i64 (f0:Int),.int .i64 (b1:Int),.int .i64 (o1:Int),.int .i64 (i1:Int),.int .i64 (f1:Int),.int .i64 (b2:Int),.int .i64 (o2:Int),.int .i64 (i2:Int),.int .i64 (f2:Int)] (nats (sTo d h 3)) (sOu d h 3) (d.sg.map (.int .i64)) (d.lp:Int) (sF d h 3) wx ∧ Row wx gv 37 [.int .i64 5,.int .i64 ((sX d h q9:Nat):Int),.int .i64 0,.int .i64 0,.bool false])
          case atStart => exact ⟨0,by omega,by go_num,S8.out,Z8.out⟩
          case round =>
           clear S8 Z8
           obtain ⟨q9,hkg,rfl,hsl,hz⟩:=hrel
           have HKG:=hide hkg
           have SK:=hide hsl
           have ZK:=hide hz
           clear hsl hz
           obtain ⟨r0,r1,r2,r3⟩:=box3 SK.out.r
           obtain ⟨v0,v1,v2,v3,v4,v5⟩:=box5 ZK.out
           by_cases hq:q9 < m
           ·obtain ⟨u,hu⟩:∃ u:Nat,u = m - (q9 + 1) := ⟨_,rfl⟩
            have hui:(m:Int) - 1 - (q9:Int) = (u:Int):=by omega
            have hum:u < m:=by omega
            have HU:=hide (show (u:Int) = (m:Int) - 1 - (q9:Int) by omega)
            have HSX:=hide (show sX d h (q9 + 1) = if sC d h u then u else sX d h q9 by rw [hu,HM.out]; rfl)
            simp only [hui]
            have u0:(0:Int) ≤ (u:Int):=by omega
            have u1:(u:Int) < (m:Int):=by omega
            clear hkg hu hui
            go_wp2_with fail
            refine (next_l base g2 m c2 u _ _ SK.out.o2 hum (by omega) (HLF.out u hum)).mono ?_
            rintro e w7 ⟨rfl,rfl⟩
            have hi:lnx (sF d h 3) u < m:=by have := HM.out; have := HLF.out u hum; unfold lnx; rw [HM.out]; exact Pl.tn_lt (by omega)
            obtain ⟨i,hii⟩:∃ i,i = lnx (sF d h 3) u := ⟨_,rfl⟩
            rw [← hii] at hi ⊢
            have HII:=hide hii
            clear hii
            go_wp2_with fail
            refine (next_l base g2 m c2 i _ _ SK.out.o2 hi (by omega) (HLF.out i hi)).mono ?_
            rintro e w7 ⟨rfl,rfl⟩
            have hj:lnx (sF d h 3) i < m:=by have := HM.out; have := HLF.out i hi; unfold lnx; rw [HM.out]; exact Pl.tn_lt (by omega)
            obtain ⟨j,hjj⟩:∃ j,j = lnx (sF d h 3) i := ⟨_,rfl⟩
            rw [← hjj] at hj ⊢
            have HJJ:=hide hjj
            clear hjj
            have cu:=SK.out.u.cell (i := u) (by rw [HLO.out]; exact hum)
            have ci:=SK.out.u.cell (i := i) (by rw [HLO.out]; exact hi)
            have cj:=SK.out.u.cell (i := j) (by rw [HLO.out]; exact hj)
            have i0':(0:Int) ≤ (i:Int):=by omega
            have i1':(i:Int) < (m:Int):=by omega
            have j0':(0:Int) ≤ (j:Int):=by omega
            have j1':(j:Int) < (m:Int):=by omega
            obtain ⟨tt,htt⟩:∃ t,t = lnx (sF d h 3) j := ⟨_,rfl⟩
            have HC:=hide (show sC d h u = ((sOu d h 3).getD u false && (sOu d h 3).getD i false && (sOu d h 3).getD j false && tt == u) by unfold sC; rw [← HII.out,← HJJ.out,← htt])
            have HTT:=hide htt
            clear htt
            obtain ⟨xu,hxu⟩:∃ b,b = (sOu d h 3).getD u false := ⟨_,rfl⟩
            obtain ⟨xi,hxi⟩:∃ b,b = (sOu d h 3).getD i false := ⟨_,rfl⟩
            obtain ⟨xj,hxj⟩:∃ b,b = (sOu d h 3).getD j false := ⟨_,rfl⟩
            rw [← hxu,← hxi,← hxj] at HC
            rw [← hxu] at cu
            rw [← hxi] at ci
            rw [← hxj] at cj
            clear hxu hxi hxj
            cases xu with
            | false =>
              have FB:=hide (show (if sC d h u then u else sX d h q9) = sX d h q9 by rw [HC.out]; rfl)
              go_wp2
              go_roundg (gk - 1)
              case measure => have := HKG.out; omega
              case rel => exact ⟨q9 + 1,by have := HKG.out; omega,by have := HU.out; go_num,SK.out,by rw [HSX.out,FB.out]; exact ZK.out⟩
            | true =>
              cases xi with
              | false =>
                have FB:=hide (show (if sC d h u then u else sX d h q9) = sX d h q9 by rw [HC.out]; rfl)
                go_wp2
                go_roundg (gk - 1)
                case measure => have := HKG.out; omega
                case rel => exact ⟨q9 + 1,by have := HKG.out; omega,by have := HU.out; go_num,SK.out,by rw [HSX.out,FB.out]; exact ZK.out⟩
              | true =>
                cases xj with
                | false =>
                  have FB:=hide (show (if sC d h u then u else sX d h q9) = sX d h q9 by rw [HC.out]; rfl)
                  go_wp2
                  go_roundg (gk - 1)
                  case measure => have := HKG.out; omega
                  case rel => exact ⟨q9 + 1,by have := HKG.out; omega,by have := HU.out; go_num,SK.out,by rw [HSX.out,FB.out]; exact ZK.out⟩
                | true =>
                  go_wp2_with fail
                  refine (next_l base g2 m c2 j _ _ SK.out.o2 hj (by omega) (HLF.out j hj)).mono ?_
                  rintro e w7 ⟨rfl,rfl⟩
                  rw [← HTT.out]
                  by_cases h9:tt = u
                  ·have t9:((tt:Int) == (u:Int)) = true:=by rw [beq_iff_eq]; omega
                   have FB:=hide (show (if sC d h u then u else sX d h q9) = u by rw [HC.out]; simp [h9])
                   clear h9
                   go_wp2
                   go_roundg (gk - 1)
                   case measure => have := HKG.out; omega
                   case rel =>
                    refine ⟨q9 + 1,by have := HKG.out; omega,by have := HU.out; go_num,SK.out.store ZK.out (by decide) ze zr zu _ _,?_⟩
                    rw [HSX.out,FB.out]
                    exact ZK.out.set 1 _
                  ·have t9:((tt:Int) == (u:Int)) = false:=by rw [beq_eq_false_iff_ne]; omega
                   have FB:=hide (show (if sC d h u then u else sX d h q9) = sX d h q9 by rw [HC.out]; simp [h9])
                   clear h9
                   go_wp2
                   go_roundg (gk - 1)
                   case measure => have := HKG.out; omega
                   case rel => exact ⟨q9 + 1,by have := HKG.out; omega,by have := HU.out; go_num,SK.out,by rw [HSX.out,FB.out]; exact ZK.out⟩
           ·have hui:¬ ((0:Int) ≤ (m:Int) - 1 - (q9:Int)):=by omega
            have hqm:q9 = 4 * d.n:=by have := HM.out; omega
            have Z9:=hide (show Row wr gv 37 [.int .i64 5,.int .i64 ((sX d h (4 * d.n):Nat):Int),.int .i64 0,.int .i64 0,.bool false] by rw [← hqm]; exact ZK.out)
            clear hqm hkg HKG ZK r0 r1 r2 r3 v0 v1 v2 v3 v4 v5
            obtain ⟨xx,hxx⟩:∃ x,x = sX d h (4 * d.n) := ⟨_,rfl⟩
            rw [← hxx] at Z9
            have HXX:=hide hxx
            clear hxx
            obtain ⟨r0,r1,r2,r3⟩:=box3 SK.out.r
            obtain ⟨v0,v1,v2,v3,v4,v5⟩:=box5 Z9.out
            obtain ⟨vs,b1',l1'⟩:=SK.out.s.rd
            obtain ⟨us,b2',l2'⟩:=SK.out.s.rm
            have hlo:=SK.out.s.lo
            obtain ⟨p0,p1,p2,p3⟩:=cells3s b1' l1'
            obtain ⟨q0,q1,q2,q3,q4,q5⟩:=cells5s b2' l2'
            have l4:=SK.out.l4
            have y1:gr ≠ w.heap.size + 1 + 1:=by omega
            have y2:gr ≠ w.heap.size + 1 + 1 + 1:=by omega
            have y3:gv ≠ w.heap.size + 1 + 1:=by omega
            have y4:gv ≠ w.heap.size + 1 + 1 + 1:=by omega
            have y5:w.heap.size + 1 + 1 ≠ w.heap.size + 1 + 1 + 1:=by omega
            go_upto_region 37 with fail
            go_region
            go_wp2_with fail
            clear p0 p1 p2 p3 q0 q1 q2 q3 q4 q5 r0 r1 r2 r3 v0 v1 v2 v3 v4 v5
            refine bodyPost_ret (v := .tuple #[.agg #[.slice (some ⟨g1,0,none⟩) d.n c1,.slice (some ⟨g2,0,none⟩) m c2,.int .i64 (d.lp:Int)],.agg #[.int .i64 5,.int .i64 (xx:Int),.int .i64 0,.int .i64 0,.bool false],.int .i64 0]) ?_ rfl ?_
            ·obtain ⟨e0,e1,e2,e3,e4,e5,e6,e7⟩:=fin8 b1' b2' l1' l2' (by omega) (.slice (some ⟨g1,0,none⟩) d.n c1) (.slice (some ⟨g2,0,none⟩) m c2) (.int .i64 (d.lp:Int)) (.int .i64 5) (.int .i64 (xx:Int)) (.int .i64 0) (.int .i64 0) (.bool false)
             simp [results,Try.results54,go_sem,e0,e1,e2,e3,e4,e5,e6,e7]
            ·have e0:sldC d h = 0:=by unfold sldC; rw [if_pos HI.out]
             have t1:=SK.out.l1
             have t2:=SK.out.l2
             have t3:=SK.out.l3
             obtain ⟨gg,eg,lo1,_⟩:=owns_pos hn0 SK.out.o1
             injection eg with eg
             injection eg with eg
             subst eg
             obtain ⟨gg,eg,lo2,_⟩:=owns_pos hm0 SK.out.o2
             injection eg with eg
             injection eg with eg
             subst eg
             refine ⟨fun h => absurd e0 h,fun _ => ⟨some ⟨g1,0,none⟩,some ⟨g2,0,none⟩,c1,c2,?_,?_,?_⟩,(below8 SK.out.s.bel _ _ _ _ _ _ _ _).drew⟩
             ·show _ = Ending.returned (.tuple #[.agg #[.slice (some ⟨g1,0,none⟩) d.n c1,.slice (some ⟨g2,0,none⟩) (4 * d.n) c2,.int .i64 (d.lp:Int)],.agg #[.int .i64 5,.int .i64 (sX d h (4 * d.n):Nat),.int .i64 0,.int .i64 0,.bool false],.int .i64 0])
              rw [← HXX.out,← HM.out]
             ·refine rowT_drew (own_intsT (base := base) (e := 3) (c := c1) ?_)
              (iterate 8 refine own_set ?_ (by omega))
              exact SK.out.o1
             ·show RowT _ _ _ (4 * d.n) ((nats (sF d h 3)).map (.int .i64))
              rw [← HM.out]
              refine rowT_drew (OwnN.intsT (base := base) (c := c2) ?_)
              unfold OwnN
              (iterate 8 refine own_set ?_ (by omega))
              exact SK.out.o2
 ·rw [Pl.vb_false hI]
  have e6:=hide (show sldC d h = 6 by unfold sldC; rw [if_neg hI])
  clear hI
  obtain ⟨p0,p1,p2,p3⟩:=box3 Y2.out
  obtain ⟨q0,q1,q2,q3,q4,q5⟩:=box5 Y3.out
  have z1:w.heap.size + 1 + 1 < w1.heap.size:=by omega
  have z2:w.heap.size + 1 + 1 + 1 < w1.heap.size:=by omega
  go_wp2
  refine bodyPost_ret (v := .tuple #[nilD,nilM,.int .i64 6]) ?_ rfl ?_
  ·obtain ⟨e0,e1,e2,e3,e4,e5,e6,e7⟩:=fin8 (Y2.out) (Y3.out) rfl rfl (by omega) (.slice none 0 0) (.slice none 0 0) (.int .i64 0) (.int .i64 0) (.int .i64 0) (.int .i64 0) (.int .i64 0) (.bool false)
   unfold nilD nilM
   simp [results,Try.results54,go_sem,e0,e1,e2,e3,e4,e5,e6,e7,z1,z2]
  ·refine ⟨fun _ => by rw [e6.out]; exact rfl,fun h => absurd h (by rw [e6.out]; decide),?_⟩
   exact Below.alloc (below8 B1.out _ _ _ _ _ _ _ _) (below8 B1.out _ _ _ _ _ _ _ _).size _
end Go.Proofs.Ytghdiolnonejaaa
end
section
namespace Go.Proofs.Ytghdiolnonejaaa
open Go Go.RowKit
attribute [local go_sem ↓] Go.wp_at_zero Go.wp_at_succ
theorem moveInfo:(Try.prog.info? 37).map (fun i => (i.zero,i.size,i.bytes)) = some (some (.agg #[.int .i64 0,.int .i64 0,.int .i64 0,.int .i64 0,.bool false]),5,40) := by kernel_rfl
def Mv.cells (m:Mv):List Value := [.int .i64 m.kind,.int .i64 m.x,.int .i64 m.y,.int .i64 m.sign,.bool m.over]
def mvs (ms:List Mv):List Value := ms.flatMap Mv.cells
theorem mvs_len:∀ ms:List Mv,(mvs ms).length = ms.length * 5
 | [] => rfl
 | m :: ms => by
   have:=mvs_len ms
   unfold mvs at this ⊢
   rw [List.flatMap_cons,List.length_append,this,List.length_cons]
   simp [Mv.cells]
   omega
theorem mvs_app (ms:List Mv) (m:Mv):mvs (ms ++ [m]) = mvs ms ++ m.cells := by unfold mvs; simp
structure ML (w:World) (gd gl:Nat) (dv:List Value) (v:Value) (ms:List Mv) (W:World):Prop where
 d:Row W gd 24 dv
 l:Row W gl 27 [v]
 o:W.ownsRow (gl + 1) 37 5 v ms.length (mvs ms)
 bel:Below w.heap.size w W
 lo:w.heap.size ≤ gd
 lt:gd < gl
section
variable {w W W' W2:World} {gd gl:Nat} {dv:List Value} {v v':Value} {ms:List Mv} {m:Mv}
theorem own_below {base:Nat} {e:TypeId} {size n:Nat} {xs:List Value} (h:W.ownsRow base e size v n xs) (hb:Below W.heap.size W W'):W'.ownsRow base e size v n xs := by
 refine ⟨h.1,?_⟩
 rcases h.2 with hz | ⟨g,cap,cur,r1,r2,r3,r4⟩
 ·exact .inl hz
 ·exact .inr ⟨g,cap,cur,r1,r2,(hb.block g (lt_of_heap r3)).trans r3,r4⟩
theorem ML.below (h:ML w gd gl dv v ms W) (hb:Below W.heap.size W W'):ML w gd gl dv v ms W' :=
 ⟨h.d.below hb,h.l.below hb,own_below h.o hb,h.bel.trans (hb.mono h.bel.size),h.lo,h.lt⟩
theorem ML.alloc (h:ML w gd gl dv v ms W) (o:Obj):ML w gd gl dv v ms (W.alloc o) := h.below ((Below.refl _ _).alloc (Nat.le_refl _) o)
theorem ML.big (h:ML w gd gl dv v ms W):gl < W.heap.size := h.l.lt
theorem ML.far (h:ML w gd gl dv v ms W) {g:Nat} (hg:g ≤ gl):some g ≠ v.ownBlock := fun e => by have := (h.o.lt g e.symm).1; omega
theorem ML.push (h:ML w gd gl dv v ms W) (own:W2.ownsRow (gl + 1) 37 5 v' (ms.length + 1) (mvs ms ++ m.cells)) (gr:W.grownBy W2 v.ownBlock):ML w gd gl dv v' (ms ++ [m]) (W2.setCell ⟨gl,0,none⟩ v') := by
 have a:=h.lo
 have b:=h.lt
 refine ⟨(h.d.grown gr (h.far (by omega))).other (by show gd ≠ gl; omega) _,(h.l.grown gr (h.far (Nat.le_refl _))).set 0 v',?_,?_,h.lo,h.lt⟩
 ·rw [mvs_app,List.length_append]
  exact ownsRow_setCell_below own (by show gl < gl + 1; omega) _
 ·exact (h.bel.grown gr h.bel.size (fun k hk => by have := (h.o.lt k hk).1; omega)).setCell (by show _ ≤ gl; omega) _
end
theorem five_news (W:World) (g:Nat) (hg:W.heap.size = g) (m:Mv):∀ j u,m.cells[j]? = some u → (W.alloc (.cells m.cells.toArray 37)).cell? ((⟨g,0,none⟩:Addr).add j) = some u := by
 subst hg
 intro j u hu
 rw [Addr.add_lit,Nat.zero_add]
 have hj:j < m.cells.length:=by
  rcases Nat.lt_or_ge j m.cells.length with h | h
  ·exact h
  ·rw [List.getElem?_eq_none h] at hu; cases hu
 have:=(Row.new W 37 m.cells).cell hj
 rw [this,← hu,List.getElem?_eq_getElem hj]
theorem box1 {W:World} {g:Nat} {t:TypeId} {a:Value} (h:Row W g t [a]):W.cell? ⟨g,0,none⟩ = some a ∧ ∀ o,W.frozen? ⟨g,o,none⟩ = false := ⟨h.cell (i := 0) (by simp),h.free⟩
def slP (d:Pl.Dg) (h:Nat):Prop := h ≤ th d h 1 ∧ h ≤ th d h 2 ∧ isT d h
open Classical in
noncomputable def slOne (d:Pl.Dg) (h:Nat):List Mv := if slP d h then [⟨5,h,0,0,false⟩] else []
set_option maxRecDepth 100000 in
set_option maxHeartbeats 4000000 in
theorem slTry_any (d:Pl.Dg) (hd:Pl.Wf d) (A B:Option Addr) (cp cq m h gd gl:Nat) (v:Value) (ms:List Mv) (w0 w:World) (hm:m = 4 * d.n) (hg:DgAt w A B d) (hh:h < 4 * d.n) (hms:ms.length ≤ 1000)
 (hp:ML w0 gd gl [.slice A d.n cp,.slice B m cq,.int .i64 (d.lp:Int)] v ms w) :
 Calls Try.prog 107 #[.agg #[.int .i64 5,.int .i64 (h:Int),.int .i64 0,.int .i64 0,.bool false],.pointer (some ⟨gd,0,none⟩),.pointer (some ⟨gl,0,none⟩)] w fun e w' => e = .returned (.tuple #[]) ∧ ∃ v',ML w0 gd gl [.slice A d.n cp,.slice B m cq,.int .i64 (d.lp:Int)] v' (ms ++ slOne d h) w' := by
 have HM:=hide hm
 have HG:=hide hg
 have hn:=hd.few
 have hm2:m ≤ 256:=by omega
 have hHM:h < m:=by omega
 obtain ⟨i,hi⟩:∃ i,i = th d h 1 := ⟨_,rfl⟩
 obtain ⟨j,hj⟩:∃ j,j = th d h 2 := ⟨_,rfl⟩
 have li:i < m:=by have := th_lt hd hh 1; omega
 have lj:j < m:=by have := th_lt hd hh 2; omega
 have HI:=hide (show Pl.nx d h = i from hi.symm)
 have HJ:=hide (show Pl.nx d i = j from by rw [hi,hj]; rfl)
 have HT:=hide (show slP d h ↔ h ≤ i ∧ h ≤ j ∧ isT d h by unfold slP; rw [hi,hj])
 clear hi hj hm
 have ih0:(0:Int) ≤ (h:Int) ∧ (h:Int) < (m:Int):=by omega
 have ii0:(0:Int) ≤ (i:Int) ∧ (i:Int) < (m:Int):=by omega
 have hb0:Below w.heap.size w (w.alloc (.cells #[.int .i64 5,.int .i64 (h:Int),.int .i64 0,.int .i64 0,.bool false] 37)):=(Below.refl _ _).alloc (Nat.le_refl _) _
 have HB0:=hide hb0
 have P1:=hide (hp.below hb0)
 have M1:=hide (row_at (W := w) (g := w.heap.size) (t := 37) (vs := [.int .i64 5,.int .i64 (h:Int),.int .i64 0,.int .i64 0,.bool false]) rfl)
 have hgl:gl < w.heap.size:=hp.big
 have hgd:gd < gl:=hp.lt
 clear hp hb0 hg
 obtain ⟨d0,d1,d2,d3⟩:=box3 P1.out.d
 obtain ⟨e0,e1,e2,e3,e4,e5⟩:=box5 M1.out
 go_enter Try.func107,Try.ntmps107
 go_wp2_with fail
 refine (next_i d hd B cq m (h:Int) _ HM.out ih0 (by rw [HM.out]; exact (HG.out.keep HB0.out).m)).mono ?_
 rintro e w1 ⟨rfl,rfl⟩
 rw [Int.toNat_natCast,HI.out]
 go_wp2_with fail
 refine (next_i d hd B cq m (i:Int) _ HM.out ii0 (by rw [HM.out]; exact (HG.out.keep HB0.out).m)).mono ?_
 rintro e w1 ⟨rfl,rfl⟩
 rw [Int.toNat_natCast,HJ.out]
 by_cases c1:(i:Int) < (h:Int)
 ·have E:=hide (show slOne d h = [] by unfold slOne; rw [if_neg (fun h => by have := HT.out.1 h; omega)])
  go_wp2
  refine bodyPost_ret (results_none rfl _ _ _) rfl ⟨rfl,v,?_⟩
  rw [E.out,List.append_nil]
  exact P1.out
 ·by_cases c2:(j:Int) < (h:Int)
  ·have E:=hide (show slOne d h = [] by unfold slOne; rw [if_neg (fun h => by have := HT.out.1 h; omega)])
   go_wp2
   refine bodyPost_ret (results_none rfl _ _ _) rfl ⟨rfl,v,?_⟩
   rw [E.out,List.append_nil]
   exact P1.out
  ·go_wp2_with fail
   refine (tri_v d hd A B cp cq m h _ HM.out (HG.out.keep HB0.out) hh).mono ?_
   rintro e w1 ⟨b0,o0,i0,f0,b1,o1,i1,f1,b2,o2,i2,f2,rfl,_,hb1⟩
   have P2:=hide (P1.out.below hb1)
   have M2:=hide (M1.out.below hb1)
   have hs1:=hb1.size
   have hs20:w.heap.size + 1 ≤ w1.heap.size:=by simpa using hs1
   have hs2:w.heap.size < w1.heap.size:=by omega
   clear hs20
   have hs3:gl < w1.heap.size:=by omega
   have hs4:gl < w1.heap.size + 1:=by omega
   have hs5:w.heap.size < w1.heap.size + 1:=by omega
   clear hb1 hs1 d0 d1 d2 d3 e0 e1 e2 e3 e4 e5
   obtain ⟨e0,e1,e2,e3,e4,e5⟩:=box5 M2.out
   by_cases hI:isT d h
   ·rw [Pl.vb_true hI]
    have E:=hide (show slOne d h = [⟨5,h,0,0,false⟩] by unfold slOne; rw [if_pos (HT.out.2 ⟨by omega,by omega,hI⟩)])
    clear hI
    obtain ⟨q0,q1⟩:=box1 P2.out.l
    obtain ⟨n0,hn0,hz0,hz1,hz2⟩:=info_parts moveInfo
    have P3:=hide (P2.out.alloc (.cells #[.int .i64 (b0:Int),.int .i64 (o0:Int),.int .i64 (i0:Int),.int .i64 (f0:Int),.int .i64 (b1:Int),.int .i64 (o1:Int),.int .i64 (i1:Int),.int .i64 (f1:Int),.int .i64 (b2:Int),.int .i64 (o2:Int),.int .i64 (i2:Int),.int .i64 (f2:Int)] 107))
    have A0:=hide (P3.out.alloc (.cells (Mv.cells ⟨5,h,0,0,false⟩).toArray 37)).o
    have A1:∀ u ∈ Mv.cells ⟨5,h,0,0,false⟩,u.oneCell' = true:=by simp [Mv.cells,Value.oneCell']
    have A2:ms.length + 1 ≤ maxLen:=by unfold maxLen; omega
    have A3:(ms.length + 1) * 40 ≤ 140737488355328:=by omega
    have A4:gl + 1 ≤ w1.heap.size + 1 + 1:=by omega
    have A5:=five_news (w1.alloc (.cells #[.int .i64 (b0:Int),.int .i64 (o0:Int),.int .i64 (i0:Int),.int .i64 (f0:Int),.int .i64 (b1:Int),.int .i64 (o1:Int),.int .i64 (i1:Int),.int .i64 (f1:Int),.int .i64 (b2:Int),.int .i64 (o2:Int),.int .i64 (i2:Int),.int .i64 (f2:Int)] 107)) (w1.heap.size + 1) (by simp) ⟨5,h,0,0,false⟩
    have A6:=hide A5
    clear A5
    go_wp2_with (at_builtin; refine wpList_append_lies _ (by rfl) _ _ 27 (by rfl) (gl + 1) 37 n0 (.agg #[.int .i64 0,.int .i64 0,.int .i64 0,.int .i64 0,.bool false]) 5 40 Try.underlying27 hn0 hz0 hz1 hz2 rfl (by omega) v ms.length (mvs ms) (by rfl) A0.out ⟨w1.heap.size + 1,0,none⟩ 1 1 (Mv.cells ⟨5,h,0,0,false⟩) (by rfl) (by rfl) A6.out A1 (by omega) A2 A3 (by simp; omega) (w1.heap.size + 1 + 1) (by simp) ?_; intro g2 c2 w2 own2 grow2 at2 lt2; obtain ⟨q2,q3⟩:=box1 ((P3.out.alloc (.cells (Mv.cells ⟨5,h,0,0,false⟩).toArray 37)).l.grown grow2 ((P3.out.alloc (.cells (Mv.cells ⟨5,h,0,0,false⟩).toArray 37)).far (Nat.le_refl _))); have OWN2 := hide own2; have GR2 := hide grow2; clear own2 grow2 at2)
    refine bodyPost_end (results_none rfl _ _ _) rfl ⟨rfl,.slice (some ⟨g2,0,none⟩) (ms.length + 1) c2,?_⟩
    rw [E.out]
    exact (P3.out.alloc _).push OWN2.out GR2.out
   ·rw [Pl.vb_false hI]
    have E:=hide (show slOne d h = [] by unfold slOne; rw [if_neg (fun h => hI (HT.out.1 h).2.2)])
    clear hI
    go_wp2
    refine bodyPost_end (results_none rfl _ _ _) rfl ⟨rfl,v,?_⟩
    rw [E.out,List.append_nil]
    exact P2.out.alloc _
noncomputable def slL (d:Pl.Dg):Nat → List Mv
 | 0 => []
 | k + 1 => slL d k ++ slOne d k
theorem slL_len (d:Pl.Dg):∀ k,(slL d k).length ≤ k
 | 0 => Nat.le_refl _
 | k + 1 => by
   have:=slL_len d k
   unfold slL slOne
   rw [List.length_append]
   split <;> simp <;> omega
theorem slL_mem (d:Pl.Dg) (z:Mv):∀ k,z ∈ slL d k ↔ ∃ h,h < k ∧ slP d h ∧ z = ⟨5,h,0,0,false⟩
 | 0 => by simp [slL]
 | k + 1 => by
   unfold slL
   rw [List.mem_append,slL_mem d z k]
   constructor
   ·rintro (⟨h,h1,h2,h3⟩ | h)
    ·exact ⟨h,by omega,h2,h3⟩
    ·unfold slOne at h
     split at h
     ·rename_i hp
      exact ⟨k,by omega,hp,by simpa using h⟩
     ·cases h
   ·rintro ⟨h,h1,h2,h3⟩
    by_cases e:h = k
    ·subst e
     right
     unfold slOne
     rw [if_pos h2,h3]
     simp
    ·exact .inl ⟨h,by omega,h2,h3⟩
def MovesAt (w:World) (v:Value) (ms:List Mv):Prop := ∃ base,w.ownsRow base 37 5 v ms.length (mvs ms)
set_option maxRecDepth 100000 in
set_option maxHeartbeats 4000000 in
theorem slides_any (d:Pl.Dg) (hd:Pl.Wf d) (A B:Option Addr) (cp cq m:Nat) (w:World) (hm:m = 4 * d.n) (hg:DgAt w A B d) :
 Calls Try.prog 62 #[.agg #[.slice A d.n cp,.slice B m cq,.int .i64 d.lp]] w fun e w' => ∃ v,e = .returned v ∧ MovesAt w' v (slL d m) ∧ Below w.heap.size w w' := by
 have HM:=hide hm
 have HG:=hide hg
 have hn:=hd.few
 have hm2:m ≤ 256:=by omega
 have P0:=hide (show ML w w.heap.size (w.heap.size + 1) [.slice A d.n cp,.slice B m cq,.int .i64 (d.lp:Int)] (.slice none 0 0) [] ((w.alloc (.cells #[.slice A d.n cp,.slice B m cq,.int .i64 (d.lp:Int)] 24)).alloc (.cells #[.slice none 0 0] 27)) from
  ⟨(row_at (vs := [_,_,_]) rfl).alloc _,row_at (vs := [_]) (by simp),⟨rfl,.inl ⟨rfl,rfl⟩⟩,((Below.refl _ _).alloc (Nat.le_refl _) _).alloc (by simp) _,Nat.le_refl _,by omega⟩)
 clear hg hm
 go_enter Try.func62,Try.ntmps62
 go_wp2
 go_loopg [5,10] m (fun g s5 s10 wx => ∃ (k:Nat) (v:Value),k + g = m ∧ s10 = .int .i64 (k:Int) ∧ ML w w.heap.size (w.heap.size + 1) [.slice A d.n cp,.slice B m cq,.int .i64 (d.lp:Int)] v (slL d k) wx)
 case atStart => exact ⟨0,_,by omega,rfl,P0.out⟩
 case round =>
  clear P0
  obtain ⟨k,v,hkg,rfl,hp⟩:=hrel
  have HKG:=hide hkg
  have PK:=hide hp
  have hlen:=slL_len d k
  clear hp
  by_cases hk:k < m
  ·have hki:(k:Int) < (m:Int):=by omega
   clear hkg
   go_wp2_with fail
   refine (slTry_any d hd A B cp cq m k w.heap.size (w.heap.size + 1) v (slL d k) w wr HM.out (HG.out.keep PK.out.bel) (by have := HM.out; omega) (by omega) PK.out).mono ?_
   rintro e w1 ⟨rfl,v',hp1⟩
   have P1:=hide hp1
   clear hp1
   go_wp2
   go_roundg (gk - 1)
   case measure => have := HKG.out; omega
   case rel => exact ⟨k + 1,v',by have := HKG.out; omega,by go_num,P1.out⟩
  ·have hki:¬ ((k:Int) < (m:Int)):=by omega
   have e:k = m:=by omega
   subst e
   obtain ⟨q0,q1⟩:=box1 PK.out.l
   clear hkg
   go_wp2
   go_ret
   exact ⟨v,rfl,⟨_,PK.out.o⟩,PK.out.bel⟩
end Go.Proofs.Ytghdiolnonejaaa
end
