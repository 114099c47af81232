/-
 The texts Pcb, Vd, Ve, Vg, Vi, Ins, Vj, Vk, Vl, Vn, Vp, Vq, Vr.
-/
import Derived.Test.YtghdiolnonejaaaT06
set_option linter.unusedVariables false
set_option linter.unusedSimpArgs false
section
namespace Go.Proofs.Ytghdiolnonejaaa.Pl
variable {d:Dg}
theorem ord_len_eq (hd:Wf d) {r q:Nat} (hr:r < d.n) (hq:q < d.n) (h:Comp d r q):(ord d r).length = (ord d q).length := by
 refine List.Perm.length_eq ((List.perm_ext_iff_of_nodup (ord_ok hd hr).nd (ord_ok hd hq).nd).2 fun x => ?_)
 rw [ord_mem hd hr,ord_mem hd hq]
 exact ⟨fun e => (comp_symm hd hr h).trans e,fun e => h.trans e⟩
theorem code_len_eq (hd:Wf d) {r q:Nat} (hr:r < d.n) (hq:q < d.n) (h:Comp d r q):(code d r).length = (code d q).length := by
 rw [code_len,code_len,ord_len_eq hd hr hq h]
structure Lst5 (d:Dg) (l:List Nat) (p:Pc):Prop where
 is:∃ r,r ∈ l ∧ p.code = code d r ∧ p.order = ord d r
 min:∀ q,q ∈ l → lx p.code (code d q) ≤ 0
theorem Lst5.one (r:Nat) (x:Int):Lst5 d [r] ⟨code d r,ord d r,x⟩:=by
 refine ⟨⟨r,by simp,rfl,rfl⟩,fun q hq => ?_⟩
 obtain rfl:q = r := by simpa using hq
 have:=lx_self (code d q)
 show lx (code d q) (code d q) ≤ 0
 omega
theorem Lst5.less {l:List Nat} {p:Pc} (h:Lst5 d l p) {q:Nat} (hq:lx (code d q) p.code < 0) (x:Int):Lst5 d (l ++ [q]) ⟨code d q,ord d q,x⟩:=by
 refine ⟨⟨q,by simp,rfl,rfl⟩,fun y hy => ?_⟩
 rcases List.mem_append.1 hy with hy | hy
 ·exact lx_trans (l := code d q) (m := p.code) (by omega) (h.min y hy)
 ·obtain rfl:y = q := by simpa using hy
  have:=lx_self (code d y)
  show lx (code d y) (code d y) ≤ 0
  omega
theorem Lst5.more {l:List Nat} {p:Pc} (h:Lst5 d l p) {q:Nat} (hq:¬ lx (code d q) p.code < 0) (x:Int):Lst5 d (l ++ [q]) ⟨p.code,p.order,x⟩:=by
 obtain ⟨r,h1,h2,h3⟩:=h.is
 refine ⟨⟨r,by simp [h1],h2,h3⟩,fun y hy => ?_⟩
 rcases List.mem_append.1 hy with hy | hy
 ·exact h.min y hy
 ·obtain rfl:y = q := by simpa using hy
  show lx p.code (code d y) ≤ 0
  rw [lx_neg]
  omega
theorem Lst5.ok (hd:Wf d) {l:List Nat} {p:Pc} {r:Nat} (h:Lst5 d l p) (hr:r < d.n) (hl:∀ c,c ∈ l ↔ c < d.n ∧ Comp d r c):PcOk d p := by
 obtain ⟨q,h1,h2,h3⟩:=h.is
 obtain ⟨hq,hc⟩:=(hl q).1 h1
 refine ⟨q,hq,h2,h3,fun y hy => ?_⟩
 rw [← h2]
 have hyn:y < d.n:=((ord_ok hd hq).mem y ((ord_mem hd hq y).2 hy)).1
 exact h.min y ((hl y).2 ⟨hyn,hc.trans hy⟩)
end Go.Proofs.Ytghdiolnonejaaa.Pl
end
section
namespace Go.Proofs.Ytghdiolnonejaaa
open Go Go.RowKit
def IntT (W:World) (v:Value) (xs:List Int):Prop := ∃ A c,v = .slice A xs.length c ∧ xs.length ≤ c ∧ RowT W 3 A xs.length (xs.map (.int .i64))
theorem IntT.below {W W':World} {v:Value} {xs:List Int} (h:IntT W v xs) (hb:Below W.heap.size W W'):IntT W' v xs := let ⟨A,c,e,h1,h2⟩:=h; ⟨A,c,e,h1,h2.keep hb⟩
theorem IntT.grown {W W':World} {v:Value} {xs:List Int} {row:Option Nat} {t':TypeId} (h:IntT W v xs) (hg:W.grownBy W' row) (hr:∀ g,row = some g → ∃ cs fr,W.heap[g]? = some (.cells cs t' fr)) (hne:3 ≠ t'):IntT W' v xs := let ⟨A,c,e,h1,h2⟩:=h; ⟨A,c,e,h1,h2.grown hg hr hne⟩
theorem IntT.store {W:World} {v:Value} {xs:List Int} {g i:Nat} {us:List Value} {t':TypeId} (h:IntT W v xs) (hr:Row W g t' us) (hne:3 ≠ t') (u:Value):IntT (W.setCell ⟨g,i,none⟩ u) v xs := let ⟨A,c,e,h1,h2⟩:=h; ⟨A,c,e,h1,h2.store hr hne _⟩
theorem own_intT {W:World} {base:Nat} {v:Value} {xs:List Int} (h:W.ownsRow base 3 1 v xs.length (xs.map (.int .i64))):IntT W v xs := by
 obtain ⟨A,c,rfl⟩:=owns_slice h
 exact ⟨A,c,rfl,own_cap h,own_rowT h⟩
structure PcV (W:World) (vC vO:Value) (x:Int) (p:Pl.Pc):Prop where
 c:IntT W vC p.code
 o:IntT W vO (nats p.order)
 r:x = p.roots
section
variable {W W':World} {vC vO:Value} {x:Int} {p:Pl.Pc}
theorem PcV.below (h:PcV W vC vO x p) (hb:Below W.heap.size W W'):PcV W' vC vO x p := ⟨h.c.below hb,h.o.below hb,h.r⟩
theorem PcV.grown {row:Option Nat} {t':TypeId} (h:PcV W vC vO x p) (hg:W.grownBy W' row) (hr:∀ g,row = some g → ∃ cs fr,W.heap[g]? = some (.cells cs t' fr)) (hne:3 ≠ t'):PcV W' vC vO x p := ⟨h.c.grown hg hr hne,h.o.grown hg hr hne,h.r⟩
theorem PcV.store {g i:Nat} {us:List Value} {t':TypeId} (h:PcV W vC vO x p) (hr:Row W g t' us) (hne:3 ≠ t') (u:Value):PcV (W.setCell ⟨g,i,none⟩ u) vC vO x p := ⟨h.c.store hr hne u,h.o.store hr hne u,h.r⟩
end
def PBox (d:Pl.Dg) (l:List Nat) (k:Nat) (W:World) (vC vO:Value) (x:Int):Prop :=
 (k = 0 ∧ vC = .slice none 0 0 ∧ vO = .slice none 0 0 ∧ x = 0) ∨ ∃ p,PcV W vC vO x p ∧ Pl.Lst5 d (l.take k) p ∧ 0 ≤ x ∧ x ≤ k
theorem PBox.below {d:Pl.Dg} {l:List Nat} {k:Nat} {W W':World} {vC vO:Value} {x:Int} (h:PBox d l k W vC vO x) (hb:Below W.heap.size W W'):PBox d l k W' vC vO x := by
 rcases h with h | ⟨p,h1,h2⟩
 ·exact .inl h
 ·exact .inr ⟨p,h1.below hb,h2⟩
theorem PBox.best {d:Pl.Dg} (hd:Pl.Wf d) {l:List Nat} {k q:Nat} {W:World} {vC vO:Value} {x:Int} (h:PBox d l k W vC vO x) (hq:q < d.n) (hl:∀ c,c ∈ l → c < d.n ∧ Pl.Comp d c q) :
 (k = 0 ∧ BestAt W vC (Pl.code d q).length none) ∨ ∃ p,PcV W vC vO x p ∧ Pl.Lst5 d (l.take k) p ∧ 0 ≤ x ∧ x ≤ k ∧ BestAt W vC (Pl.code d q).length (some p.code) := by
 rcases h with ⟨h0,h1,h2,_⟩ | ⟨p,h1,h2,h3,h4⟩
 ·exact .inl ⟨h0,h1⟩
 ·refine .inr ⟨p,h1,h2,h3,h4,?_⟩
  obtain ⟨r,hr,hc,ho⟩:=h2.is
  have hm:=hl r (List.mem_of_mem_take hr)
  obtain ⟨A,c,e,hcap,ht⟩:=h1.c
  have hlen:p.code.length = (Pl.code d q).length:=by rw [hc]; exact Pl.code_len_eq hd hm.1 hq hm.2
  have hpos:0 < p.code.length:=by
   rw [hlen,Pl.code_len]
   have:=(Pl.ord_ok hd hq).root
   have:=List.length_pos_of_mem this
   omega
  obtain ⟨b,o,cs,fr,hA,_⟩:=ht.2 hpos
  subst hA
  exact ⟨b,o,c,e,ht.row,hlen,hcap⟩
end Go.Proofs.Ytghdiolnonejaaa
end
section
namespace Go.Proofs.Ytghdiolnonejaaa
open Go Go.RowKit
attribute [local go_sem ↓] Go.wp_at_zero Go.wp_at_succ
theorem own_setNe {W:World} {base b n s:Nat} {e:TypeId} {v:Value} {xs:List Value} (h:W.ownsRow base e s v n xs) (hne:v.ownBlock ≠ some b) (o:Nat) (u:Value):(W.setCell ⟨b,o,none⟩ u).ownsRow base e s v n xs := by
 refine ⟨h.1,?_⟩
 rcases h.2 with hz | ⟨g,cap,cur,r1,r2,r3,r4⟩
 ·exact .inl hz
 ·refine .inr ⟨g,cap,cur,r1,r2,?_,r4⟩
  have hgb:g ≠ b:=fun e => hne (by rw [r1,e]; rfl)
  exact (Below.heap_setCell W ⟨b,o,none⟩ u g hgb).trans r3
def PcsV (W:World):List Value → List Pl.Pc → Prop
 | [],[] => True
 | vC :: vO :: .int .i64 x :: r,p :: ps => PcV W vC vO x p ∧ PcsV W r ps
 | _,_ => False
theorem PcsV.map {W W':World} (f:∀ {vC vO:Value} {x:Int} {p:Pl.Pc},PcV W vC vO x p → PcV W' vC vO x p):∀ {cs:List Value} {ps:List Pl.Pc},PcsV W cs ps → PcsV W' cs ps
 | [],[],_ => trivial
 | vC :: vO :: .int .i64 x :: r,p :: ps,h => ⟨f h.1,PcsV.map f h.2⟩
theorem PcsV.add {W:World} {vC vO:Value} {x:Int} {p:Pl.Pc} (hp:PcV W vC vO x p):∀ {cs:List Value} {ps:List Pl.Pc},PcsV W cs ps → PcsV W (cs ++ [vC,vO,.int .i64 x]) (ps ++ [p])
 | [],[],_ => ⟨hp,trivial⟩
 | vC' :: vO' :: .int .i64 x' :: r,p' :: ps,h => ⟨h.1,PcsV.add hp h.2⟩
structure GRf (d:Pl.Dg) (ls:List Int) (P:Nat) (A:Option Addr) (vs:List Value) (W:World):Prop where
 r:RowT W 22 A P vs
 v:Vs W vs ((List.range P).map (Gl ls d.n))
structure PL (w:World) (d:Pl.Dg) (ls:List Int) (P:Nat) (A:Option Addr) (vs dv:List Value) (j:Nat) (vL:Value) (cs:List Value) (ps:List Pl.Pc) (W:World):Prop where
 bx:Row W w.heap.size 24 dv
 gr:GRf d ls P A vs W
 own:W.ownsRow (w.heap.size + 1) 116 3 vL j cs
 pv:PcsV W cs ps
 len:ps.length = j
 is:∀ (i:Nat) (p:Pl.Pc),ps[i]? = some p → Pl.Lst5 d (Gl ls d.n i) p
 bel:Below w.heap.size w W
section
variable {w W W':World} {d:Pl.Dg} {ls:List Int} {P:Nat} {A:Option Addr} {vs dv:List Value} {j:Nat} {vL:Value} {cs:List Value} {ps:List Pl.Pc}
theorem PL.big (h:PL w d ls P A vs dv j vL cs ps W):w.heap.size + 1 ≤ W.heap.size := by have := h.bx.lt; omega
theorem PL.below (h:PL w d ls P A vs dv j vL cs ps W) (hb:Below W.heap.size W W'):PL w d ls P A vs dv j vL cs ps W' :=
 ⟨h.bx.below hb,⟨h.gr.r.keep hb,h.gr.v.below hb⟩,own_below h.own hb,h.pv.map (fun p => p.below hb),h.len,h.is,h.bel.trans (hb.mono h.bel.size)⟩
theorem PL.alloc (h:PL w d ls P A vs dv j vL cs ps W) (o:Obj):PL w d ls P A vs dv j vL cs ps (W.alloc o) := h.below ((Below.refl _ _).alloc (Nat.le_refl _) o)
theorem PL.setB (h:PL w d ls P A vs dv j vL cs ps W) {g:Nat} {us:List Value} (hr:Row W g 116 us) (hg:w.heap.size < g) (hne:vL.ownBlock ≠ some g) (o:Nat) (u:Value):PL w d ls P A vs dv j vL cs ps (W.setCell ⟨g,o,none⟩ u) :=
 ⟨h.bx.other (by show _ ≠ g; omega) _,⟨h.gr.r.store hr (by decide) u,h.gr.v.store hr (by decide) u⟩,own_setNe h.own hne o u,h.pv.map (fun p => p.store hr (by decide) u),h.len,h.is,h.bel.setCell (by show _ ≤ g; omega) _⟩
theorem PL.app (h:PL w d ls P A vs dv j vL cs ps W) {g c n:Nat} {vC vO:Value} {x:Int} {p:Pl.Pc} (own:W'.ownsRow (w.heap.size + 1) 116 3 (.slice (some ⟨g,0,none⟩) n c) n (cs ++ [vC,vO,.int .i64 x])) (gr:W.grownBy W' vL.ownBlock) (hn:n = j + 1) (hp:PcV W vC vO x p) (hi:Pl.Lst5 d (Gl ls d.n j) p) :
 PL w d ls P A vs dv n (.slice (some ⟨g,0,none⟩) n c) (cs ++ [vC,vO,.int .i64 x]) (ps ++ [p]) W' := by
 have hbk:=fun g (hg:vL.ownBlock = some g) => ownsRow_block h.own g hg
 refine ⟨h.bx.grown gr (fun e => ?_),⟨h.gr.r.grown gr hbk (by decide),h.gr.v.grown gr hbk (by decide)⟩,own,PcsV.add (hp.grown gr hbk (by decide)) (h.pv.map (fun q => q.grown gr hbk (by decide))),by rw [List.length_append,h.len,hn]; rfl,fun i q hq => ?_,h.bel.grown gr h.bel.size (fun k hk => by have := (h.own.lt k hk).1; omega)⟩
 ·have:=(h.own.lt _ e.symm).1
  omega
 ·rw [List.getElem?_append] at hq
  split at hq
  ·exact h.is i q hq
  ·have h1:=(List.getElem?_eq_some_iff.1 hq).1
   have h2:i = j:=by have := h.len; simp at h1; omega
   subst h2
   rw [h.len,Nat.sub_self] at hq
   injection hq with hq
   subst hq
   exact hi
end
end Go.Proofs.Ytghdiolnonejaaa
end
section
namespace Go.Proofs.Ytghdiolnonejaaa
open Go Go.RowKit
attribute [local go_sem ↓] Go.wp_at_zero Go.wp_at_succ
theorem PL.setB3 {w W:World} {d:Pl.Dg} {ls:List Int} {P:Nat} {A:Option Addr} {vs dv:List Value} {j:Nat} {vL:Value} {cs:List Value} {ps:List Pl.Pc} (h:PL w d ls P A vs dv j vL cs ps W) {g:Nat} {us:List Value} (hr:Row W g 116 us) (hg:w.heap.size < g) (hne:vL.ownBlock ≠ some g) (y0 y1 y2:Value) :
 PL w d ls P A vs dv j vL cs ps (((W.setCell ⟨g,0,none⟩ y0).setCell ⟨g,1,none⟩ y1).setCell ⟨g,2,none⟩ y2) :=
 ((h.setB hr hg hne 0 y0).setB (hr.set 0 y0) hg hne 1 y1).setB ((hr.set 0 y0).set 1 y1) hg hne 2 y2
theorem IntT.store3 {W:World} {v:Value} {xs:List Int} (h:IntT W v xs) {g:Nat} {us:List Value} (hr:Row W g 116 us) (y0 y1 y2:Value) :
 IntT (((W.setCell ⟨g,0,none⟩ y0).setCell ⟨g,1,none⟩ y1).setCell ⟨g,2,none⟩ y2) v xs :=
 ((h.store hr (by decide) y0).store (hr.set 0 y0) (by decide) y1).store ((hr.set 0 y0).set 1 y1) (by decide) y2
theorem own_natT {W:World} {base:Nat} {v:Value} {l:List Nat} (h:W.ownsRow base 3 1 v l.length (l.map (fun k:Nat => Value.int .i64 k))):IntT W v (nats l) := by
 refine own_intT (base := base) ?_
 rw [map_nats]
 have e:(nats l).length = l.length:=by unfold nats; simp
 rw [e]
 exact h
structure PI (w:World) (d:Pl.Dg) (ls:List Int) (P:Nat) (A:Option Addr) (vs dv:List Value) (j:Nat) (vL:Value) (cs:List Value) (ps:List Pl.Pc) (g6 k:Nat) (vC vO:Value) (x:Int) (W:World):Prop where
 p:PL w d ls P A vs dv j vL cs ps W
 r:Row W g6 116 [vC,vO,.int .i64 x]
 b:PBox d (Gl ls d.n j) k W vC vO x
 lo:w.heap.size < g6
 ne:vL.ownBlock ≠ some g6
section
variable {w W W':World} {d:Pl.Dg} {ls:List Int} {P:Nat} {A:Option Addr} {vs dv:List Value} {j g6 k:Nat} {vL vC vO:Value} {x:Int} {cs:List Value} {ps:List Pl.Pc}
theorem PI.below (h:PI w d ls P A vs dv j vL cs ps g6 k vC vO x W) (hb:Below W.heap.size W W'):PI w d ls P A vs dv j vL cs ps g6 k vC vO x W' :=
 ⟨h.p.below hb,h.r.below hb,h.b.below hb,h.lo,h.ne⟩
theorem PI.put (h:PI w d ls P A vs dv j vL cs ps g6 k vC vO x W) {p:Pl.Pc} {vC' vO':Value} (hp:PcV W vC' vO' 1 p) (hl:Pl.Lst5 d ((Gl ls d.n j).take (k + 1)) p) :
 PI w d ls P A vs dv j vL cs ps g6 (k + 1) vC' vO' 1 (((W.setCell ⟨g6,0,none⟩ vC').setCell ⟨g6,1,none⟩ vO').setCell ⟨g6,2,none⟩ (.int .i64 1)) :=
 ⟨h.p.setB3 h.r h.lo h.ne _ _ _,row3 h.r rfl _ _ _,.inr ⟨p,⟨hp.c.store3 h.r _ _ _,hp.o.store3 h.r _ _ _,hp.r⟩,hl,by omega,by omega⟩,h.lo,h.ne⟩
theorem PI.more (h:PI w d ls P A vs dv j vL cs ps g6 k vC vO x W) {p:Pl.Pc} (hp:PcV W vC vO x p) (hl:Pl.Lst5 d ((Gl ls d.n j).take (k + 1)) ⟨p.code,p.order,x + 1⟩) (h0:0 ≤ x) (h1:x ≤ k) :
 PI w d ls P A vs dv j vL cs ps g6 (k + 1) vC vO (x + 1) (W.setCell ⟨g6,2,none⟩ (.int .i64 (x + 1))) :=
 ⟨h.p.setB h.r h.lo h.ne _ _,h.r.set 2 (.int .i64 (x + 1)),.inr ⟨⟨p.code,p.order,x + 1⟩,⟨hp.c.store h.r (by decide) _,hp.o.store h.r (by decide) _,rfl⟩,hl,by omega,by omega⟩,h.lo,h.ne⟩
theorem PI.skip (h:PI w d ls P A vs dv j vL cs ps g6 k vC vO x W) {p:Pl.Pc} (hp:PcV W vC vO x p) (hl:Pl.Lst5 d ((Gl ls d.n j).take (k + 1)) ⟨p.code,p.order,x⟩) (h0:0 ≤ x) (h1:x ≤ k) :
 PI w d ls P A vs dv j vL cs ps g6 (k + 1) vC vO x W :=
 ⟨h.p,h.r,.inr ⟨⟨p.code,p.order,x⟩,⟨hp.c,hp.o,rfl⟩,hl,by omega,by omega⟩,h.lo,h.ne⟩
end
theorem gl_comp {d:Pl.Dg} {ls:List Int} {P:Nat} (h:Pl.LB d ls P) (hp:∀ a,a < d.n → 0 ≤ Pl.pv ls a) {j a b:Nat} (ha:a ∈ Gl ls d.n j) (hb:b ∈ Gl ls d.n j):a < d.n ∧ Pl.Comp d a b := by
 rw [mem_Gl] at ha hb
 exact ⟨ha.1,h.conn a b ha.1 hb.1 (hp a ha.1) (by rw [ha.2,hb.2])⟩
theorem gl_at {P j:Nat} (ls:List Int) (n:Nat) (hj:j < P):((List.range P).map (Gl ls n))[j]? = some (Gl ls n j) := by
 rw [List.getElem?_map,List.getElem?_range hj]; rfl
end Go.Proofs.Ytghdiolnonejaaa
end
section
namespace Go.Proofs.Ytghdiolnonejaaa
open Go Go.RowKit
attribute [local go_sem ↓] Go.wp_at_zero Go.wp_at_succ
def cmpP (p q:Pl.Pc):Int := if p.order.length = q.order.length then Pl.lx p.code q.code else (p.order.length:Int) - (q.order.length:Int)
set_option maxRecDepth 100000 in
set_option maxHeartbeats 2000000 in
theorem cmp_pieces (vC vO vC' vO':Value) (x x':Int) (p q:Pl.Pc) (w:World) (hp:PcV w vC vO x p) (hq:PcV w vC' vO' x' q) (lp:p.order.length ≤ 64) (lq:q.order.length ≤ 64) (cp:p.code.length ≤ 320) (cq:q.code.length ≤ 320) :
 Calls Try.prog 140 #[.agg #[vC,vO,.int .i64 x],.agg #[vC',vO',.int .i64 x']] w fun e w' => e = .returned (.int .i64 (cmpP p q)) ∧ Below w.heap.size w w' := by
 obtain ⟨A1,e1,h1,h1c,h1b⟩:=hp.c
 obtain ⟨A2,e2,h2,_,h2b⟩:=hp.o
 obtain ⟨A3,e3,h3,h3c,h3b⟩:=hq.c
 obtain ⟨A4,e4,h4,_,h4b⟩:=hq.o
 subst h1; subst h2; subst h3; subst h4
 rw [nats_len,nats_len]
 have H1:=hide (show IntsAt w A1 p.code.length p.code from h1b.row)
 have H3:=hide (show IntsAt w A3 q.code.length q.code from h3b.row)
 clear h1b h2b h3b h4b hp hq h1c h3c
 obtain ⟨m,hm⟩:∃ m,m = p.order.length := ⟨_,rfl⟩
 obtain ⟨n,hn⟩:∃ n,n = q.order.length := ⟨_,rfl⟩
 have HMN:=hide (show cmpP p q = if m = n then Pl.lx p.code q.code else (m:Int) - (n:Int) by unfold cmpP; rw [hm,hn])
 rw [← hm,← hn]
 rw [← hm] at lp
 rw [← hn] at lq
 clear hm hn
 have B0:=hide (show Below w.heap.size w ((w.alloc (.cells #[.slice A1 p.code.length e1,.slice A2 m e2,.int .i64 x] 116)).alloc (.cells #[.slice A3 q.code.length e3,.slice A4 n e4,.int .i64 x'] 116)) from ((Below.refl _ _).alloc (Nat.le_refl _) _).alloc (by simp) _)
 by_cases he:m = n
 ·subst he
  have HR:=hide (show cmpP p q = Pl.lx p.code q.code by rw [HMN.out,if_pos rfl])
  go_enter Try.func140,Try.ntmps140
  go_wp2_with fail
  refine (compare_any p.code q.code A1 A3 _ _ e1 e3 _ (H1.out.keep B0.out) (H3.out.keep B0.out) (by omega) (by omega)).mono ?_
  rintro e w1 ⟨rfl,rfl⟩
  go_wp2
  go_ret
  exact ⟨by rw [HR.out]; rfl,B0.out⟩
 ·have HR:=hide (show cmpP p q = (m:Int) - (n:Int) by rw [HMN.out,if_neg he])
  have hei:¬ ((m:Int) = (n:Int)):=by omega
  have heb:((m:Int) != (n:Int)) = true:=by rw [bne_iff_ne]; exact hei
  clear he
  go_enter Try.func140,Try.ntmps140
  go_wp2
  go_ret
  exact ⟨ret_int (by rw [HR.out]),B0.out⟩
end Go.Proofs.Ytghdiolnonejaaa
end
section
namespace Go.Proofs.Ytghdiolnonejaaa.Pl
def leP (p q:Pc):Prop := kle p.code q.code
theorem leP_trans {p q r:Pc} (h:leP p q) (h':leP q r):leP p r := kle_trans h h'
theorem leP_total (p q:Pc):leP p q ∨ leP q p := kle_total _ _
structure Ins (qs ps:List Pc) (i j:Nat):Prop where
 ex:∃ (pre:List Pc) (x:Pc) (mid suf:List Pc),ps = pre ++ x :: (mid ++ suf) ∧ pre.length = j ∧ pre.length + mid.length = i ∧ (pre ++ mid).Pairwise leP ∧ ∀ m,m ∈ mid → leP x m
 perm:ps.Perm qs
theorem Ins.start {qs ps:List Pc} {i:Nat} (hp:ps.Perm qs) (hs:(ps.take i).Pairwise leP) (hi:i < ps.length):Ins qs ps i i := by
 refine ⟨⟨ps.take i,ps[i],[],ps.drop (i + 1),?_,by rw [List.length_take]; omega,by rw [List.length_take]; simp; omega,by simpa using hs,fun m h => by simp at h⟩,hp⟩
 rw [List.nil_append,← List.drop_eq_getElem_cons hi,List.take_append_drop]
theorem snoc_of {l:List Pc} {j:Nat} (h:l.length = j + 1):∃ (l':List Pc) (y:Pc),l = l' ++ [y] ∧ l'.length = j := by
 have hne:l ≠ []:=by intro e; rw [e] at h; simp at h
 refine ⟨l.dropLast,l.getLast hne,(List.dropLast_concat_getLast hne).symm,by rw [List.length_dropLast]; omega⟩
theorem get_mid {a:List Pc} {x:Pc} {b:List Pc} {j:Nat} (h:a.length = j):(a ++ x :: b)[j]? = some x := by
 subst h
 rw [List.getElem?_append_right (Nat.le_refl _),Nat.sub_self]; rfl
theorem Ins.step {qs ps:List Pc} {i j:Nat} (h:Ins qs ps i (j + 1)) {x y:Pc} (hx:ps[j + 1]? = some x) (hy:ps[j]? = some y) (hn:¬ leP y x):Ins qs ((ps.set (j + 1) y).set j x) i j := by
 obtain ⟨pre,x',mid,suf,e,h1,h2,h3,h4⟩:=h.ex
 obtain ⟨l,y',rfl,hl⟩:=snoc_of h1
 rw [e,get_mid h1] at hx
 injection hx with hx
 subst hx
 have e2:l ++ [y'] ++ x' :: (mid ++ suf) = l ++ y' :: x' :: (mid ++ suf):=by simp
 rw [e,e2,get_mid hl] at hy
 injection hy with hy
 subst hy
 have e3:(ps.set (j + 1) y').set j x' = l ++ x' :: (y' :: mid ++ suf):=by
  rw [e,e2,List.set_append_right _ _ (by omega),List.set_append_right _ _ (by omega),hl,show j + 1 - j = 1 by omega,Nat.sub_self]
  rfl
 have hle:leP x' y':=(leP_total x' y').resolve_right hn
 refine ⟨⟨l,x',y' :: mid,suf,e3,hl,by simp at h2 ⊢; omega,by simpa using h3,fun m hm => ?_⟩,?_⟩
 ·rcases List.mem_cons.1 hm with rfl | hm
  ·exact hle
  ·exact h4 m hm
 ·rw [e3]
  refine List.Perm.trans ?_ h.perm
  rw [e,e2]
  exact List.Perm.append_left _ (List.Perm.swap _ _ _)
theorem Ins.stop {qs ps:List Pc} {i j:Nat} (h:Ins qs ps i j) (hs:j = 0 ∨ ∃ x y,ps[j]? = some x ∧ ps[j - 1]? = some y ∧ leP y x):(ps.take (i + 1)).Pairwise leP := by
 obtain ⟨pre,x,mid,suf,e,h1,h2,h3,h4⟩:=h.ex
 have ht:ps.take (i + 1) = pre ++ x :: mid:=by
  have e2:pre ++ x :: (mid ++ suf) = (pre ++ x :: mid) ++ suf:=by simp
  rw [e,e2,List.take_append_of_le_length (by simp; omega),List.take_of_length_le (by simp; omega)]
 have hpre:∀ a,a ∈ pre → leP a x:=by
  intro a ha
  rcases hs with h0 | ⟨x',y,hx,hy,hle⟩
  ·rw [h0] at h1
   rw [List.eq_nil_of_length_eq_zero h1] at ha
   simp at ha
  ·rw [e,get_mid h1] at hx
   injection hx with hx
   subst hx
   cases j with
   | zero => rw [List.eq_nil_of_length_eq_zero h1] at ha; simp at ha
   | succ j =>
     obtain ⟨l,y',rfl,hl⟩:=snoc_of h1
     have e2:l ++ [y'] ++ x :: (mid ++ suf) = l ++ y' :: x :: (mid ++ suf):=by simp
     rw [e,e2,show j + 1 - 1 = j by omega,get_mid hl] at hy
     injection hy with hy
     subst hy
     rcases List.mem_append.1 ha with ha | ha
     ·have h5:(l ++ y' :: mid).Pairwise leP:=by simpa using h3
      exact leP_trans ((List.pairwise_append.1 h5).2.2 a ha y' (by simp)) hle
     ·obtain rfl:a = y' := by simpa using ha
      exact hle
 rw [ht]
 have h6:=List.pairwise_append.1 h3
 refine List.pairwise_append.2 ⟨h6.1,List.pairwise_cons.2 ⟨h4,h6.2.1⟩,fun a ha b hb => ?_⟩
 rcases List.mem_cons.1 hb with rfl | hb
 ·exact hpre a ha
 ·exact h6.2.2 a ha b hb
end Go.Proofs.Ytghdiolnonejaaa.Pl
end
section
namespace Go.Proofs.Ytghdiolnonejaaa
open Go Go.RowKit
attribute [local go_sem ↓] Go.wp_at_zero Go.wp_at_succ
theorem cmp_kle {p q:Pl.Pc} (hp:p.code.length = 5 * p.order.length) (hq:q.code.length = 5 * q.order.length):cmpP p q < 0 ↔ ¬ Pl.leP q p := by
 unfold cmpP Pl.leP Pl.kle
 by_cases h:p.order.length = q.order.length
 ·rw [if_pos h]
  have:=Pl.lx_neg p.code q.code
  constructor
  ·rintro h1 (h2 | ⟨_,h2⟩) <;> omega
  ·intro h1
   rcases Int.lt_or_le (Pl.lx p.code q.code) 0 with h2 | h2
   ·exact h2
   ·exact absurd (.inr ⟨by omega,by omega⟩) h1
 ·rw [if_neg h]
  constructor
  ·rintro h1 (h2 | ⟨h2,_⟩) <;> omega
  ·intro h1
   rcases Nat.lt_or_ge p.order.length q.order.length with h2 | h2
   ·omega
   ·exact absurd (.inl (by omega)) h1
theorem PcsV.at_ {W:World}:∀ {cs:List Value} {ps:List Pl.Pc},PcsV W cs ps → ∀ {j:Nat} {p:Pl.Pc},ps[j]? = some p → ∃ vC vO x,PcV W vC vO x p ∧ cs[j * 3]? = some vC ∧ cs[j * 3 + 1]? = some vO ∧ cs[j * 3 + 2]? = some (.int .i64 x)
 | [],[],_,j,p,h => by simp at h
 | vC :: vO :: .int .i64 x :: r, q :: ps, hv, 0, p, h => by
   obtain rfl:q = p := by simpa using h
   exact ⟨vC,vO,x,hv.1,rfl,rfl,rfl⟩
 | vC :: vO :: .int .i64 x :: r, q :: ps, hv, j + 1, p, h => by
   obtain ⟨a,b,y,h1,h2,h3,h4⟩:=PcsV.at_ hv.2 (j := j) (p := p) (by simpa using h)
   refine ⟨a,b,y,h1,?_,?_,?_⟩
   ·rw [show (j + 1) * 3 = j * 3 + 3 by omega]; exact h2
   ·rw [show (j + 1) * 3 + 1 = j * 3 + 1 + 3 by omega]; exact h3
   ·rw [show (j + 1) * 3 + 2 = j * 3 + 2 + 3 by omega]; exact h4
theorem PcsV.put {W:World} {vC vO:Value} {x:Int} {p:Pl.Pc} (hp:PcV W vC vO x p):∀ {cs:List Value} {ps:List Pl.Pc},PcsV W cs ps → ∀ (j:Nat),j < ps.length → PcsV W (((cs.set (j * 3) vC).set (j * 3 + 1) vO).set (j * 3 + 2) (.int .i64 x)) (ps.set j p)
 | [],[],_,j,h => by simp at h
 | vC' :: vO' :: .int .i64 x' :: r,q :: ps,hv,0,h => ⟨hp,hv.2⟩
 | vC' :: vO' :: .int .i64 x' :: r, q :: ps, hv, j + 1, h => by
   have ih:=PcsV.put hp hv.2 j (by simpa using h)
   rw [show (j + 1) * 3 = j * 3 + 3 by omega,show j * 3 + 3 + 1 = (j * 3 + 1) + 3 by omega,show j * 3 + 3 + 2 = (j * 3 + 2) + 3 by omega]
   exact ⟨hv.1,ih⟩
end Go.Proofs.Ytghdiolnonejaaa
end
section
namespace Go.Proofs.Ytghdiolnonejaaa
open Go Go.RowKit
attribute [local go_sem ↓] Go.wp_at_zero Go.wp_at_succ
structure SI (base:Nat) (w:World) (A:Option Addr) (n c:Nat) (cs:List Value) (ps:List Pl.Pc) (W:World):Prop where
 own:W.ownsRow base 116 3 (.slice A n c) n cs
 pv:PcsV W cs ps
 len:ps.length = n
 bel:Below base w W
 big:base ≤ W.heap.size
theorem SI.below {base:Nat} {w W W':World} {A:Option Addr} {n c:Nat} {cs:List Value} {ps:List Pl.Pc} (h:SI base w A n c cs ps W) (hb:Below W.heap.size W W'):SI base w A n c cs ps W' :=
 ⟨own_below h.own hb,h.pv.map (fun p => p.below hb),h.len,h.bel.trans (hb.mono h.big),Nat.le_trans h.big hb.size⟩
theorem own_free {W:World} {base s g n c:Nat} {e:TypeId} {xs:List Value} (h:W.ownsRow base e s (.slice (some ⟨g,0,none⟩) n c) n xs):∀ o,W.frozen? ⟨g,o,none⟩ = false := by
 rcases h.2 with ⟨h1,_⟩ | ⟨g',cap,cur,h1,_,h3,_⟩
 ·cases h1
 ·injection h1 with h1
  injection h1 with h1
  injection h1 with h1
  subst h1
  exact Row.free (t := e) (vs := cur.toList) (show W.heap[g]? = _ by rw [h3])
theorem own_setIn {W:World} {base s g n c k:Nat} {e:TypeId} {xs:List Value} (h:W.ownsRow base e s (.slice (some ⟨g,0,none⟩) n c) n xs) (v:Value):(W.setCell ⟨g,k,none⟩ v).ownsRow base e s (.slice (some ⟨g,0,none⟩) n c) n (xs.set k v) := by
 refine ⟨by rw [List.length_set]; exact h.1,?_⟩
 rcases h.2 with ⟨h1,_⟩ | ⟨g',cap,cur,h1,h2,h3,h4,h5,h6,h7⟩
 ·cases h1
 ·injection h1 with h1 h1b h1c
  injection h1 with h1
  injection h1 with h1
  subst h1
  have hr:Row W g e cur.toList:=by show W.heap[g]? = _; rw [h3]
  have hs:=hr.set k v
  refine .inr ⟨g,cap,(cur.toList.set k v).toArray,by rw [h1c],h2,hs,h4,h5,by simp; exact h6,?_⟩
  simp only [List.toList_toArray]
  rw [List.take_set,h7]
def PcSz (p:Pl.Pc):Prop := p.order.length ≤ 64 ∧ p.code.length = 5 * p.order.length
theorem own_rowE {W:World} {base s g n c:Nat} {e:TypeId} {xs:List Value} (h:W.ownsRow base e s (.slice (some ⟨g,0,none⟩) n c) n xs):base ≤ g ∧ ∃ us,Row W g e us := by
 rcases h.2 with ⟨h1,_⟩ | ⟨g',cap,cur,h1,h2,h3,_⟩
 ·cases h1
 ·injection h1 with h1
  injection h1 with h1
  injection h1 with h1
  subst h1
  exact ⟨h2,cur.toList,by show W.heap[g]? = _; rw [h3]⟩
theorem PcV.store3 {W:World} {vC vO:Value} {x:Int} {p:Pl.Pc} (h:PcV W vC vO x p) {g:Nat} {us:List Value} (hr:Row W g 116 us) (a b c:Nat) (y0 y1 y2:Value) :
 PcV (((W.setCell ⟨g,a,none⟩ y0).setCell ⟨g,b,none⟩ y1).setCell ⟨g,c,none⟩ y2) vC vO x p :=
 ((h.store hr (by decide) y0).store (hr.set a y0) (by decide) y1).store ((hr.set a y0).set b y1) (by decide) y2
theorem SI.set3 {base g n c:Nat} {w W:World} {cs:List Value} {ps:List Pl.Pc} (h:SI base w (some ⟨g,0,none⟩) n c cs ps W) {vC vO:Value} {x:Int} {p:Pl.Pc} (hp:PcV W vC vO x p) {j:Nat} (hj:j < ps.length) :
 SI base w (some ⟨g,0,none⟩) n c (((cs.set (j * 3) vC).set (j * 3 + 1) vO).set (j * 3 + 2) (.int .i64 x)) (ps.set j p) (((W.setCell ⟨g,j * 3,none⟩ vC).setCell ⟨g,j * 3 + 1,none⟩ vO).setCell ⟨g,j * 3 + 2,none⟩ (.int .i64 x)) := by
 obtain ⟨hb,us,hr⟩:=own_rowE h.own
 exact ⟨own_setIn (own_setIn (own_setIn h.own _) _) _,PcsV.put (hp.store3 hr _ _ _ _ _ _) (h.pv.map (fun q => q.store3 hr _ _ _ _ _ _)) j hj,by rw [List.length_set]; exact h.len,((h.bel.setCell (by show _ ≤ g; exact hb) _).setCell (by show _ ≤ g; exact hb) _).setCell (by show _ ≤ g; exact hb) _,by simpa using h.big⟩
set_option maxRecDepth 100000 in
set_option maxHeartbeats 8000000 in
theorem isort_any (base:Nat) (A:Option Addr) (n c:Nat) (cs:List Value) (qs:List Pl.Pc) (w:World) (h0:SI base w A n c cs qs w) (hsz:∀ p,p ∈ qs → PcSz p) (hn:n ≤ 64) :
 Calls Try.prog 150 #[.slice A n c,.int .i64 0,.int .i64 (n:Int),.func (.func 140) #[] #[]] w fun e w' => (∃ v,e = .returned v) ∧ ∃ cs' ps',SI base w A n c cs' ps' w' ∧ ps'.Perm qs ∧ ps'.Pairwise Pl.leP := by
 have H0:=hide h0
 have HSZ:=hide hsz
 clear h0 hsz
 obtain ⟨N,hN1,hN2,hN3⟩:∃ N,n ≤ N ∧ 1 ≤ N ∧ N ≤ 64 := ⟨max n 1,by omega,by omega,by omega⟩
 go_enter Try.func150,Try.ntmps150
 go_wp2
 go_loopg [8,9] (N - 1) (fun g s8 s9 wx => ∃ (i:Nat) (cs:List Value) (ps:List Pl.Pc),i + g = N ∧ s8 = .int .i64 (i:Int) ∧ SI base w A n c cs ps wx ∧ ps.Perm qs ∧ (ps.take i).Pairwise Pl.leP)
 case atStart => exact ⟨1,cs,qs,by omega,rfl,H0.out,List.Perm.refl _,by
  cases qs with
  | nil => simp
  | cons a l => simp⟩
 case round =>
  clear H0
  obtain ⟨i,cs,ps,hig,rfl,hk,hpm,hso⟩:=hrel
  have HIG:=hide hig
  have K0:=hide hk
  have HPM:=hide hpm
  have HSO:=hide hso
  have hin:i ≤ N:=by omega
  clear hk hpm hso
  obtain ⟨go,rfl⟩:∃ go,go = gk := ⟨_,rfl⟩
  by_cases hi:i < n
  ·have hii:(i:Int) < (n:Int):=by omega
   have I0:=hide (Pl.Ins.start HPM.out HSO.out (by rw [K0.out.len]; exact hi))
   clear hig
   go_wp2_with fail
   go_loopg [9] i (fun g s9 wx => ∃ (j:Nat) (cs:List Value) (ps:List Pl.Pc),j = g ∧ s9 = .int .i64 (j:Int) ∧ SI base w A n c cs ps wx ∧ Pl.Ins qs ps i j)
   case atStart => exact ⟨i,_,_,rfl,rfl,K0.out,I0.out⟩
   case round =>
    clear I0 K0 HSO HPM
    obtain ⟨j,cs,ps,hjg,rfl,hk,hins⟩:=hrel
    have HJG:=hide hjg
    have K0:=hide hk
    have HI:=hide hins
    clear hk hins hjg
    have hnA:0 < n:=by omega
    obtain ⟨g,cap,hA,hcap,hgl⟩:=World.ownsRow.form K0.out.own hnA
    injection hA with hA _ hcc
    subst hA
    subst hcc
    by_cases hj0:j = 0
    ·subst hj0
     have HST:=hide (HI.out.stop (.inl rfl))
     have hz:¬ ((0:Int) < ((0:Nat):Int)):=by omega
     go_upto_region 4 with fail
     go_quiet (fail)
     go_wp2
     go_roundg (go - 1)
     case measure => have := HIG.out; omega
     case rel => exact ⟨i + 1,cs,ps,by have := HIG.out; omega,by go_num,K0.out.below (below_drewN (Below.refl _ _) _),HI.out.perm,HST.out⟩
    ·obtain ⟨k,rfl⟩:∃ k,j = k + 1 := ⟨j - 1,by omega⟩
     clear hj0
     obtain ⟨pre,x0,mid,suf,he1,he2,he3,_,_⟩:=HI.out.ex
     have hlen:k + 1 < ps.length:=by rw [he1]; simp; omega
     have hkn:k + 1 < n:=by rw [← K0.out.len]; exact hlen
     clear he1 he2 he3
     obtain ⟨x,hx⟩:∃ x,ps[k + 1]? = some x := ⟨_,List.getElem?_eq_getElem hlen⟩
     obtain ⟨y,hy⟩:∃ y,ps[k]? = some y := ⟨_,List.getElem?_eq_getElem (by omega)⟩
     have hsx:=HSZ.out x (HI.out.perm.mem_iff.1 (List.mem_of_getElem? hx))
     have hsy:=HSZ.out y (HI.out.perm.mem_iff.1 (List.mem_of_getElem? hy))
     obtain ⟨a0,a1,a2,hpx,ca0,ca1,ca2⟩:=K0.out.pv.at_ hx
     obtain ⟨b0,b1,b2,hpy,cb0,cb1,cb2⟩:=K0.out.pv.at_ hy
     have HX:=hide hx
     have HY:=hide hy
     have HPX:=hide hpx
     have HPY:=hide hpy
     have CA:=fun (t:Nat) (u:Value) (ht:(k + 1) * 3 + t < n * 3) (e:cs[(k + 1) * 3 + t]? = some u) => (show wr.cell? ⟨g,(k + 1) * 3 + t,none⟩ = some u by rw [World.ownsRow.cellAt K0.out.own _ ht]; exact e)
     have CB:=fun (t:Nat) (u:Value) (ht:k * 3 + t < n * 3) (e:cs[k * 3 + t]? = some u) => (show wr.cell? ⟨g,k * 3 + t,none⟩ = some u by rw [World.ownsRow.cellAt K0.out.own _ ht]; exact e)
     have x0:=CA 0 a0 (by omega) ca0
     have x1:=CA 1 a1 (by omega) ca1
     have x2:=CA 2 _ (by omega) ca2
     have y0:=CB 0 b0 (by omega) cb0
     have y1:=CB 1 b1 (by omega) cb1
     have y2:=CB 2 _ (by omega) cb2
     rw [Nat.add_zero] at x0 y0
     clear CA CB ca0 ca1 ca2 cb0 cb1 cb2 hx hy
     obtain ⟨v,hv⟩:∃ v,v = cmpP x y := ⟨_,rfl⟩
     have HV:=hide hv
     have HCM:=hide (fun (p:Cls (fun W => Below wr.heap.size wr W)) => calls_cls (C := (fun W => Below wr.heap.size wr W)) (cmp_pieces a0 a1 b0 b1 a2 b2 x y p.w (HPX.out.below p.ok) (HPY.out.below p.ok) hsx.1 hsy.1 (by rw [hsx.2]; have := hsx.1; omega) (by rw [hsy.2]; have := hsy.1; omega)) (fun e w' h => ⟨h.1,p.ok.trans (h.2.mono p.ok.size)⟩))
     have HKL:=hide (cmp_kle hsx.2 hsy.2)
     rw [← hv] at HCM HKL
     clear hpx hpy hsx hsy hv
     go_upto_region 4 with fail
     by_cases hv0:v < 0
     ·have hvb:decide (v < 0) = true:=decide_eq_true hv0
      have hkp:(0:Int) < (k:Int) + 1:=by omega
      have c0:∀ p:Cls (fun W => Below wr.heap.size wr W),p.w.cell? ⟨g,(k + 1) * 3,none⟩ = some a0:=fun p => cell_below x0 p.ok
      have c1:∀ p:Cls (fun W => Below wr.heap.size wr W),p.w.cell? ⟨g,(k + 1) * 3 + 1,none⟩ = some a1:=fun p => cell_below x1 p.ok
      have c2:∀ p:Cls (fun W => Below wr.heap.size wr W),p.w.cell? ⟨g,(k + 1) * 3 + 2,none⟩ = some (.int .i64 a2):=fun p => cell_below x2 p.ok
      have c3:∀ p:Cls (fun W => Below wr.heap.size wr W),p.w.cell? ⟨g,k * 3,none⟩ = some b0:=fun p => cell_below y0 p.ok
      have c4:∀ p:Cls (fun W => Below wr.heap.size wr W),p.w.cell? ⟨g,k * 3 + 1,none⟩ = some b1:=fun p => cell_below y1 p.ok
      have c5:∀ p:Cls (fun W => Below wr.heap.size wr W),p.w.cell? ⟨g,k * 3 + 2,none⟩ = some (.int .i64 b2):=fun p => cell_below y2 p.ok
      refine wp_region_cls (fun W => Below wr.heap.size wr W) (by kernel_rfl) (by kernel_rfl) (Below.refl wr.heap.size wr).drew (fun hne => ?_)
      repeat (go_big_quiet_step (((go_at_call 140; exact HCM.out _))))
      refine wpQuiet_nil ?_
      rintro _ ⟨p,rfl⟩
      have K1:=hide (K0.out.below p.ok)
      have HPX1:=hide (HPX.out.below p.ok)
      have HPY1:=hide (HPY.out.below p.ok)
      have q0:=c0 p
      have q1:=c1 p
      have q2:=c2 p
      have q3:=c3 p
      have q4:=c4 p
      have q5:=c5 p
      have fz:∀ o,p.w.frozen? ⟨g,o,none⟩ = false:=own_free K1.out.own
      clear c0 c1 c2 c3 c4 c5 x0 x1 x2 y0 y1 y2 HCM K0 HPX HPY
      obtain ⟨D0,e0,h0,h0b⟩:=HPX1.out.c
      obtain ⟨D1,e1,h1,h1b⟩:=HPX1.out.o
      obtain ⟨E0,i0,h2,h2b⟩:=HPY1.out.c
      obtain ⟨E1,i1,h3,h3b⟩:=HPY1.out.o
      subst h0
      subst h1
      subst h2
      subst h3
      clear h0b h1b h2b h3b
      obtain ⟨V,hV⟩:∃ V,V = p.w := ⟨_,rfl⟩
      rw [← hV] at K1 HPX1 HPY1 q0 q1 q2 q3 q4 q5 fz ⊢
      have INS:=hide (HI.out.step HX.out HY.out (HKL.out.1 hv0))
      clear hV HI hv0 hvb
      go_upto_region 6 with fail
      go_region
      all_goals (go_wp2_with fail)
      go_roundg (gk - 1)
      case measure => have := HJG.out; omega
      case rel =>
       obtain ⟨_,us,hr⟩:=own_rowE K1.out.own
       have F1:=K1.out.set3 HPY1.out hlen
       have F2:=F1.set3 (HPX1.out.store3 hr _ _ _ _ _ _) (j := k) (by rw [List.length_set]; omega)
       exact ⟨k,_,_,by have := HJG.out; omega,rfl,F2.below (Below.refl _ _).drew,INS.out⟩
     ·have hvb:decide (v < 0) = false:=decide_eq_false hv0
      have hkp:(0:Int) < (k:Int) + 1:=by omega
      have HST:=hide (HI.out.stop (.inr ⟨x,y,HX.out,HY.out,by
       rcases Classical.em (Pl.leP y x) with h | h
       ·exact h
       ·exact absurd (HKL.out.2 h) hv0⟩))
      have c0:∀ p:Cls (fun W => Below wr.heap.size wr W),p.w.cell? ⟨g,(k + 1) * 3,none⟩ = some a0:=fun p => cell_below x0 p.ok
      have c1:∀ p:Cls (fun W => Below wr.heap.size wr W),p.w.cell? ⟨g,(k + 1) * 3 + 1,none⟩ = some a1:=fun p => cell_below x1 p.ok
      have c2:∀ p:Cls (fun W => Below wr.heap.size wr W),p.w.cell? ⟨g,(k + 1) * 3 + 2,none⟩ = some (.int .i64 a2):=fun p => cell_below x2 p.ok
      have c3:∀ p:Cls (fun W => Below wr.heap.size wr W),p.w.cell? ⟨g,k * 3,none⟩ = some b0:=fun p => cell_below y0 p.ok
      have c4:∀ p:Cls (fun W => Below wr.heap.size wr W),p.w.cell? ⟨g,k * 3 + 1,none⟩ = some b1:=fun p => cell_below y1 p.ok
      have c5:∀ p:Cls (fun W => Below wr.heap.size wr W),p.w.cell? ⟨g,k * 3 + 2,none⟩ = some (.int .i64 b2):=fun p => cell_below y2 p.ok
      refine wp_region_cls (fun W => Below wr.heap.size wr W) (by kernel_rfl) (by kernel_rfl) (Below.refl wr.heap.size wr).drew (fun hne => ?_)
      repeat (go_big_quiet_step (((go_at_call 140; exact HCM.out _))))
      refine wpQuiet_nil ?_
      rintro _ ⟨p,rfl⟩
      clear c0 c1 c2 c3 c4 c5 x0 x1 x2 y0 y1 y2 HCM
      go_wp2
      go_roundg (go - 1)
      case measure => have := HIG.out; omega
      case rel => exact ⟨i + 1,cs,ps,by have := HIG.out; omega,by go_num,K0.out.below p.ok,HI.out.perm,HST.out⟩
  ·have hii:¬ ((i:Int) < (n:Int)):=by omega
   have HE:=hide (show ps.Pairwise Pl.leP by
    have h:=HSO.out
    rw [List.take_of_length_le (by rw [K0.out.len]; omega)] at h
    exact h)
   clear hig
   go_wp2
   exact bodyPost_end (by simp [results,Try.results150,go_sem]; rfl) rfl ⟨⟨_,rfl⟩,_,_,K0.out,HPM.out,HE.out⟩
end Go.Proofs.Ytghdiolnonejaaa
end
section
namespace Go.Proofs.Ytghdiolnonejaaa
open Go Go.RowKit
theorem lst5_ok {d:Pl.Dg} (hd:Pl.Wf d) {ls:List Int} {P:Nat} (hL:Pl.LB d ls P) (hp:∀ a,a < d.n → 0 ≤ Pl.pv ls a) {i:Nat} {p:Pl.Pc} (h:Pl.Lst5 d (Gl ls d.n i) p):Pl.PcOk d p ∧ ∀ c,c ∈ p.order ↔ c < d.n ∧ Pl.pv ls c = (i:Int) := by
 obtain ⟨r,h1,h2,h3⟩:=h.is
 obtain ⟨hr,hri⟩:=mem_Gl.1 h1
 have key:∀ c,c < d.n → (Pl.pv ls c = (i:Int) ↔ Pl.Comp d r c):=fun c hc => by
  constructor
  ·intro e
   exact hL.conn r c hr hc (hp r hr) (by rw [hri,e])
  ·intro e
   rw [hL.same r c hr e (hp r hr),hri]
 refine ⟨h.ok hd hr (fun c => ?_),fun c => ?_⟩
 ·rw [mem_Gl]
  constructor
  ·rintro ⟨hc,e⟩
   exact ⟨hc,(key c hc).1 e⟩
  ·rintro ⟨hc,e⟩
   exact ⟨hc,(key c hc).2 e⟩
 ·rw [h3,Pl.ord_mem hd hr]
  constructor
  ·intro e
   have hc:c < d.n:=((Pl.ord_ok hd hr).mem c ((Pl.ord_mem hd hr c).2 e)).1
   exact ⟨hc,(key c hc).2 e⟩
  ·rintro ⟨hc,e⟩
   exact (key c hc).1 e
theorem pcs_groups {d:Pl.Dg} (hd:Pl.Wf d) {ls:List Int} {P:Nat} (hL:Pl.LB d ls P) (hp:∀ a,a < d.n → 0 ≤ Pl.pv ls a) {ps:List Pl.Pc} (hlen:ps.length = P) (his:∀ (i:Nat) (p:Pl.Pc),ps[i]? = some p → Pl.Lst5 d (Gl ls d.n i) p):Pl.Pcs d ps := by
 have hok:∀ p,p ∈ ps → Pl.PcOk d p:=fun p hm => by
  obtain ⟨i,hi,rfl⟩:=List.getElem_of_mem hm
  exact (lst5_ok hd hL hp (his i _ (List.getElem?_eq_getElem hi))).1
 refine ⟨hok,?_,fun c hc => ?_⟩
 ·refine List.pairwise_flatMap.2 ⟨fun p hm => ?_,?_⟩
  ·obtain ⟨r,hr,_,e,_⟩:=hok p hm
   rw [e]; exact (Pl.ord_ok hd hr).nd
  ·rw [List.pairwise_iff_getElem]
   intro i j hi hj hij x hx y hy e
   subst e
   have h1:=((lst5_ok hd hL hp (his i _ (List.getElem?_eq_getElem hi))).2 x).1 hx
   have h2:=((lst5_ok hd hL hp (his j _ (List.getElem?_eq_getElem hj))).2 x).1 hy
   have:=h1.2.symm.trans h2.2
   omega
 ·have h0:=hp c hc
  have h1:=(hL.lo c hc).2
  obtain ⟨i,hi⟩:∃ i:Nat,Pl.pv ls c = (i:Int) := ⟨(Pl.pv ls c).toNat,by omega⟩
  have hiP:i < ps.length:=by rw [hlen]; omega
  exact ⟨ps[i],List.getElem_mem hiP,((lst5_ok hd hL hp (his i _ (List.getElem?_eq_getElem hiP))).2 c).2 ⟨hc,hi⟩⟩
theorem pcs_perm {d:Pl.Dg} {ps qs:List Pl.Pc} (h:Pl.Pcs d ps) (hp:qs.Perm ps):Pl.Pcs d qs :=
 ⟨fun p hq => h.ok p (hp.mem_iff.1 hq), (hp.flatMap_right Pl.Pc.order).nodup_iff.2 h.nd, fun c hc => by
   obtain ⟨p,h1,h2⟩:=h.all c hc
   exact ⟨p,hp.mem_iff.2 h1,h2⟩⟩
theorem pcs_sz {d:Pl.Dg} (hd:Pl.Wf d) {ps:List Pl.Pc} (h:Pl.Pcs d ps):∀ p,p ∈ ps → PcSz p := fun p hm => by
 obtain ⟨r,hr,e1,e2,_⟩:=h.ok p hm
 refine ⟨?_,(h.ok p hm).len⟩
 have h1:=(Pl.ord_ok hd hr).nd
 have h2:∀ c,c ∈ Pl.ord d r → c < d.n:=fun c hc => ((Pl.ord_ok hd hr).mem c hc).1
 have:=hd.few
 rw [e2]
 have h3:=Pl.nodup_len h1 h2
 omega
end Go.Proofs.Ytghdiolnonejaaa
end
section
namespace Go.Proofs.Ytghdiolnonejaaa
open Go Go.RowKit
attribute [local go_sem ↓] Go.wp_at_zero Go.wp_at_succ
set_option maxRecDepth 100000 in
set_option maxHeartbeats 2000000 in
theorem stable_any (base:Nat) (A:Option Addr) (n c:Nat) (cs:List Value) (qs:List Pl.Pc) (w:World) (h0:SI base w A n c cs qs w) (hsz:∀ p,p ∈ qs → PcSz p) (hn:n < 20) :
 Calls Try.prog 148 #[.slice A n c,.int .i64 (n:Int),.func (.func 140) #[] #[]] w fun e w' => (∃ v,e = .returned v) ∧ ∃ cs' ps',SI base w A n c cs' ps' w' ∧ ps'.Perm qs ∧ ps'.Pairwise Pl.leP := by
 have H0:=hide h0
 have HSZ:=hide hsz
 have hn1:¬ ((20:Int) ≤ (n:Int)):=by omega
 have hn2:¬ ((20:Int) < (n:Int)):=by omega
 clear h0 hsz
 go_enter Try.func148,Try.ntmps148
 go_wp2_with fail
 go_loopg [7,8] 0 (fun g s7 s8 wx => s7 = .int .i64 0 ∧ s8 = .int .i64 20 ∧ wx = w)
 case atStart => exact ⟨rfl,rfl,rfl⟩
 case round =>
  obtain ⟨rfl,rfl,rfl⟩:=hrel
  go_wp2_with fail
  refine (isort_any base A n c cs qs _ H0.out HSZ.out (by omega)).mono ?_
  rintro e w1 ⟨⟨v,rfl⟩,cs',ps',hS,hP,hW⟩
  have HR:=hide (show ∃ cs' ps',SI base wr A n c cs' ps' w1 ∧ ps'.Perm qs ∧ ps'.Pairwise Pl.leP from ⟨cs',ps',hS,hP,hW⟩)
  clear hS hP hW
  go_wp2_with fail
  go_loopg [6,7,8] 0 (fun g s6 s7 s8 wx => s6 = .int .i64 20 ∧ wx = w1)
  case atStart => exact ⟨rfl,rfl⟩
  case round =>
   obtain ⟨rfl,rfl⟩:=hrel
   go_wp2
   exact bodyPost_end (by simp [results,Try.results148,go_sem]; rfl) rfl ⟨⟨_,rfl⟩,HR.out⟩
set_option maxRecDepth 100000 in
set_option maxHeartbeats 2000000 in
theorem isort_none (A:Option Addr) (n c:Nat) (w:World) (hn:n ≤ 64) :
 Calls Try.prog 150 #[.slice A n c,.int .i64 (n:Int),.int .i64 (n:Int),.func (.func 140) #[] #[]] w fun e w' => (∃ v,e = .returned v) ∧ w' = w := by
 have h1:¬ ((n:Int) + 1 < (n:Int)):=by omega
 go_enter Try.func150,Try.ntmps150
 go_wp2
 go_loopg [8,9] 0 (fun g s8 s9 wx => s8 = .int .i64 ((n:Int) + 1) ∧ wx = w)
 case atStart => exact ⟨rfl,rfl⟩
 case round =>
  obtain ⟨rfl,rfl⟩:=hrel
  go_wp2
  exact bodyPost_end (by simp [results,Try.results150,go_sem]; rfl) rfl ⟨⟨_,rfl⟩,rfl⟩
set_option maxRecDepth 100000 in
set_option maxHeartbeats 2000000 in
theorem stable_20 (base:Nat) (A:Option Addr) (c:Nat) (cs:List Value) (qs:List Pl.Pc) (w:World) (h0:SI base w A 20 c cs qs w) (hsz:∀ p,p ∈ qs → PcSz p) :
 Calls Try.prog 148 #[.slice A 20 c,.int .i64 20,.func (.func 140) #[] #[]] w fun e w' => (∃ v,e = .returned v) ∧ ∃ cs' ps',SI base w A 20 c cs' ps' w' ∧ ps'.Perm qs ∧ ps'.Pairwise Pl.leP := by
 have H0:=hide h0
 have HSZ:=hide hsz
 clear h0 hsz
 go_enter Try.func148,Try.ntmps148
 go_wp2_with fail
 go_loopg [7,8] 1 (fun g s7 s8 wx => (g = 1 ∧ s7 = .int .i64 0 ∧ s8 = .int .i64 20 ∧ wx = w) ∨ (g = 0 ∧ s7 = .int .i64 20 ∧ s8 = .int .i64 40 ∧ ∃ cs' ps',SI base w A 20 c cs' ps' wx ∧ ps'.Perm qs ∧ ps'.Pairwise Pl.leP))
 case atStart => exact .inl ⟨rfl,rfl,rfl,rfl⟩
 case round =>
  obtain ⟨go,rfl⟩:∃ go,go = gk := ⟨_,rfl⟩
  rcases hrel with ⟨hg,rfl,rfl,rfl⟩ | ⟨hg,rfl,rfl,hR⟩
  ·have HG:=hide hg
   clear hg
   go_wp2_with fail
   refine (isort_any base A 20 c cs qs _ H0.out HSZ.out (by omega)).mono ?_
   rintro e w1 ⟨⟨v,rfl⟩,cs',ps',hS,hP,hW⟩
   have HR:=hide (show ∃ cs' ps',SI base wr A 20 c cs' ps' w1 ∧ ps'.Perm qs ∧ ps'.Pairwise Pl.leP from ⟨cs',ps',hS,hP,hW⟩)
   clear hS hP hW
   go_wp2_with fail
   go_roundg 0
   case measure => have := HG.out; omega
   case rel => exact .inr ⟨rfl,rfl,rfl,HR.out⟩
  ·have HR:=hide hR
   clear hR hg
   go_wp2_with fail
   refine (isort_none A 20 c _ (by omega)).mono ?_
   rintro e w1 ⟨⟨v,rfl⟩,rfl⟩
   go_wp2_with fail
   go_loopg [6,7,8] 0 (fun g s6 s7 s8 wx => s6 = .int .i64 20 ∧ wx = w1)
   case atStart => exact ⟨rfl,rfl⟩
   case round =>
    obtain ⟨rfl,rfl⟩:=hrel
    go_wp2
    exact bodyPost_end (by simp [results,Try.results148,go_sem]; rfl) rfl ⟨⟨_,rfl⟩,HR.out⟩
set_option maxRecDepth 100000 in
set_option maxHeartbeats 2000000 in
theorem sort_any (base:Nat) (A:Option Addr) (n c:Nat) (cs:List Value) (qs:List Pl.Pc) (w:World) (h0:SI base w A n c cs qs w) (hsz:∀ p,p ∈ qs → PcSz p) (hn:n ≤ 20) :
 Calls Try.prog 139 #[.slice A n c,.func (.func 140) #[] #[]] w fun e w' => (∃ v,e = .returned v) ∧ ∃ cs' ps',SI base w A n c cs' ps' w' ∧ ps'.Perm qs ∧ ps'.Pairwise Pl.leP := by
 have H0:=hide h0
 have HSZ:=hide hsz
 clear h0 hsz
 go_enter Try.func139,Try.ntmps139
 go_wp2_with fail
 have hst:Calls Try.prog 148 #[.slice A n c,.int .i64 (n:Int),.func (.func 140) #[] #[]] w fun e w' => (∃ v,e = .returned v) ∧ ∃ cs' ps',SI base w A n c cs' ps' w' ∧ ps'.Perm qs ∧ ps'.Pairwise Pl.leP:=by
  rcases Nat.lt_or_ge n 20 with h | h
  ·exact stable_any base A n c cs qs _ H0.out HSZ.out h
  ·obtain rfl:n = 20 := by omega
   exact stable_20 base A c cs qs _ H0.out HSZ.out
 refine hst.mono ?_
 clear hst
 rintro e w1 ⟨⟨v,rfl⟩,cs',ps',hS,hP,hW⟩
 have HR:=hide (show ∃ cs' ps',SI base w A n c cs' ps' w1 ∧ ps'.Perm qs ∧ ps'.Pairwise Pl.leP from ⟨cs',ps',hS,hP,hW⟩)
 clear hS hP hW
 go_wp2
 exact bodyPost_end (by simp [results,Try.results139,go_sem]; rfl) rfl ⟨⟨_,rfl⟩,HR.out⟩
end Go.Proofs.Ytghdiolnonejaaa
end
section
namespace Go.Proofs.Ytghdiolnonejaaa
open Go Go.RowKit
attribute [local go_sem ↓] Go.wp_at_zero Go.wp_at_succ
set_option maxRecDepth 100000 in
set_option maxHeartbeats 8000000 in
theorem pieces_any (d:Pl.Dg) (hd:Pl.Valid d) (A B:Option Addr) (cp cq m:Nat) (w:World) (hm:m = 4 * d.n) (hg:DgAt w A B d) (h20:d.n ≤ 20) :
 Calls Try.prog 101 #[.agg #[.slice A d.n cp,.slice B m cq,.int .i64 d.lp]] w fun e w' => ∃ (A':Option Addr) (n c:Nat) (cs:List Value) (ps:List Pl.Pc),e = .returned (.slice A' n c) ∧ w'.ownsRow (w.heap.size + 1) 116 3 (.slice A' n c) n cs ∧ PcsV w' cs ps ∧ ps.length = n ∧ n ≤ d.n ∧ Pl.Pcs d ps ∧ Pl.Srt ps ∧ Below w.heap.size w w' := by
 have hn:=hd.wf.few
 have HM:=hide hm
 have HG:=hide hg
 have HD:=hide hd
 clear hm hg
 have X0:=hide (row_at (W := w) (g := w.heap.size) (t := 24) (vs := [.slice A d.n cp,.slice B m cq,.int .i64 d.lp]) rfl)
 have B0:=hide (show Below w.heap.size w (w.alloc (.cells #[.slice A d.n cp,.slice B m cq,.int .i64 d.lp] 24)) from (Below.refl _ _).alloc (Nat.le_refl _) _)
 go_enter Try.func101,Try.ntmps101
 obtain ⟨d0,d1,d2,d3⟩:=box3 X0.out
 go_wp2_with fail
 refine (graph_any d hd A B cp cq m _ HM.out (HG.out.keep B0.out)).mono ?_
 rintro e w1 ⟨AG,cG,P,ls,vs,rfl,hP,hLB,hpos,hrow,hvs,hb1,_⟩
 have HLB:=hide hLB
 have HPOS:=hide hpos
 have L0:=hide (show PL w d ls P AG vs [.slice A d.n cp,.slice B m cq,.int .i64 d.lp] 0 (.slice none 0 0) [] [] w1 from
  ⟨X0.out.below hb1,⟨hrow,hvs⟩,World.ownsRow_nil _ _ _ _,trivial,rfl,fun i p h => by simp at h,B0.out.trans (hb1.mono B0.out.size)⟩)
 clear hLB hpos hrow hvs hb1 X0 B0 d0 d1 d2 d3
 go_wp2_with fail
 go_loopg [3,5,6,8,9,10,11,15,34,40] P (fun g s3 s5 s6 s8 s9 s10 s11 s15 s34 s40 wx => ∃ (j:Nat) (cs:List Value) (ps:List Pl.Pc),j + g = P ∧ s15 = .int .i64 (j:Int) ∧ PL w d ls P AG vs [.slice A d.n cp,.slice B m cq,.int .i64 d.lp] j s3 cs ps wx)
 case atStart => exact ⟨0,_,_,by omega,rfl,L0.out⟩
 case round =>
  clear L0
  obtain ⟨j,cs,ps,hjg,rfl,hk⟩:=hrel
  have HJG:=hide hjg
  have K0:=hide hk
  have hjP:j ≤ P:=by omega
  clear hk
  obtain ⟨go,rfl⟩:∃ go,go = gk := ⟨_,rfl⟩
  by_cases hj:j < P
  ·have hji:(j:Int) < (P:Int):=by omega
   have j0:(0:Int) ≤ (j:Int):=by omega
   obtain ⟨v,hvj,AF,cF,rfl,hF⟩:=K0.out.gr.v.2 j _ (gl_at ls d.n hj)
   have hvl:=(List.getElem?_eq_some_iff.1 hvj).1
   obtain ⟨bG,oG,rfl,x1⟩:=RowAt.at_ K0.out.gr.r.row hj
   rw [(List.getElem?_eq_some_iff.1 hvj).2] at x1
   have HVJ:=hide hvj
   obtain ⟨l,hl⟩:∃ l,l = Gl ls d.n j := ⟨_,rfl⟩
   rw [← hl] at x1 hF
   obtain ⟨nl,hnl⟩:∃ n,n = l.length := ⟨_,rfl⟩
   have HNL:=hide hnl
   rw [← hnl] at x1
   have HLL:=hide hl
   have hnl64:nl ≤ 64:=by rw [hnl,hl]; have := Gl_len ls d.n j; omega
   obtain ⟨aLst,cL,rfl⟩:=owns_slice K0.out.own
   have hng:(Value.slice aLst j cL).ownBlock ≠ some wr.heap.size:=fun e => by have := (K0.out.own.lt _ e).2; omega
   have P0:=hide (show PI w d ls P (some ⟨bG,oG,none⟩) vs [.slice A d.n cp,.slice B m cq,.int .i64 d.lp] j (.slice aLst j cL) cs ps wr.heap.size 0 (.slice none 0 0) (.slice none 0 0) 0 (wr.alloc (.cells #[.slice none 0 0,.slice none 0 0,.int .i64 0] 116)) from
    ⟨K0.out.alloc _,row_at (vs := [.slice none 0 0,.slice none 0 0,.int .i64 0]) rfl,.inl ⟨rfl,rfl,rfl,rfl⟩,by have := K0.out.big; omega,hng⟩)
   have hlo:w.heap.size < wr.heap.size:=by have := K0.out.big; omega
   clear hvj hl hnl hF hjg hng
   obtain ⟨d0,d1,d2,d3⟩:=box3 K0.out.bx
   obtain ⟨g6,hg6⟩:∃ g,g = wr.heap.size := ⟨_,rfl⟩
   go_upto_region 6 with fail
   rw [← hg6] at P0 hlo ⊢
   clear hg6 d0 d1 d2 d3 x1 K0
   go_wp2_with fail
   go_loopg [8,9,10,11,21,34,40] nl (fun g s8 s9 s10 s11 s21 s34 s40 wx => ∃ (k:Nat) (vC vO:Value) (x:Int),k + g = nl ∧ s21 = .int .i64 (k:Int) ∧ PI w d ls P (some ⟨bG,oG,none⟩) vs [.slice A d.n cp,.slice B m cq,.int .i64 d.lp] j (.slice aLst j cL) cs ps g6 k vC vO x wx)
   case atStart => exact ⟨0,_,_,_,by omega,rfl,P0.out⟩
   case round =>
    clear P0
    obtain ⟨k,vC,vO,x,hkg,rfl,hk⟩:=hrel
    have HKG:=hide hkg
    have K0:=hide hk
    have hkn:k ≤ nl:=by omega
    clear hk
    obtain ⟨gi,rfl⟩:∃ gi,gi = gk := ⟨_,rfl⟩
    by_cases hk:k < nl
    ·have hki:(k:Int) < (nl:Int):=by omega
     have k0:(0:Int) ≤ (k:Int):=by omega
     obtain ⟨v',e',hF⟩:=K0.out.p.gr.v.2 j _ (gl_at ls d.n hj)
     rw [HVJ.out] at e'
     injection e' with e'
     subst e'
     have hF2:=hF.ints.2
     rw [← HLL.out,← HNL.out] at hF2
     obtain ⟨b8,o8,rfl,x8⟩:=nats_at hF2 hk
     obtain ⟨q,hq⟩:∃ q,q = l.getD k 0 := ⟨_,rfl⟩
     rw [← hq] at x8
     have hql:l[k]? = some q:=by rw [hq,List.getD_eq_getElem?_getD,List.getElem?_eq_getElem (by rw [← HNL.out]; exact hk)]; rfl
     have hqm:q ∈ Gl ls d.n j:=by rw [← HLL.out]; exact List.mem_of_getElem? hql
     have hqn:q < d.n:=(mem_Gl.1 hqm).1
     have HTK:=hide (show (Gl ls d.n j).take (k + 1) = (Gl ls d.n j).take k ++ [q] from Pl.take_one (by rw [← HLL.out]; exact hql))
     have hcc:=fun c (hc:c ∈ Gl ls d.n j) => gl_comp HLB.out HPOS.out hc hqm
     have hq0:(0:Int) ≤ (q:Int):=by omega
     have hbest:=K0.out.b.best HD.out.wf hqn hcc
     clear hF hF2 hq hql hqm hcc hkg
     obtain ⟨d0,d1,d2,d3⟩:=box3 K0.out.p.bx
     obtain ⟨f0,f1,f2,f3⟩:=box3 K0.out.r
     rcases hbest with ⟨hk0,hb⟩ | ⟨p,hpv,hl5,hx0,hxk,hb⟩
     ·have HB:=hide hb
      have hvn:vC = .slice none 0 0:=hb
      subst hvn
      have HK0:=hide hk0
      clear hb hk0
      go_wp2_with fail
      refine (number_any d HD.out.wf A B cp cq m q _ none _ HM.out (HG.out.keep K0.out.p.bel) hqn HB.out).mono ?_
      intro e w2 hres
      obtain ⟨vC',vO',rfl,own1,own2⟩:=hres.2.1 (by rw [Pl.vall_none]; omega)
      have K2:=hide (K0.out.below hres.2.2)
      obtain ⟨A1,e1,rfl⟩:=owns_slice own1
      obtain ⟨A2,e2,rfl⟩:=owns_slice own2
      have HP:=hide (show PcV w2 (.slice A1 (Pl.code d q).length e1) (.slice A2 (Pl.ord d q).length e2) 1 ⟨Pl.code d q,Pl.ord d q,1⟩ from ⟨own_intT own1,own_natT own2,rfl⟩)
      rw [show Pl.vall none (Pl.code d q) = -1 from Pl.vall_none _]
      clear hres own1 own2 d0 d1 d2 d3 f0 f1 f2 f3 x8 K0
      obtain ⟨f0,f1,f2,f3⟩:=box3 K2.out.r
      go_wp2
      go_roundg (gi - 1)
      case measure => have := HKG.out; omega
      case rel => exact ⟨k + 1,_,_,1,by have := HKG.out; omega,by go_num,K2.out.put HP.out (by rw [HTK.out,HK0.out]; exact Pl.Lst5.one q 1)⟩
     ·have HB:=hide hb
      obtain ⟨bb,bo,bc,rfl,hrest⟩:=hb
      clear hrest
      have HPV:=hide hpv
      have HL5:=hide hl5
      clear hpv hl5
      go_wp2_with fail
      refine (number_any d HD.out.wf A B cp cq m q _ (some p.code) _ HM.out (HG.out.keep K0.out.p.bel) hqn HB.out).mono ?_
      intro e w2 hres
      have K2:=hide (K0.out.below hres.2.2)
      have HPV2:=hide (HPV.out.below hres.2.2)
      clear d0 d1 d2 d3 f0 f1 f2 f3 x8 K0 HPV HB
      obtain ⟨f0,f1,f2,f3⟩:=box3 K2.out.r
      obtain ⟨v,hv⟩:∃ v,v = Pl.vall (some p.code) (Pl.code d q) := ⟨_,rfl⟩
      have HV:=hide (show v = Pl.lx (Pl.code d q) p.code from hv.trans (Pl.vall_some _ _))
      by_cases hv0:0 < v
      ·obtain rfl := hres.1 (by rw [← hv]; exact hv0)
       clear hres hv
       have HLS:=hide (HL5.out.more (q := q) (by rw [← HV.out]; omega) x)
       go_wp2
       go_roundg (gi - 1)
       case measure => have := HKG.out; omega
       case rel => exact ⟨k + 1,_,_,x,by have := HKG.out; omega,by go_num,K2.out.skip HPV2.out (by rw [HTK.out]; exact HLS.out) hx0 hxk⟩
      ·obtain ⟨vC',vO',rfl,own1,own2⟩:=hres.2.1 (by rw [← hv]; exact hv0)
       obtain ⟨A1,e1,rfl⟩:=owns_slice own1
       obtain ⟨A2,e2,rfl⟩:=owns_slice own2
       have HP:=hide (show PcV w2 (.slice A1 (Pl.code d q).length e1) (.slice A2 (Pl.ord d q).length e2) 1 ⟨Pl.code d q,Pl.ord d q,1⟩ from ⟨own_intT own1,own_natT own2,rfl⟩)
       rw [← hv]
       clear hres hv own1 own2
       by_cases hvz:v = 0
       ·have HLS:=hide (HL5.out.more (q := q) (by rw [← HV.out]; omega) (x + 1))
        subst hvz
        have hx64:x ≤ 64:=by omega
        go_wp2
        go_roundg (gi - 1)
        case measure => have := HKG.out; omega
        case rel => exact ⟨k + 1,_,_,x + 1,by have := HKG.out; omega,by go_num,K2.out.more HPV2.out (by rw [HTK.out]; exact HLS.out) hx0 hxk⟩
       ·have hvn:v < 0:=by omega
        have HLS:=hide (HL5.out.less (q := q) (by rw [← HV.out]; exact hvn) 1)
        clear hvz hv0
        go_wp2
        go_roundg (gi - 1)
        case measure => have := HKG.out; omega
        case rel => exact ⟨k + 1,_,_,1,by have := HKG.out; omega,by go_num,K2.out.put HP.out (by rw [HTK.out]; exact HLS.out)⟩
    ·have hki:¬ ((k:Int) < (nl:Int)):=by omega
     have hnl0:0 < nl:=by
      obtain ⟨a,ha,he⟩:=HLB.out.all j hj
      rw [HNL.out,HLL.out]
      exact List.length_pos_of_mem (mem_Gl.2 ⟨ha,he⟩)
     rcases K0.out.b with ⟨h0,_⟩ | ⟨p,hp,hl5,hx0,hxk⟩
     ·omega
     ·have HP:=hide hp
      have HL5:=hide (show Pl.Lst5 d (Gl ls d.n j) p by
       have h:(Gl ls d.n j).take k = Gl ls d.n j:=List.take_of_length_le (by rw [← HLL.out,← HNL.out]; omega)
       rw [h] at hl5
       exact hl5)
      clear hp hl5
      obtain ⟨A1,e1,h1,h1b⟩:=HP.out.c
      obtain ⟨A2,e2,h2,h2b⟩:=HP.out.o
      subst h1
      subst h2
      clear h1b h2b hkg hnl0
      have hj64:j ≤ 64:=by omega
      obtain ⟨f0,f1,f2,f3⟩:=box3 K0.out.r
      have KA:=hide (K0.out.p.alloc (.cells #[.slice A1 p.code.length e1,.slice A2 (nats p.order).length e2,.int .i64 x] 116))
      have HPA:=hide (HP.out.below ((Below.refl wr.heap.size wr).alloc (Nat.le_refl _) (.cells #[.slice A1 p.code.length e1,.slice A2 (nats p.order).length e2,.int .i64 x] 116)))
      obtain ⟨i0,hi0,hz0,hz1,hz2⟩:=info_parts pieceInfo
      have P1:∀ u ∈ [Value.slice A1 p.code.length e1,.slice A2 (nats p.order).length e2,.int .i64 x],u.oneCell' = true:=by simp [Value.oneCell']
      go_wp2_with (at_builtin; refine wpList_append_lies _ (by rfl) _ _ 113 (by rfl) (w.heap.size + 1) 116 i0 (.agg #[.slice none 0 0,.slice none 0 0,.int .i64 0]) 3 56 Try.underlying113 hi0 hz0 hz1 hz2 rfl (by omega) _ j cs (by rfl) KA.out.own ⟨wr.heap.size,0,none⟩ 1 1 [.slice A1 p.code.length e1,.slice A2 (nats p.order).length e2,.int .i64 x] (by rfl) (by rfl) (three_news wr _ rfl _ _ _) P1 (by omega) (by unfold maxLen; omega) (by omega) KA.out.big (wr.heap.size + 1) (by simp) ?_; intro g3 c3 w3 own3 grow3 at3 lt3; have OWN3 := hide own3; have GR3 := hide grow3; clear own3 grow3 at3)
      go_roundg (go - 1)
      case measure => have := HJG.out; omega
      case rel => exact ⟨j + 1,_,_,by have := HJG.out; omega,by go_num,KA.out.app OWN3.out GR3.out rfl HPA.out HL5.out⟩
  ·have hji:¬ ((j:Int) < (P:Int)):=by omega
   obtain ⟨aLst,cL,rfl⟩:=owns_slice K0.out.own
   have hjP':j = P:=by omega
   have hPd:=HLB.out.le
   have HPCS:=hide (pcs_groups HD.out.wf HLB.out HPOS.out (by rw [K0.out.len]; exact hjP') K0.out.is)
   have S0:=hide (show SI (w.heap.size + 1) wr aLst j cL cs ps wr from ⟨K0.out.own,K0.out.pv,K0.out.len,Below.refl _ _,K0.out.big⟩)
   have BW:=hide K0.out.bel
   clear K0 hjP'
   go_wp2_with fail
   refine (sort_any (w.heap.size + 1) aLst j cL cs ps _ S0.out (pcs_sz HD.out.wf HPCS.out) (by omega)).mono ?_
   rintro e w1 ⟨⟨v,rfl⟩,cs',ps',hS,hP,hW⟩
   have HR:=hide (show ∃ (A':Option Addr) (n c:Nat) (cs:List Value) (ps:List Pl.Pc),Ending.returned (.slice aLst j cL) = .returned (.slice A' n c) ∧ w1.ownsRow (w.heap.size + 1) 116 3 (.slice A' n c) n cs ∧ PcsV w1 cs ps ∧ ps.length = n ∧ n ≤ d.n ∧ Pl.Pcs d ps ∧ Pl.Srt ps ∧ Below w.heap.size w w1 from
    ⟨aLst,j,cL,cs',ps',rfl,hS.own,hS.pv,hS.len,by omega,pcs_perm HPCS.out hP,hW,BW.out.trans (hS.bel.mono (Nat.le_succ _))⟩)
   clear hS hP hW
   go_wp2
   go_ret
   exact HR.out
end Go.Proofs.Ytghdiolnonejaaa
end
section
namespace Go.Proofs.Ytghdiolnonejaaa
open Go Go.RowKit
attribute [local go_sem ↓] Go.wp_at_zero Go.wp_at_succ
def pcJ (lp:Nat) (ps:List Pl.Pc) (j:Nat):List Int := (lp:Int) :: (ps.length:Int) :: (ps.take j).flatMap (fun p => (p.order.length:Int) :: p.code)
theorem pcJ_zero (lp:Nat) (ps:List Pl.Pc):pcJ lp ps 0 = [(lp:Int),(ps.length:Int)] := by unfold pcJ; simp
theorem pcJ_succ (lp:Nat) {ps:List Pl.Pc} {j:Nat} {p:Pl.Pc} (h:ps[j]? = some p):pcJ lp ps (j + 1) = (pcJ lp ps j ++ [(p.order.length:Int)]) ++ p.code := by
 unfold pcJ
 rw [Pl.take_one h,List.flatMap_append]
 simp
theorem pcJ_all (lp:Nat) {ps:List Pl.Pc} {j:Nat} (h:ps.length ≤ j):pcJ lp ps j = Pl.pcode lp ps := by
 unfold pcJ Pl.pcode
 rw [List.take_of_length_le h]
theorem pcJ_len (lp:Nat) {ps:List Pl.Pc} (hs:∀ p,p ∈ ps → PcSz p):∀ j,(pcJ lp ps j).length ≤ 2 + 400 * j
 | 0 => by rw [pcJ_zero]; simp
 | j + 1 => by
   by_cases h:j < ps.length
   ·have e:ps[j]? = some ps[j]:=List.getElem?_eq_getElem h
    have h1:=hs _ (List.getElem_mem h)
    have h2:=h1.1
    have h3:=h1.2
    have ih:=pcJ_len lp hs j
    rw [pcJ_succ lp e]
    simp only [List.length_append,List.length_cons,List.length_nil]
    omega
   ·have ih:=pcJ_len lp hs j
    rw [pcJ_all lp (by omega)] at ih
    rw [pcJ_all lp (by omega)]
    omega
structure CL (w1:World) (xs:List Int) (m:Nat) (vL:Value) (W:World):Prop where
 own:W.ownsRow w1.heap.size 3 1 vL m (xs.map (.int .i64))
 len:xs.length = m
 bel:Below w1.heap.size w1 W
theorem CL.alloc {w1 W:World} {xs:List Int} {m:Nat} {vL:Value} (h:CL w1 xs m vL W) (o:Obj):CL w1 xs m vL (W.alloc o) :=
 ⟨own_below h.own ((Below.refl _ _).alloc (Nat.le_refl _) o),h.len,h.bel.trans (((Below.refl _ _).alloc (Nat.le_refl _) o).mono h.bel.size)⟩
theorem CL.app {w1 W W':World} {xs ys:List Int} {m n:Nat} {vL vL':Value} (h:CL w1 xs m vL W) (own:W'.ownsRow w1.heap.size 3 1 vL' n (xs.map (.int .i64) ++ ys.map (.int .i64))) (gr:W.grownBy W' vL.ownBlock) (hn:n = m + ys.length):CL w1 (xs ++ ys) n vL' W' :=
 ⟨by rw [List.map_append]; exact own,by rw [List.length_append,h.len,hn],h.bel.grown gr h.bel.size (fun k hk => (h.own.lt k hk).1)⟩
theorem own_two (w:World) (x y:Int):(w.alloc (.cells #[.int .i64 x,.int .i64 y] 3)).ownsRow w.heap.size 3 1 (.slice (some ⟨w.heap.size,0,none⟩) 2 2) 2 ([x,y].map (.int .i64)) :=
 ⟨rfl,.inr ⟨w.heap.size,2,#[.int .i64 x,.int .i64 y],rfl,Nat.le_refl _,heap_alloc_new w _,Nat.le_refl _,by unfold maxLen; omega,rfl,rfl⟩⟩
def CodeT (d:Pl.Dg) (w:World) (e:Ending) (w':World):Prop :=
 ∃ (A':Option Addr) (n c:Nat) (ps:List Pl.Pc),e = .returned (.slice A' n c) ∧ Pl.Pcs d ps ∧ Pl.Srt ps ∧ n ≤ 8100 ∧ RowT w' 3 A' n ((Pl.pcode d.lp ps).map (.int .i64)) ∧ Below w.heap.size w w'
set_option maxRecDepth 100000 in
set_option maxHeartbeats 8100000 in
theorem code_t (d:Pl.Dg) (hd:Pl.Valid d) (h20:d.n ≤ 20) (A B:Option Addr) (cp cq m:Nat) (w:World) (hm:m = 4 * d.n) (hg:DgAt w A B d) :
 Calls Try.prog 57 #[.agg #[.slice A d.n cp,.slice B m cq,.int .i64 d.lp]] w (CodeT d w) := by
 have hlp:=hd.wf.lp
 have HM:=hide hm
 have HG:=hide hg
 have HD:=hide hd
 clear hm hg
 have X0:=hide (row_at (W := w) (g := w.heap.size) (t := 24) (vs := [.slice A d.n cp,.slice B m cq,.int .i64 d.lp]) rfl)
 have B0:=hide (show Below w.heap.size w (w.alloc (.cells #[.slice A d.n cp,.slice B m cq,.int .i64 d.lp] 24)) from (Below.refl _ _).alloc (Nat.le_refl _) _)
 go_enter Try.func57,Try.ntmps57
 obtain ⟨d0,d1,d2,d3⟩:=box3 X0.out
 go_wp2_with fail
 refine (valid_yes d HD.out A B cp cq m _ HM.out (HG.out.keep B0.out)).mono ?_
 rintro e w1 ⟨rfl,hb1⟩
 have Y0:=hide (X0.out.below hb1)
 have B1:=hide (B0.out.trans (hb1.mono B0.out.size))
 clear X0 B0 hb1 d0 d1 d2 d3
 obtain ⟨d0,d1,d2,d3⟩:=box3 Y0.out
 go_wp2_with fail
 refine (pieces_any d HD.out A B cp cq m _ HM.out (HG.out.keep B1.out) h20).mono ?_
 rintro e w2 ⟨aLst,n,cL,cs,ps,rfl,hown,hpv,hlen,hnd,hpcs,hsrt,hb2⟩
 have Z0:=hide (Y0.out.below hb2)
 have B2:=hide (B1.out.trans (hb2.mono B1.out.size))
 have OW:=hide hown
 have HPV:=hide hpv
 have HLEN:=hide hlen
 have HPS:=hide (show Pl.Pcs d ps ∧ Pl.Srt ps from ⟨hpcs,hsrt⟩)
 have HSZ:=hide (pcs_sz HD.out.wf hpcs)
 have hn20:n ≤ 20:=by omega
 clear hown hpv hlen hpcs hsrt hb2 d0 d1 d2 d3 Y0 B1 hnd
 obtain ⟨d0,d1,d2,d3⟩:=box3 Z0.out
 go_upto_region 5 with fail
 have L0:=hide (show CL w2 (pcJ d.lp ps 0) 2 (.slice (some ⟨w2.heap.size,0,none⟩) 2 2) (w2.alloc (.cells #[.int .i64 d.lp,.int .i64 n] 3)) from by
  rw [pcJ_zero,HLEN.out]
  exact ⟨own_two _ _ _,rfl,(Below.refl _ _).alloc (Nat.le_refl _) _⟩)
 clear d0 d1 d2 d3
 go_wp2_with fail
 go_loopg [4,6,19] n (fun g s4 s6 s19 wx => ∃ (j m:Nat) (xs:List Int),j + g = n ∧ s19 = .int .i64 (j:Int) ∧ xs = pcJ d.lp ps j ∧ CL w2 xs m s4 wx)
 case atStart => exact ⟨0,_,_,by omega,rfl,rfl,L0.out⟩
 case round =>
  clear L0
  obtain ⟨j,k,xs,hjg,rfl,hxs,hk⟩:=hrel
  have HJG:=hide hjg
  have K0:=hide hk
  have HXS:=hide hxs
  have hjn:j ≤ n:=by omega
  have hkl:k ≤ 2 + 400 * j:=by
   rw [← hk.len,hxs]
   exact pcJ_len d.lp HSZ.out j
  clear hk hxs
  obtain ⟨A4,c4,rfl⟩:=owns_slice K0.out.own
  by_cases hj:j < n
  ·have hji:(j:Int) < (n:Int):=by omega
   have j0:(0:Int) ≤ (j:Int):=by omega
   have hnA:0 < n:=by omega
   obtain ⟨g,cap,hA,hcap,hgl⟩:=World.ownsRow.form OW.out hnA
   injection hA with hA _ hcc
   subst hA
   subst hcc
   obtain ⟨p,hp⟩:∃ p,ps[j]? = some p := ⟨_,List.getElem?_eq_getElem (by rw [HLEN.out]; exact hj)⟩
   have HXN:=hide (pcJ_succ d.lp hp)
   have hpsz:=HSZ.out p (List.mem_of_getElem? hp)
   obtain ⟨a0,a1,a2,hpx,ca0,ca1,ca2⟩:=HPV.out.at_ hp
   have CA:=fun (t:Nat) (u:Value) (ht:j * 3 + t < n * 3) (e:cs[j * 3 + t]? = some u) => (show wr.cell? ⟨g,j * 3 + t,none⟩ = some u by exact cell_below (by rw [World.ownsRow.cellAt OW.out _ ht]; exact e) K0.out.bel)
   have x0:=CA 0 a0 (by omega) ca0
   have x1:=CA 1 a1 (by omega) ca1
   have x2:=CA 2 _ (by omega) ca2
   rw [Nat.add_zero] at x0
   clear CA ca0 ca1 ca2 hp hjg
   obtain ⟨A1,e1,h1,h1b⟩:=hpx.c
   obtain ⟨A2,e2,h2,h2b⟩:=hpx.o
   have HC1:=hide (show IntsAt w2 A1 p.code.length p.code from h1b.2.row)
   subst h1
   subst h2
   clear h1b h2b hpx
   rw [nats_len] at x1
   obtain ⟨L1,hL1⟩:∃ n,n = p.code.length := ⟨_,rfl⟩
   obtain ⟨L2,hL2⟩:∃ n,n = p.order.length := ⟨_,rfl⟩
   rw [← hL1] at x0 HC1
   rw [← hL2] at x1
   have HL2:=hide hL2
   have HL1:=hide hL1
   have hL2b:L2 ≤ 64:=by rw [hL2]; exact hpsz.1
   have hL1b:L1 ≤ 320:=by rw [hL1,hpsz.2]; have := hpsz.1; omega
   clear hpsz hL1 hL2
   have KA:=hide (K0.out.alloc (.cells #[.slice A1 L1 e1,.slice A2 L2 e2,.int .i64 a2] 116))
   have XB:=hide (row_at (W := wr) (g := wr.heap.size) (t := 116) (vs := [.slice A1 L1 e1,.slice A2 L2 e2,.int .i64 a2]) rfl)
   obtain ⟨f0,f1,f2,f3⟩:=box3 XB.out
   go_upto_region 8 with fail
   obtain ⟨V,hV⟩:∃ V,V = wr.alloc (.cells #[.slice A1 L1 e1,.slice A2 L2 e2,.int .i64 a2] 116) := ⟨_,rfl⟩
   obtain ⟨gb,hgb⟩:∃ g,g = wr.heap.size := ⟨_,rfl⟩
   have hgV:w2.heap.size ≤ gb:=by rw [hgb]; exact K0.out.bel.size
   rw [← hV] at KA XB f0 f1 f2 f3 ⊢
   rw [← hgb] at XB f0 f1 f2 f3 ⊢
   have HUB:=hide (show ∀ b,(Value.slice A4 k c4).ownBlock = some b → b < gb from fun b h => by rw [hgb]; exact (K0.out.own.lt b h).2)
   clear hV hgb x0 x1 x2 K0
   have KB:=hide (KA.out.alloc (.cells #[.int .i64 L2] 3))
   have hVs:=KA.out.bel.size
   obtain ⟨i0,hi0,hz0,hz1,hz2⟩:=info_parts intInfo
   go_upto_region 9 with (at_builtin; refine wpList_append_lies _ (by rfl) _ _ 22 (by rfl) w2.heap.size 3 i0 (.int .i64 0) 1 8 Try.underlying22 hi0 hz0 hz1 hz2 rfl (by omega) _ k _ (by rfl) KB.out.own ⟨V.heap.size,0,none⟩ 1 1 [.int .i64 L2] (by rfl) (by rfl) (one_newsG _ _ rfl) (by simp [Value.oneCell']) (by omega) (by unfold maxLen; omega) (by omega) (by have := KB.out.bel.size; omega) (V.heap.size + 1) (by simp) ?_; intro g3 c3 w3 own3 grow3 at3 lt3; have OWN3 := hide own3; have GR3 := hide grow3; clear own3 grow3 at3)
   have K3:=hide (KB.out.app (ys := [(L2:Int)]) OWN3.out GR3.out rfl)
   have X3:=hide ((XB.out.below ((Below.refl V.heap.size V).alloc (Nat.le_refl _) (.cells #[.int .i64 L2] 3))).grown GR3.out (fun e => by have := HUB.out _ e.symm; omega))
   clear f0 f1 f2 f3 KA KB XB OWN3 GR3 lt3
   obtain ⟨f0,f1,f2,f3⟩:=box3 X3.out
   go_wp2_with (at_builtin; refine wpList_append_int _ (by rfl) _ _ 22 (by rfl) w2.heap.size 3 i0 (.int .i64 0) 8 Try.underlying22 hi0 hz0 hz1 hz2 rfl _ (k + 1) _ (by rfl) K3.out.own A1 L1 e1 p.code (by rfl) (HC1.out.keep K3.out.bel) (by unfold maxLen; omega) (by omega) K3.out.bel.size ?_; intro v4 w4 own4 gr4; have OWN4 := hide own4; have GR4 := hide gr4; clear own4 gr4)
   go_roundg (gk - 1)
   case measure => have := HJG.out; omega
   case rel => exact ⟨j + 1,_,_,by have := HJG.out; omega,by go_num,rfl,by
    rw [HXN.out,← HXS.out,← HL2.out]
    exact K3.out.app OWN4.out GR4.out (by rw [HL1.out])⟩
  ·have hji:¬ ((j:Int) < (n:Int)):=by omega
   have HIA:=hide (show RowT wr 3 A4 k ((Pl.pcode d.lp ps).map (.int .i64)) by
    rw [← pcJ_all d.lp (j := j) (by rw [HLEN.out]; omega),← HXS.out]
    exact own_rowT K0.out.own)
   have HBE:=hide (B2.out.trans (K0.out.bel.mono B2.out.size))
   go_wp2
   go_ret
   exact ⟨A4,k,c4,ps,rfl,HPS.out.1,HPS.out.2,by omega,HIA.out,HBE.out⟩
def CodePost (d:Pl.Dg) (w:World) (e:Ending) (w':World):Prop :=
 ∃ (A':Option Addr) (n c:Nat) (ps:List Pl.Pc),e = .returned (.slice A' n c) ∧ Pl.Pcs d ps ∧ Pl.Srt ps ∧ n ≤ 8100 ∧ IntsAt w' A' n (Pl.pcode d.lp ps) ∧ Below w.heap.size w w'
theorem code_yes (d:Pl.Dg) (hd:Pl.Valid d) (h20:d.n ≤ 20) (A B:Option Addr) (cp cq m:Nat) (w:World) (hm:m = 4 * d.n) (hg:DgAt w A B d) :
 Calls Try.prog 57 #[.agg #[.slice A d.n cp,.slice B m cq,.int .i64 d.lp]] w (CodePost d w) :=
 (code_t d hd h20 A B cp cq m w hm hg).mono fun _ _ ⟨A',n,c,ps,h1,h2,h3,h4,h5,h6⟩ => ⟨A',n,c,ps,h1,h2,h3,h4,h5.row,h6⟩
end Go.Proofs.Ytghdiolnonejaaa
end
section
namespace Go.Proofs.Ytghdiolnonejaaa
open Go Go.RowKit
attribute [local go_sem ↓] Go.wp_at_zero Go.wp_at_succ
theorem eq_ints (A B:Option Addr) (n m c e:Nat) (xs ys:List Int) (w:World) (ha:IntsAt w A n xs) (hb:IntsAt w B m ys) (hn0:0 < n) (hm0:0 < m) (hn:n ≤ 100000) (hm:m ≤ 100000) :
 Calls Try.prog 56 #[.slice A n c,.slice B m e] w fun r w' => r = .returned (.bool (Pl.vb (xs = ys))) ∧ Below w.heap.size w w' := by
 have hl:=ha.len
 have hl2:=hb.len
 obtain ⟨b,o,rfl,_⟩:=ha.at_ (k := 0) hn0
 obtain ⟨b2,o2,rfl,_⟩:=hb.at_ (k := 0) hm0
 refine (Try.slices_Equal_int b o n c b2 o2 m e xs ys w (by omega) (by omega) (by omega) (by omega) (fun j hj => ?_) (fun j hj => ?_)).mono ?_
 ·obtain ⟨b',o',e1,hc⟩:=ha.at_ (k := j) (by omega)
  injection e1 with e1
  injection e1 with e1 e2
  subst e1
  subst e2
  exact hc
 ·obtain ⟨b',o',e1,hc⟩:=hb.at_ (k := j) (by omega)
  injection e1 with e1
  injection e1 with e1 e2
  subst e1
  subst e2
  exact hc
 ·rintro r w' ⟨rfl,q,rfl⟩
  refine ⟨ret_bool ?_,below_drewN (Below.refl _ _) q⟩
  rw [List.take_of_length_le (by omega),List.take_of_length_le (by omega),Bool.eq_iff_iff,Pl.vb_iff]
  simp
theorem same_vb {a b:Pl.Dg} (ha:Pl.Wf a) (hb:Pl.Wf b) {ps qs:List Pl.Pc} (hp:Pl.Pcs a ps) (hq:Pl.Pcs b qs) (sp:Pl.Srt ps) (sq:Pl.Srt qs):Pl.vb (Pl.pcode a.lp ps = Pl.pcode b.lp qs) = Pl.vb (∃ σ,Pl.Iso a b σ) := by
 rw [Bool.eq_iff_iff,Pl.vb_iff,Pl.vb_iff]
 exact ⟨fun h => Pl.iso_of_code ha hb hp hq h,fun ⟨σ,I⟩ => I.pcode ha hb hp hq sp sq⟩
theorem pcode_pos {w:World} {A:Option Addr} {n lp:Nat} {ps:List Pl.Pc} (h:IntsAt w A n (Pl.pcode lp ps)):0 < n := by
 have:=h.len
 unfold Pl.pcode at this
 simp only [List.length_cons] at this
 omega
set_option maxRecDepth 100000 in
set_option maxHeartbeats 8000000 in
theorem same_yes20 (a b:Pl.Dg) (ha:Pl.Valid a) (hb:Pl.Valid b) (ha20:a.n ≤ 20) (hb20:b.n ≤ 20) (A B C D:Option Addr) (cp cq m cp' cq' m':Nat) (w:World) (hm:m = 4 * a.n) (hg:DgAt w A B a) (hm':m' = 4 * b.n) (hg':DgAt w C D b) :
 Calls Try.prog 29 #[.agg #[.slice A a.n cp,.slice B m cq,.int .i64 a.lp],.agg #[.slice C b.n cp',.slice D m' cq',.int .i64 b.lp]] w fun e w' => e = .returned (.bool (Pl.vb (∃ σ,Pl.Iso a b σ))) ∧ Below w.heap.size w w' := by
 have hlp:=ha.wf.lp
 have hlp':=hb.wf.lp
 have HM:=hide hm
 have HG:=hide hg
 have HA:=hide ha
 have HM':=hide hm'
 have HG':=hide hg'
 have HB:=hide hb
 clear hm hg hm' hg'
 have X0:=hide (row_at (W := w) (g := w.heap.size) (t := 24) (vs := [.slice A a.n cp,.slice B m cq,.int .i64 a.lp]) rfl)
 have X1:=hide (X0.out.below ((Below.refl _ _).alloc (Nat.le_refl _) (.cells #[.slice C b.n cp',.slice D m' cq',.int .i64 b.lp] 24)))
 have Y1:=hide (row_at (W := w.alloc (.cells #[.slice A a.n cp,.slice B m cq,.int .i64 a.lp] 24)) (g := w.heap.size + 1) (t := 24) (vs := [.slice C b.n cp',.slice D m' cq',.int .i64 b.lp]) (by simp))
 have B0:=hide (show Below w.heap.size w ((w.alloc (.cells #[.slice A a.n cp,.slice B m cq,.int .i64 a.lp] 24)).alloc (.cells #[.slice C b.n cp',.slice D m' cq',.int .i64 b.lp] 24)) from ((Below.refl _ _).alloc (Nat.le_refl _) _).alloc (by simp) _)
 clear X0
 go_enter Try.func29,Try.ntmps29
 obtain ⟨d0,d1,d2,d3⟩:=box3 X1.out
 obtain ⟨e0,e1,e2,e3⟩:=box3 Y1.out
 go_wp2_with fail
 refine (valid_yes a HA.out A B cp cq m _ HM.out (HG.out.keep B0.out)).mono ?_
 rintro e w1 ⟨rfl,hb1⟩
 have X2:=hide (X1.out.below hb1)
 have Y2:=hide (Y1.out.below hb1)
 have B1:=hide (B0.out.trans (hb1.mono B0.out.size))
 clear X1 Y1 B0 hb1 d0 d1 d2 d3 e0 e1 e2 e3
 obtain ⟨d0,d1,d2,d3⟩:=box3 X2.out
 obtain ⟨e0,e1,e2,e3⟩:=box3 Y2.out
 go_wp2_with fail
 refine (valid_yes b HB.out C D cp' cq' m' _ HM'.out (HG'.out.keep B1.out)).mono ?_
 rintro e w2 ⟨rfl,hb2⟩
 have X3:=hide (X2.out.below hb2)
 have Y3:=hide (Y2.out.below hb2)
 have B2:=hide (B1.out.trans (hb2.mono B1.out.size))
 clear X2 Y2 B1 hb2 d0 d1 d2 d3 e0 e1 e2 e3
 obtain ⟨d0,d1,d2,d3⟩:=box3 X3.out
 obtain ⟨e0,e1,e2,e3⟩:=box3 Y3.out
 go_upto_region 3 with fail
 have BD:=hide (show Below w.heap.size w w2.drew from B2.out.drew)
 have DA:=hide (HG.out.keep BD.out)
 have XD:=hide (X3.out.below (Below.refl w2.heap.size w2).drew)
 have YD:=hide (Y3.out.below (Below.refl w2.heap.size w2).drew)
 have DB:=hide (HG'.out.keep BD.out)
 go_region_with (first
  | (go_at_call 57
     have hx:=hba
     refine (code_yes b HB.out hb20 C D cp' cq' m' _ HM'.out (DB.out.keep hx)).mono ?_
     rintro e wb ⟨A8,n8,c8,qs,rfl,q1,q2,q3,q4,hbc⟩)
  | (go_at_call 57
     have hx:=hbb
     refine (code_yes a HA.out ha20 A B cp cq m _ HM.out (DA.out.keep hx)).mono ?_
     rintro e wa ⟨A7,n7,c7,ps,rfl,p1,p2,p3,p4,hbc⟩)
  | (go_at_call 57
     refine (code_yes a HA.out ha20 A B cp cq m _ HM.out DA.out).mono ?_
     rintro e wa ⟨A7,n7,c7,ps,rfl,p1,p2,p3,p4,hba⟩
     obtain ⟨k0,k1,k2,k3⟩:=box3 (YD.out.below hba))
  | (go_at_call 57
     refine (code_yes b HB.out hb20 C D cp' cq' m' _ HM'.out DB.out).mono ?_
     rintro e wb ⟨A8,n8,c8,qs,rfl,q1,q2,q3,q4,hbb⟩
     obtain ⟨k0,k1,k2,k3⟩:=box3 (XD.out.below hbb))
  | (go_at_call 56
     have hx:=hba
     have p4':=p4.keep hbc
     refine (eq_ints A7 A8 n7 n8 c7 c8 _ _ _ p4' q4 (pcode_pos p4') (pcode_pos q4) (by omega) (by omega)).mono ?_
     rintro e w9 ⟨rfl,hb9⟩
     rw [same_vb HA.out.wf HB.out.wf p1 q1 p2 q2]
     have HF:=hide (BD.out.trans ((hx.trans ((hbc.trans (hb9.mono hbc.size)).mono hx.size)).mono BD.out.size)))
  | (go_at_call 56
     have hx:=hbb
     have q4':=q4.keep hbc
     refine (eq_ints A7 A8 n7 n8 c7 c8 _ _ _ p4 q4' (pcode_pos p4) (pcode_pos q4') (by omega) (by omega)).mono ?_
     rintro e w9 ⟨rfl,hb9⟩
     rw [same_vb HA.out.wf HB.out.wf p1 q1 p2 q2]
     have HF:=hide (BD.out.trans ((hx.trans ((hbc.trans (hb9.mono hbc.size)).mono hx.size)).mono BD.out.size))))
 all_goals (go_wp2_with fail)
 all_goals (go_ret; exact ⟨rfl,HF.out⟩)
end Go.Proofs.Ytghdiolnonejaaa
end
