/-
 The texts He, Hf, Hq.
-/
import Derived.Test.YtghdiolnonejaaaGreatDoorA12
import Derived.Test.YtghdiolnonejaaaGreatDoorA14
import Derived.WalkMore
set_option linter.unusedVariables false
set_option linter.unusedSimpArgs false
section
namespace Go.Proofs.YtghdiolnonejaaaGreatDoor
open Go Go.RowKit
attribute [local go_sem ↓] Go.wp_at_zero Go.wp_at_succ
theorem wpList_insert_own {H:Type} {P:Program} (w:World) {ops:Array Oper} {rest:List Oper} {o:Oper} {a:Act} {Q:Exit → Act → World → Prop}
 (hg:o.guard = none) (m x v:Operand) (t:TypeId) (hop:o.op = Op.insert t m x v)
 (k e:TypeId) (K:Maps.Keyed P k) (ht:P.underlying t = some (.map k e)) (R:Value → Option (DataW H × List MemPlace)) (b n:Nat) (D:DataW H)
 (hm:a.eval m = .map (some b)) (hown:w.ownsMap P k R b n D) (hn:n < maxLen) (key val:Value) (kl:Lit) (hx:a.eval x = key) (hv:a.eval v = val) (hkey:keyOf P k key = some kl)
 (d:DataW H) (ps:List MemPlace) (hval:R val = some (d,ps))
 (hK:∀ w',w'.ownsMap P k R b (n + 1) (D.put kl d) → w.grownBy w' (some b) → wpList P ops Q rest (a.put o.dst undef) w') :
 wpList P ops Q (o :: rest) a w := by
 refine wpList_plain hg fun K' hK' => ?_
 obtain ⟨w',hrun,r1,r2⟩:=hown.update K ht hn hkey hval
 unfold Oper.wp
 simp [execOp,hop,hm,hx,hv,hrun,Result.andThen]
 exact hK' _ _ (hK w' r1 r2)
def SrPost (k:Nat) (d:Pl.Dg) (A B:Option Addr) (w:World) (e:Ending) (w':World):Prop :=
 (srB k d = false → e = .returned (.tuple #[.agg #[.slice none 0 0,.slice none 0 0,.int .i64 0],.slice none 0 0,.bool false])) ∧
 (srB k d = true → ∃ (A9 B9:Option Addr) (c8 c9:Nat) (v:Value),e = .returned (.tuple #[.agg #[.slice A9 (srD k d).n c8,.slice B9 (4 * (srD k d).n) c9,.int .i64 (srD k d).lp],v,.bool true]) ∧ (DgT w' A9 B9 (srD k d) ∨ (A9 = A ∧ B9 = B ∧ srD k d = d)) ∧ MovesIn w.heap.size w' v (srP k d)) ∧
 Below w.heap.size w w'
theorem apply_sl (r:Pl.Dg) (hr:Pl.Valid r) (A B:Option Addr) (n cp cq m lp:Nat) (k x y s:Int) (o:Bool) (w:World) (hn:n = r.n) (hm:m = 4 * r.n) (hl:lp = r.lp) (hg:DgAt w A B r) (h:(⟨k,x,y,s,o⟩:Mv) ∈ slD r) :
 Calls Tryz.prog 26 #[.agg #[.slice A n cp,.slice B m cq,.int .i64 (lp:Int)],.agg #[.int .i64 k,.int .i64 x,.int .i64 y,.int .i64 s,.bool o]] w fun e w' => ∃ (A8 B8:Option Addr) (b8 b9:Nat) (k9 x9 y9 s9:Int) (o9:Bool),e = .returned (.tuple #[.agg #[.slice A8 (apD r ⟨k,x,y,s,o⟩).n b8,.slice B8 (4 * (apD r ⟨k,x,y,s,o⟩).n) b9,.int .i64 ((apD r ⟨k,x,y,s,o⟩).lp:Int)],.agg #[.int .i64 k9,.int .i64 x9,.int .i64 y9,.int .i64 s9,.bool o9],.int .i64 0]) ∧ DgT w' A8 B8 (apD r ⟨k,x,y,s,o⟩) ∧ Below w.heap.size w w' := by
 subst hn
 subst hl
 obtain ⟨q,hq,hp,e,hc,hD⟩:=sl_ok h
 have hin:inR r.n ⟨5,(q:Nat),0,0,false⟩:=by unfold inR; simp; omega
 rw [hD]
 obtain ⟨rfl,rfl,rfl,rfl,rfl⟩:k = 5 ∧ x = (q:Int) ∧ y = 0 ∧ s = 0 ∧ o = false := by simpa using e
 refine (apply_5 r hr A B cp cq m q 0 0 false w hm hg hin).mono ?_
 rintro e w' ⟨_,h2,h3⟩
 obtain ⟨A8,B8,b8,b9,k9,x9,y9,s9,o9,_,he,hT⟩:=(h2 (by unfold sldC; simp [hp.2.2])).split
 exact ⟨A8,B8,b8,b9,k9,x9,y9,s9,o9,he,hT,h3⟩
theorem Slides_n (r:Pl.Dg) (hr:Pl.Valid r) (A B:Option Addr) (n cp cq m lp:Nat) (w:World) (hn:n = r.n) (hm:m = 4 * r.n) (hl:lp = r.lp) (hg:DgAt w A B r) :
 Calls Tryz.prog 43 #[.agg #[.slice A n cp,.slice B m cq,.int .i64 (lp:Int)]] w fun e w' => ∃ v,e = .returned v ∧ MovesAt w' v (slD r) ∧ Below w.heap.size w w' := by
 subst hn
 subst hl
 refine (Slides_any r hr A B cp cq m w hm hg).mono ?_
 rintro e w' ⟨v,h1,h2,h3⟩
 rw [hm] at h2
 exact ⟨v,h1,h2,h3⟩
theorem key_n (d:Pl.Dg) (hd:Pl.Valid d) (h20:d.n ≤ 20) (A B:Option Addr) (n cp cq m lp:Nat) (w:World) (hn:n = d.n) (hm:m = 4 * d.n) (hl:lp = d.lp) (hg:DgAt w A B d) (ht:GT w) :
 Calls Tryz.prog 36 #[.agg #[.slice A n cp,.slice B m cq,.int .i64 (lp:Int)]] w (KeyPost d w) := by
 subst hn
 subst hl
 exact key_any d hd h20 A B cp cq m w hm hg ht
theorem MovesAt.kp {W W':World} {v:Value} {ms:List Mv} (h:MovesAt W v ms) (k:KpT 43 W W'):MovesAt W' v ms := let ⟨b,h⟩:=h; ⟨b,own_kp h k⟩
theorem SrL.no {w W:World} {A0 B0 A B:Option Addr} {d0:Pl.Dg} {k gm:Nat} {dv:List Value} {v:Value} {zs:List Nm} (h:SrL w A0 B0 d0 k dv gm v zs W) (hb:srB k d0 = false) :
 SrPost k d0 A B w (.returned (.tuple #[.agg #[.slice none 0 0,.slice none 0 0,.int .i64 0],.slice none 0 0,.bool false])) (((W.setCell ⟨w.heap.size + 1,0,none⟩ (.slice none 0 0)).setCell ⟨w.heap.size + 1,1,none⟩ (.slice none 0 0)).setCell ⟨w.heap.size + 1,2,none⟩ (.int .i64 0)) :=
 by
 refine ⟨fun _ => rfl,fun h2 => ?_,below3 h.bel (by omega) _ _ _⟩
 rw [hb] at h2
 cases h2
theorem SrL.yes {w w16 W:World} {A0 B0:Option Addr} {d0:Pl.Dg} {k gm F c:Nat} {dv:List Value} {v:Value} {zs:List Nm} {z1:Nm} {l1:List Nd} {a:Option Addr} {P:List Mv} (h:SrL w A0 B0 d0 k dv gm v zs W) (hr:srR k d0 = (l1,2)) (hl:l1 = zs.map Nm.a) (hlen:l1.length = F + 1) (hz:zs[F]? = some z1) (hP:P = pt l1 F)
 (ho:W.ownsRow w16.heap.size 43 5 (.slice a P.length c) P.length (mvs P.reverse)) (h16:w.heap.size + 1 < w16.heap.size) (h17:w16.heap.size ≤ W.heap.size) :
 SrPost k d0 A0 B0 w (.returned (.tuple #[.agg #[.slice z1.A z1.a.d.n z1.c,.slice z1.B (4 * z1.a.d.n) z1.e,.int .i64 z1.a.d.lp],.slice a P.length c,.bool true])) (((W.setCell ⟨w.heap.size + 1,0,none⟩ (.slice z1.A z1.a.d.n z1.c)).setCell ⟨w.heap.size + 1,1,none⟩ (.slice z1.B (4 * z1.a.d.n) z1.e)).setCell ⟨w.heap.size + 1,2,none⟩ (.int .i64 z1.a.d.lp)) := by
 have hb:srB k d0 = true:=by unfold srB; rw [hr]; rfl
 have hlF:l1[F]? = some z1.a:=by rw [hl,List.getElem?_map,hz]; rfl
 have hD:srD k d0 = z1.a.d:=by
  unfold srD
  rw [hr]
  show ((l1.getLast?).getD (nd0 d0)).d = _
  rw [List.getLast?_eq_getElem?,hlen,Nat.add_sub_cancel,hlF]
  rfl
 have hp:srP k d0 = P.reverse:=by
  unfold srP
  rw [hr,hP]
  show (pt l1 (l1.length - 1)).reverse = _
  rw [hlen,Nat.add_sub_cancel]
 refine ⟨fun h2 => ?_,fun _ => ?_,below3 h.bel (by omega) _ _ _⟩
 ·rw [hb] at h2
  cases h2
 ·rw [hD,hp]
  refine ⟨z1.A,z1.B,z1.c,z1.e,_,rfl,?_,w16.heap.size,by omega,by simp; omega,?_⟩
  ·rcases h.nt z1 (List.mem_of_getElem? hz) with t | t
   ·exact .inl (t.set3 h.rs _ _ _)
   ·exact .inr t
  ·rw [List.length_reverse]
   exact ownsRow_setCell_below (ownsRow_setCell_below (ownsRow_setCell_below ho (by show w.heap.size + 1 < _; omega) _) (by show w.heap.size + 1 < _; omega) _) (by show w.heap.size + 1 < _; omega) _
theorem MovesAt.cells {W:World} {A:Option Addr} {n c j:Nat} {ms:List Mv} (h:MovesAt W (.slice A n c) ms) (hj:j < n):∃ g k x y s o,A = some ⟨g,0,none⟩ ∧ g < W.heap.size ∧ ms[j]? = some ⟨k,x,y,s,o⟩ ∧ W.cell? ⟨g,j * 5,none⟩ = some (.int .i64 k) ∧ W.cell? ⟨g,j * 5 + 1,none⟩ = some (.int .i64 x) ∧ W.cell? ⟨g,j * 5 + 2,none⟩ = some (.int .i64 y) ∧ W.cell? ⟨g,j * 5 + 3,none⟩ = some (.int .i64 s) ∧ W.cell? ⟨g,j * 5 + 4,none⟩ = some (.bool o) := by
 obtain ⟨A',c',e,hV⟩:=h.mv
 injection e with e1 e2 e3
 subst e1
 subst e2
 exact hV.at_ hj
structure SrI (w:World) (A0 B0:Option Addr) (d0:Pl.Dg) (k:Nat) (dv:List Value) (gm:Nat) (i:Nat) (z:Nm) (l0:List Nd) (g11:Nat) (vS:Value) (j:Nat) (v:Value) (zs:List Nm) (W:World):Prop where
 s:SrL w A0 B0 d0 k dv gm v zs W
 at_:Row W g11 75 z.v
 ne:v.ownBlock ≠ some g11
 mv:MovesAt W vS (slD z.a.d)
 inl:inn i z.a ((slD z.a.d).drop j) (zs.map Nm.a) = inn i z.a (slD z.a.d) l0
 hz:zs[i]? = some z
theorem SrI.below {w W W':World} {A0 B0:Option Addr} {d0:Pl.Dg} {k gm i g11 j:Nat} {dv:List Value} {z:Nm} {l0:List Nd} {vS v:Value} {zs:List Nm} (h:SrI w A0 B0 d0 k dv gm i z l0 g11 vS j v zs W) (hb:Below W.heap.size W W'):SrI w A0 B0 d0 k dv gm i z l0 g11 vS j v zs W' :=
 ⟨h.s.below hb,h.at_.below hb,h.ne,h.mv.kp (.of_below hb),h.inl,h.hz⟩
theorem box10 {W:World} {g:Nat} {t:TypeId} {a b c d e f x y u v:Value} (h:Row W g t [a,b,c,d,e,f,x,y,u,v]) :
 W.cell? ⟨g,0,none⟩ = some a ∧ W.cell? ⟨g,1,none⟩ = some b ∧ W.cell? ⟨g,2,none⟩ = some c ∧ W.cell? ⟨g,3,none⟩ = some d ∧ W.cell? ⟨g,4,none⟩ = some e ∧ W.cell? ⟨g,5,none⟩ = some f ∧ W.cell? ⟨g,6,none⟩ = some x ∧ W.cell? ⟨g,7,none⟩ = some y ∧ W.cell? ⟨g,8,none⟩ = some u ∧ W.cell? ⟨g,9,none⟩ = some v ∧ ∀ o,W.frozen? ⟨g,o,none⟩ = false := by
 refine ⟨?_,?_,?_,?_,?_,?_,?_,?_,?_,?_,Row.free h⟩ <;> exact cell_of_row _ _ _ _ _ _ h
set_option maxRecDepth 100000 in
set_option maxHeartbeats 1600000 in
theorem search_any (d:Pl.Dg) (hd:Pl.Valid d) (h20:d.n ≤ 20) (k:Nat) (hk:k ≤ 8) (A B:Option Addr) (cp cq m:Nat) (w:World) (hm:m = 4 * d.n) (hg:DgAt w A B d) (ht:GT w) :
 Calls Tryz.prog 24 #[.agg #[.slice A d.n cp,.slice B m cq,.int .i64 d.lp],.int .i64 (k:Int)] w (SrPost k d A B w) := by
 have HM:=hide hm
 have HG:=hide hg
 have HT:=hide ht
 have HD:=hide hd
 have hdn:=hd.wf.few
 have hdl:=hd.wf.lp
 clear hm hg ht
 obtain ⟨V0,hV0⟩:∃ W,W = (w.alloc (.cells #[.slice A d.n cp,.slice B m cq,.int .i64 (d.lp:Int)] 24)).alloc (.cells #[.slice none 0 0,.slice none 0 0,.int .i64 0] 24) := ⟨_,rfl⟩
 have X0:=hide (show Row V0 w.heap.size 24 [.slice A d.n cp,.slice B m cq,.int .i64 (d.lp:Int)] by rw [hV0]; exact (row_at (vs := [.slice A d.n cp,.slice B m cq,.int .i64 (d.lp:Int)]) rfl).alloc _)
 have Y0:=hide (show Row V0 (w.heap.size + 1) 24 [.slice none 0 0,.slice none 0 0,.int .i64 0] by rw [hV0]; exact row_at (vs := [.slice none 0 0,.slice none 0 0,.int .i64 0]) (by simp))
 have B0:=hide (show Below w.heap.size w V0 by rw [hV0]; exact ((Below.refl _ _).alloc (Nat.le_refl _) _).alloc (by simp) _)
 have hs0:V0.heap.size = w.heap.size + 1 + 1:=by rw [hV0]; simp
 go_enter Tryz.func24,Tryz.ntmps24
 go_wp2
 go_step3
 rw [← hV0]
 have HV0:=hide hV0
 clear hV0
 obtain ⟨d0,d1,d2,d3⟩:=box3 X0.out
 go_upto_region 2 with fail
 obtain ⟨z0,hz0⟩:∃ z:Nm,z = ⟨nd0 d,A,B,cp,cq⟩:=⟨_,rfl⟩
 obtain ⟨V1,hV1⟩:∃ W,W = V0.alloc (.cells #[.slice A d.n cp,.slice B m cq,.int .i64 (d.lp:Int),.int .i64 0,.int .i64 0,.int .i64 0,.int .i64 0,.bool false,.int .i64 (-1),.int .i64 0] 75) := ⟨_,rfl⟩
 have hz0v:z0.v = [.slice A d.n cp,.slice B m cq,.int .i64 (d.lp:Int),.int .i64 0,.int .i64 0,.int .i64 0,.int .i64 0,.bool false,.int .i64 (-1),.int .i64 0]:=by rw [hz0,HM.out]; rfl
 have b01:Below V0.heap.size V0 V1:=by rw [hV1]; exact (Below.refl _ _).alloc (Nat.le_refl _) _
 have hs1:V1.heap.size = w.heap.size + 1 + 1 + 1:=by rw [hV1]; simp [hs0]
 have OW1:=hide (show V1.ownsRow (w.heap.size + 1 + 1) 75 10 (.slice (some ⟨w.heap.size + 1 + 1,0,none⟩) 1 1) 1 (nms [z0]) from by
  refine ⟨by rw [nms_len]; rfl,.inr ⟨w.heap.size + 1 + 1,1,z0.v.toArray,rfl,Nat.le_refl _,?_,Nat.le_refl _,by unfold maxLen; omega,rfl,by simp [nms]; rfl⟩⟩
  rw [hz0v]
  exact row_at (W := V0) (vs := [.slice A d.n cp,.slice B m cq,.int .i64 (d.lp:Int),.int .i64 0,.int .i64 0,.int .i64 0,.int .i64 0,.bool false,.int .i64 (-1),.int .i64 0]) hs0.symm |> fun h => by rw [hV1]; exact h)
 have MP2:=hide (MapIs.new V1)
 rw [hs1] at MP2
 have MM:(Instr.makeMap 77 none).run Tryz.prog V1 = .ok (.map (some (w.heap.size + 1 + 1 + 1))) (V1.alloc (.map #[] 0)):=by
  rw [← hs1]
  rfl
 rw [← hV1]
 obtain ⟨V2,hV2⟩:∃ W,W = V1.alloc (.map #[] 0) := ⟨_,rfl⟩
 have b12:Below V1.heap.size V1 V2:=by rw [hV2]; exact (Below.refl _ _).alloc (Nat.le_refl _) _
 have X2:=hide ((X0.out.below b01).below b12)
 have Y2:=hide ((Y0.out.below b01).below b12)
 have B2:=hide ((B0.out.trans (b01.mono B0.out.size)).trans (b12.mono (by rw [hs1]; omega)))
 have OW2:=hide (own_below OW1.out b12)
 have HZ0:=hide hz0
 have HS2:=hide (show V2.heap.size = w.heap.size + 1 + 1 + 1 + 1 by rw [hV2]; simp [hs1])
 rw [← hV2] at MP2 MM
 clear b01 b12 hz0 hz0v hs0 hs1 hV1 hV2 d0 d1 d2 d3 OW1 X0 Y0 B0
 obtain ⟨d0,d1,d2,d3⟩:=box3 X2.out
 go_wp2_with fail
 refine (key_any d HD.out h20 A B cp cq m _ HM.out (HG.out.keep B2.out) (HT.out.below B2.out)).mono ?_
 rintro e w3 ⟨sk,rfl,hsk,hsz,hb3⟩
 have HSK:=hide hsk
 have X3:=hide (X2.out.below hb3)
 have Y3:=hide (Y2.out.below hb3)
 have B3:=hide (B2.out.trans (hb3.mono B2.out.size))
 have OW3:=hide (own_below OW2.out hb3)
 have MP3:=hide (MP2.out.same (hb3.block _ MP2.out.lt))
 have hs3:w.heap.size + 1 + 1 + 1 + 1 ≤ w3.heap.size:=by have := hb3.size; rw [HS2.out] at this; exact this
 clear hsk hb3 d0 d1 d2 d3 X2 Y2 B2 OW2 MP2 HS2 MM
 obtain ⟨n3,D3,om3,hn3,hD3⟩:=MP3.out
 have OM3:=hide om3
 have HN3:=hide hn3
 have HD3:=hide hD3
 have hn3m:n3 < maxLen:=by have:n3 ≤ 0 := hn3; unfold maxLen; omega
 clear om3 hn3 hD3
 go_wp2_with (refine wpList_insert_own _ (by rfl) _ _ _ 77 (by rfl) 9 4 skKey Tryz.underlying77 (plainElem Tryz.prog 4) (w.heap.size + 1 + 1 + 1) n3 D3 (by rfl) OM3.out hn3m (.string sk) (.bool true) (.string sk.data.toList) (by rfl) (by rfl) (WideMaps.keyOf_string_mk Tryz.underlying9 (by unfold maxLen; omega)) _ _ (plainElem_bool Tryz.underlying4 true) ?_; intro w4 om4 gr4; have OM4 := hide om4; have GR4 := hide gr4; clear om4 gr4)
 have L4:=hide (show SrL w A B d k [.slice A d.n cp,.slice B m cq,.int .i64 (d.lp:Int)] (w.heap.size + 1 + 1 + 1) (.slice (some ⟨w.heap.size + 1 + 1,0,none⟩) 1 1) [z0] w4 from by
  have k1:∀ t,KpT t w3 w4:=fun t => .of_map GR4.out MP3.out.obj
  refine ⟨X3.out.kp (k1 _),Y3.out.kp (k1 _),own_kp OW3.out (k1 _),fun z hz => ?_,?_,?_,by omega,B3.out.grown GR4.out B3.out.size (fun k hk => by injection hk with hk; omega)⟩
  ·rw [List.mem_singleton.1 hz,HZ0.out]
   exact .inr ⟨rfl,rfl,rfl⟩
  ·rw [HZ0.out]
   exact LOk.start HD.out k
  ·have:=MapIs.put OM3.out HN3.out HD3.out sk.data.toList OM4.out
   rw [HSK.out] at this
   rw [HZ0.out]
   exact this)
 have HSR:=hide (show outr k 301 0 ([z0].map Nm.a) = srR k d by rw [HZ0.out]; rfl)
 clear X3 Y3 B3 OW3 MP3 HN3 HD3 OM3 OM4 GR4 HZ0 HSK hs3 hn3m hsz
 go_wp2
 go_step3
 go_wp2_with fail
 go_loopg [7,9,10,11,13,14,15,16,17,45] 300 (fun g s7 s9 s10 s11 s13 s14 s15 s16 s17 s45 wx => ∃ (i:Nat) (zs:List Nm),i + g = 300 ∧ i ≤ zs.length ∧ s9 = .int .i64 (-1) ∧ s10 = .int .i64 (i:Int) ∧ outr k (g + 1) i (zs.map Nm.a) = srR k d ∧ SrL w A B d k [.slice A d.n cp,.slice B m cq,.int .i64 (d.lp:Int)] (w.heap.size + 1 + 1 + 1) s7 zs wx)
 case atStart => exact ⟨0,[z0],by omega,by simp,rfl,rfl,HSR.out,L4.out⟩
 case round =>
  clear L4 HSR
  obtain ⟨i,zs,hig,hil,rfl,rfl,hsr,hl⟩:=hrel
  have HIG:=hide hig
  have HSR:=hide hsr
  have K0:=hide hl
  have hz3:zs.length ≤ 300:=by have := hl.ok.few; rw [List.length_map] at this; exact this
  clear hig hsr hl
  obtain ⟨gO,hgO⟩:∃ g,g = gk := ⟨_,rfl⟩
  rw [← hgO] at HIG HSR
  obtain ⟨N,hN⟩:∃ n,n = zs.length := ⟨_,rfl⟩
  have HN:=hide hN
  obtain ⟨aLst,cL,hvL⟩:=owns_slice K0.out.own
  subst hvL
  by_cases hi:i < N
  ·have hii:(i:Int) < (N:Int):=by omega
   have i0:(0:Int) ≤ (i:Int):=by omega
   obtain ⟨z,hz⟩:∃ z,zs[i]? = some z := ⟨_,List.getElem?_eq_getElem (by rw [← hN]; exact hi)⟩
   have HZ:=hide hz
   have HMA:=hide (show (zs.map Nm.a)[i]? = some z.a by rw [List.getElem?_map,hz]; rfl)
   have NOK:=hide (K0.out.ok.at_ i z.a HMA.out)
   have hN0:0 < zs.length:=by omega
   obtain ⟨gl,cap,hA,hcap,hgl⟩:=World.ownsRow.form K0.out.own hN0
   injection hA with hA _ hcc
   subst hA
   subst hcc
   have CA:=fun (t:Nat) (u:Value) (ht:t < 10) (e:z.v[t]? = some u) => (show wr.cell? ⟨gl,i * 10 + t,none⟩ = some u by rw [World.ownsRow.cellAt K0.out.own _ (by omega),nms_get zs i z hz t u e])
   rw [← hN]
   have hN3:N ≤ 300:=by omega
   have HV:=hide (show z.v = z.v from rfl)
   have NTZ:=hide (K0.out.nt z (List.mem_of_getElem? hz))
   obtain ⟨⟨dz,⟨zk,zx,zy,zsg,zo⟩,zf,zsl⟩,zA,zB,zc,ze⟩:=z
   have c0:=CA 0 _ (by omega) rfl
   have c1:=CA 1 _ (by omega) rfl
   have c2:=CA 2 _ (by omega) rfl
   have c3:=CA 3 _ (by omega) rfl
   have c4:=CA 4 _ (by omega) rfl
   have c5:=CA 5 _ (by omega) rfl
   have c6:=CA 6 _ (by omega) rfl
   have c7:=CA 7 _ (by omega) rfl
   have c8:=CA 8 _ (by omega) rfl
   have c9:=CA 9 _ (by omega) rfl
   rw [Nat.add_zero] at c0
   simp only at c0 c1 c2 c3 c4 c5 c6 c7 c8 c9
   obtain ⟨n8,hn8⟩:∃ n,n = dz.n := ⟨_,rfl⟩
   obtain ⟨m8,hm8⟩:∃ n,n = 4 * dz.n := ⟨_,rfl⟩
   obtain ⟨l8,hl8⟩:∃ n,n = dz.lp := ⟨_,rfl⟩
   rw [← hn8] at c0
   rw [← hm8] at c1
   rw [← hl8] at c2
   have HN8:=hide hn8
   have HM8:=hide hm8
   have HL8:=hide hl8
   have hsk:zsl ≤ 8:=by have := NOK.out.s; simp only at this; omega
   clear CA hz HV hn8 hm8 hl8 hN0 hcap
   go_upto_region 8 with fail
   obtain ⟨W7,hW7⟩:∃ W,W = wr.alloc (.cells #[.slice zA n8 zc,.slice zB m8 ze,.int .i64 (l8:Int),.int .i64 zk,.int .i64 zx,.int .i64 zy,.int .i64 zsg,.bool zo,.int .i64 zf,.int .i64 (zsl:Int)] 75) := ⟨_,rfl⟩
   obtain ⟨g11,hg11⟩:∃ g,g = wr.heap.size := ⟨_,rfl⟩
   rw [← hW7,← hg11]
   have b7:Below wr.heap.size wr W7:=by rw [hW7]; exact (Below.refl _ _).alloc (Nat.le_refl _) _
   have R7:=hide (show Row W7 g11 75 [.slice zA n8 zc,.slice zB m8 ze,.int .i64 (l8:Int),.int .i64 zk,.int .i64 zx,.int .i64 zy,.int .i64 zsg,.bool zo,.int .i64 zf,.int .i64 (zsl:Int)] by
    rw [hW7]
    exact row_at (vs := [.slice zA n8 zc,.slice zB m8 ze,.int .i64 (l8:Int),.int .i64 zk,.int .i64 zx,.int .i64 zy,.int .i64 zsg,.bool zo,.int .i64 zf,.int .i64 (zsl:Int)]) hg11)
   have K7:=hide (K0.out.below b7)
   have B07:=hide b7
   have hne7:(Value.slice (some ⟨gl,0,none⟩) N cL).ownBlock ≠ some g11:=fun e => by
    have e:gl = g11:=by injection e
    omega
   have hg2:w.heap.size + 1 < g11:=by have := K0.out.big; omega
   clear hW7 hg11 b7 c0 c1 c2 c3 c4 c5 c6 c7 c8 c9
   obtain ⟨c0,c1,c2,c3,c4,c5,c6,c7,c8,c9,cf⟩:=box10 R7.out
   by_cases hkz:k ≤ zsl
   ·have hkzi:(k:Int) ≤ (zsl:Int):=by omega
    go_wp2_with fail
    go_roundg (gO - 1)
    case measure => have := HIG.out; omega
    case rel => exact ⟨i + 1,zs,by have := HIG.out; omega,by omega,by go_num,by go_num,by
     rw [← HSR.out,out_far HMA.out hkz]
     have:=HIG.out
     rw [show gO - 1 + 1 = gO by omega],K7.out⟩
   ·have hkzi:¬ ((k:Int) ≤ (zsl:Int)):=by omega
    go_wp2_with fail
    refine (Slides_n dz NOK.out.v zA zB n8 zc ze m8 l8 _ HN8.out HM8.out HL8.out (NTZ.out.dg HG.out K0.out.bel |>.keep (by have := K7.out.bel; exact B07.out))).mono ?_
    rintro e w8 ⟨vS,rfl,hmv,hb8⟩
    obtain ⟨A5,c5',rfl,hV⟩:=hmv.mv
    obtain ⟨n5,hn5⟩:∃ n,n = (slD dz).length := ⟨_,rfl⟩
    have HN5:=hide hn5
    rw [← hn5] at hmv hV ⊢
    have hn5b:n5 ≤ 256:=by
     rw [hn5]
     have h1:=slL_len dz (4 * dz.n)
     have h2:=NOK.out.v.wf.few
     simp only at h2
     unfold slD
     omega
    have I8:=hide (show SrI w A B d k [.slice A d.n cp,.slice B m cq,.int .i64 (d.lp:Int)] (w.heap.size + 1 + 1 + 1) i ⟨⟨dz,⟨zk,zx,zy,zsg,zo⟩,zf,zsl⟩,zA,zB,zc,ze⟩ (zs.map Nm.a) g11 (.slice A5 n5 c5') 0 (.slice (some ⟨gl,0,none⟩) zs.length cL) zs w8 from
     ⟨K7.out.below hb8,by have := R7.out.below hb8; rw [HN8.out,HM8.out,HL8.out] at this; exact this,by rw [HN.out] at hne7; exact hne7,hmv,by rw [List.drop_zero],HZ.out⟩)
    clear hmv hV hn5 hb8 c0 c1 c2 c3 c4 c5 c6 c7 c8 c9 cf K7 R7 K0 NTZ B07 HZ
    go_wp2_with fail
    go_loopg [7,9,13,14,15,16,17,45] n5 (fun g s7 s9 s13 s14 s15 s16 s17 s45 wx => ∃ (j:Nat) (zs':List Nm),j + g = n5 ∧ s9 = .int .i64 (-1) ∧ s45 = .int .i64 (j:Int) ∧ SrI w A B d k [.slice A d.n cp,.slice B m cq,.int .i64 (d.lp:Int)] (w.heap.size + 1 + 1 + 1) i ⟨⟨dz,⟨zk,zx,zy,zsg,zo⟩,zf,zsl⟩,zA,zB,zc,ze⟩ (zs.map Nm.a) g11 (.slice A5 n5 c5') j s7 zs' wx)
    case atStart => exact ⟨0,zs,by omega,rfl,rfl,I8.out⟩
    case round =>
     clear I8
     obtain ⟨j,zs',hjg,rfl,rfl,hl⟩:=hrel
     have HJG:=hide hjg
     have J0:=hide hl
     have hjn:j ≤ n5:=by omega
     have hz3':zs'.length ≤ 300:=by have := hl.s.ok.few; rw [List.length_map] at this; exact this
     clear hjg hl
     obtain ⟨gI,hgI⟩:∃ g,g = gk := ⟨_,rfl⟩
     rw [← hgI] at HJG
     obtain ⟨aL2,cL2,hvL2⟩:=owns_slice J0.out.s.own
     subst hvL2
     by_cases hj:j < n5
     ·have hji:(j:Int) < (n5:Int):=by omega
      have j0:(0:Int) ≤ (j:Int):=by omega
      obtain ⟨g5,mk,mx,my,ms,mo,rfl,hg5,hmv,c0,c1,c2,c3,c4⟩:=J0.out.mv.cells hj
      have HMV:=hide hmv
      have HMM:=hide (show (⟨mk,mx,my,ms,mo⟩:Mv) ∈ slD dz from List.mem_of_getElem? hmv)
      clear hmv
      go_upto_region 12 with fail
      obtain ⟨W9,hW9⟩:∃ W,W = wr.alloc (.cells #[.int .i64 mk,.int .i64 mx,.int .i64 my,.int .i64 ms,.bool mo] 43) := ⟨_,rfl⟩
      obtain ⟨gM,hgM⟩:∃ g,g = wr.heap.size := ⟨_,rfl⟩
      rw [← hW9,← hgM]
      have b9w:Below wr.heap.size wr W9:=by rw [hW9]; exact (Below.refl _ _).alloc (Nat.le_refl _) _
      have RM:=hide (show Row W9 gM 43 [.int .i64 mk,.int .i64 mx,.int .i64 my,.int .i64 ms,.bool mo] by
       rw [hW9]
       exact row_at (vs := [.int .i64 mk,.int .i64 mx,.int .i64 my,.int .i64 ms,.bool mo]) hgM)
      have J9:=hide (J0.out.below b9w)
      have hgM0:wr.heap.size ≤ gM:=by omega
      clear hW9 hgM b9w c0 c1 c2 c3 c4 J0
      have RA:=hide (show Row W9 g11 75 [.slice zA n8 zc,.slice zB m8 ze,.int .i64 (l8:Int),.int .i64 zk,.int .i64 zx,.int .i64 zy,.int .i64 zsg,.bool zo,.int .i64 zf,.int .i64 (zsl:Int)] from by
       have:=J9.out.at_
       rw [HN8.out,HM8.out,HL8.out]
       exact this)
      obtain ⟨c0,c1,c2,c3,c4,c5,c6,c7,c8,c9,cf⟩:=box10 RA.out
      obtain ⟨p0,p1,p2,p3,p4,pf⟩:=box5 RM.out
      have D9:=hide (((J9.out.s.nt _ (List.mem_of_getElem? J9.out.hz)).dg HG.out J9.out.s.bel))
      simp only at D9
      go_wp2_with fail
      refine (apply_sl dz NOK.out.v zA zB n8 zc ze m8 l8 mk mx my ms mo _ HN8.out HM8.out HL8.out D9.out HMM.out).mono ?_
      rintro e w10 ⟨A8,B8,b8,b9,k9,x9,y9,s9,o9,rfl,hT,hb10⟩
      have HSL:=hide (sl_n NOK.out.v HMM.out)
      obtain ⟨r2,hr2⟩:∃ r2,r2 = apD dz ⟨mk,mx,my,ms,mo⟩:=⟨_,rfl⟩
      rw [← hr2] at hT HSL ⊢
      have HR2:=hide hr2
      obtain ⟨n9,hn9⟩:∃ n,n = r2.n := ⟨_,rfl⟩
      obtain ⟨m9,hm9⟩:∃ n,n = 4 * r2.n := ⟨_,rfl⟩
      obtain ⟨l9,hl9⟩:∃ n,n = r2.lp := ⟨_,rfl⟩
      rw [← hm9,← hn9,← hl9]
      have HN9:=hide hn9
      have HM9:=hide hm9
      have HL9:=hide hl9
      have HT9:=hide hT
      have J10:=hide (J9.out.below hb10)
      have RM10:=hide (RM.out.below hb10)
      clear hr2 hn9 hm9 hl9 hT hb10 c0 c1 c2 c3 c4 c5 c6 c7 c8 c9 cf p0 p1 p2 p3 p4 pf D9 J9 RM RA
      go_upto_region 13 with fail
      obtain ⟨W11,hW11⟩:∃ W,W = (w10.alloc (.cells #[.slice A8 n9 b8,.slice B8 m9 b9,.int .i64 (l9:Int)] 24)).alloc (.cells #[.int .i64 k9,.int .i64 x9,.int .i64 y9,.int .i64 s9,.bool o9] 43) := ⟨_,rfl⟩
      obtain ⟨gA,hgA⟩:∃ g,g = w10.heap.size := ⟨_,rfl⟩
      rw [← hW11,← hgA]
      have b11:Below w10.heap.size w10 W11:=by rw [hW11]; exact ((Below.refl _ _).alloc (Nat.le_refl _) _).alloc (by simp) _
      have RA11:=hide (show Row W11 gA 24 [.slice A8 n9 b8,.slice B8 m9 b9,.int .i64 (l9:Int)] by
       rw [hW11]
       exact (row_at (vs := [.slice A8 n9 b8,.slice B8 m9 b9,.int .i64 (l9:Int)]) hgA).alloc _)
      have J11:=hide (J10.out.below b11)
      have RM11:=hide (RM10.out.below b11)
      have HT11:=hide (HT9.out.keep b11)
      clear hW11 hgA b11 J10 RM10 HT9
      obtain ⟨q0,q1,q2,qf⟩:=box3 RA11.out
      go_wp2_with fail
      refine (key_n r2 HSL.out.1 (by have h1 := HSL.out.2.1; have h2 := NOK.out.n; simp only at h2; omega) A8 B8 n9 b8 b9 m9 l9 _ HN9.out HM9.out HL9.out HT11.out.at (HT.out.below J11.out.s.bel)).mono ?_
      rintro e w12 ⟨sk2,rfl,hsk,hsz,hb12⟩
      have HSK:=hide hsk
      have RA12:=hide (RA11.out.below hb12)
      have J12:=hide (J11.out.below hb12)
      have RM12:=hide (RM11.out.below hb12)
      have HT12:=hide (HT11.out.keep hb12)
      clear hsk hb12 q0 q1 q2 qf RA11 J11 RM11 HT11
      have hlook:=J12.out.s.mp.look sk2 (by unfold maxLen; omega)
      have HDR:=hide (List.drop_eq_getElem_cons (l := slD dz) (i := j) (by have := HN5.out; omega))
      rw [show (slD dz)[j]'(by have := HN5.out; omega) = ⟨mk,mx,my,ms,mo⟩ from (List.getElem?_eq_some_iff.1 HMV.out).2] at HDR
      have HIL:=hide (show inn i ⟨dz,⟨zk,zx,zy,zsg,zo⟩,zf,zsl⟩ (⟨mk,mx,my,ms,mo⟩ :: (slD dz).drop (j + 1)) (zs'.map Nm.a) = inn i ⟨dz,⟨zk,zx,zy,zsg,zo⟩,zf,zsl⟩ (slD dz) (zs.map Nm.a) by
       rw [← HDR.out]
       exact J12.out.inl)
      by_cases hkn:keyD r2 ∈ keysL (zs'.map Nm.a)
      ·rw [HSK.out,Pl.vb_true hkn] at hlook
       have HI2:=hide (show inn i ⟨dz,⟨zk,zx,zy,zsg,zo⟩,zf,zsl⟩ ((slD dz).drop (j + 1)) (zs'.map Nm.a) = inn i ⟨dz,⟨zk,zx,zy,zsg,zo⟩,zf,zsl⟩ (slD dz) (zs.map Nm.a) by
        rw [← HIL.out,inn_known (a := ⟨dz,⟨zk,zx,zy,zsg,zo⟩,zf,zsl⟩) (z := ⟨mk,mx,my,ms,mo⟩) (i := i) (l := zs'.map Nm.a) (r := (slD dz).drop (j + 1)) (by show keyD (apD dz _) ∈ _; rw [← HR2.out]; exact hkn)])
       clear hkn
       go_wp2_with fail
       go_roundg (gI - 1)
       case measure => have := HJG.out; omega
       case rel => exact ⟨j + 1,zs',by have := HJG.out; omega,by go_num,by go_num,⟨J12.out.s,J12.out.at_,J12.out.ne,J12.out.mv,HI2.out,J12.out.hz⟩⟩
      ·rw [HSK.out,Pl.vb_false hkn] at hlook
       have HKN:=hide (show keyD (apD dz ⟨mk,mx,my,ms,mo⟩) ∉ keysL (zs'.map Nm.a) by rw [← HR2.out]; exact hkn)
       clear hkn
       by_cases h3:zs'.length = 300
       ·have h3i:((zs'.length:Int) == 300) = true:=by rw [beq_iff_eq]; omega
        have H3:=hide h3
        have HB:=hide (show srB k d = false by
         have h1:=HIL.out
         rw [inn_full (a := ⟨dz,⟨zk,zx,zy,zsg,zo⟩,zf,zsl⟩) (z := ⟨mk,mx,my,ms,mo⟩) (i := i) (l := zs'.map Nm.a) (r := (slD dz).drop (j + 1)) HKN.out (by rw [List.length_map]; exact h3)] at h1
         unfold srB
         rw [← HSR.out,out_done (k := k) (f := gO) (i := i) (a := ⟨dz,⟨zk,zx,zy,zsg,zo⟩,zf,zsl⟩) (l := zs.map Nm.a) (r := (zs'.map Nm.a,1)) HMA.out hkz h1.symm (show (1:Nat) ≠ 0 by decide)]
         rfl)
        obtain ⟨e0,e1,e2,e3⟩:=box3 J12.out.s.rs
        clear h3
        go_wp2_with fail
        rw [Exit.noGoto_ret]
        have RR:=row3 J12.out.s.rs rfl (.slice none 0 0) (.slice none 0 0) (.int .i64 0)
        refine bodyPost_ret (v := .tuple #[.agg #[.slice none 0 0,.slice none 0 0,.int .i64 0],.slice none 0 0,.bool false]) ?_ rfl ?_
        ·obtain ⟨r0,r1,r2,r3⟩:=box3 RR
         simp [results,Tryz.results24,go_sem,r0,r1,r2]
        ·exact J12.out.s.no HB.out
       ·have h3i:((zs'.length:Int) == 300) = false:=by rw [beq_eq_false_iff_ne]; omega
        have H3:=hide h3
        clear h3
        go_upto_region 17 with fail
        obtain ⟨n3,D3,om3,hn3,hD3⟩:=J12.out.s.mp
        have OM3:=hide om3
        have HN3:=hide hn3
        have HD3:=hide hD3
        have hn3m:n3 < maxLen:=by
         have:=hn3
         unfold keysL at this
         rw [List.length_map,List.length_map] at this
         unfold maxLen
         omega
        clear om3 hn3 hD3 hlook
        go_upto_region 18 with (refine wpList_mapUpdate_own _ (by rfl) _ _ _ 77 (by rfl) 9 4 skKey Tryz.underlying77 (plainElem Tryz.prog 4) (w.heap.size + 1 + 1 + 1) n3 D3 (by rfl) OM3.out hn3m (.string sk2) (.bool true) (.string sk2.data.toList) (by rfl) (by rfl) (WideMaps.keyOf_string_mk Tryz.underlying9 (by unfold maxLen; omega)) _ _ (plainElem_bool Tryz.underlying4 true) ?_; intro w13 om4 gr4; have OM4 := hide om4; have GR4 := hide gr4; clear om4 gr4)
        have MP13:=hide (show MapIs w13 (w.heap.size + 1 + 1 + 1) (keysL (zs'.map Nm.a) ++ [keyD r2]) by
         have:=MapIs.put OM3.out HN3.out HD3.out sk2.data.toList OM4.out
         rw [HSK.out] at this
         exact this)
        obtain ⟨z1,hz1⟩:∃ z:Nm,z = ⟨nd1 i ⟨dz,⟨zk,zx,zy,zsg,zo⟩,zf,zsl⟩ ⟨mk,mx,my,ms,mo⟩,A8,B8,b8,b9⟩:=⟨_,rfl⟩
        have hz1d:z1.a.d = r2:=by rw [hz1]; exact HR2.out.symm
        have HZV:=hide (show z1.v = [.slice A8 n9 b8,.slice B8 m9 b9,.int .i64 (l9:Int),.int .i64 mk,.int .i64 mx,.int .i64 my,.int .i64 ms,.bool mo,.int .i64 (i:Int),.int .i64 ((zsl:Int) + 1)] by
         rw [HN9.out,HM9.out,HL9.out,HR2.out,hz1]
         rfl)
        have HLK:=hide (show LOk d k (zs'.map Nm.a ++ [z1.a]) by
         rw [hz1]
         exact J12.out.s.ok.push (by rw [List.length_map]; exact H3.out) (by rw [List.getElem?_map,J12.out.hz]; rfl) hkz HMM.out)
        have APP:=hide (fun (W2:World) (g c n:Nat) => J12.out.s.app (z := z1) (W2 := W2) (g := g) (c := c) (n := n) (by rw [hz1d]; exact MP13.out) GR4.out HLK.out)
        obtain ⟨own13,k13,b13,s13,_⟩:=APP.out w13 0 0 0
        have OW13:=hide own13
        have K13:=hide k13
        have RA13:=hide (RA12.out.kp (k13 _))
        have RM13:=hide (RM12.out.kp (k13 _))
        have HT13:=hide (HT12.out.kp (k13 _))
        have AT13:=hide (show Row w13 g11 75 [.slice zA n8 zc,.slice zB m8 ze,.int .i64 (l8:Int),.int .i64 zk,.int .i64 zx,.int .i64 zy,.int .i64 zsg,.bool zo,.int .i64 zf,.int .i64 (zsl:Int)] from by
         have:=J12.out.at_.kp (k13 _)
         rw [HN8.out,HM8.out,HL8.out]
         exact this)
        have HZ1:=hide hz1
        have HZ1D:=hide hz1d
        have B13:=hide b13
        have S13:=hide s13
        clear OM3 HN3 HD3 OM4 hn3m own13 k13 b13 s13 hz1 hz1d RA12 RM12 HT12
        obtain ⟨q0,q1,q2,qf⟩:=box3 RA13.out
        obtain ⟨p0,p1,p2,p3,p4,pf⟩:=box5 RM13.out
        obtain ⟨c0,c1,c2,c3,c4,c5,c6,c7,c8,c9,cf⟩:=box10 AT13.out
        obtain ⟨i0,hi0,hx0,hx1,hx2⟩:=info_parts nodeInfo
        have b14:=hide (show Below w13.heap.size w13 (w13.alloc (.cells z1.v.toArray 75)) from (Below.refl _ _).alloc (Nat.le_refl _) _)
        have OW14:=hide (own_below OW13.out b14.out)
        have A6:=hide (row_news w13 w13.heap.size rfl 75 z1.v)
        have A1:=hide (nm_ones z1)
        rw [HZV.out] at b14 OW14 A6 A1
        have A1':=A1.out
        have A6':=A6.out
        go_upto_region 19 with (at_builtin; refine wpList_append_lies _ (by rfl) _ _ 76 (by rfl) (w.heap.size + 1 + 1) 75 i0 _ 10 112 Tryz.underlying76 hi0 hx0 hx1 hx2 rfl (by omega) _ zs'.length (nms zs') (by rfl) OW14.out ⟨w13.heap.size,0,none⟩ 1 1 [.slice A8 n9 b8,.slice B8 m9 b9,.int .i64 (l9:Int),.int .i64 mk,.int .i64 mx,.int .i64 my,.int .i64 ms,.bool mo,.int .i64 (i:Int),.int .i64 ((zsl:Int) + 1)] (by rfl) (by rfl) A6' A1' (by omega) (by unfold maxLen; omega) (by omega) (by have := S13.out; simp; omega) (w13.heap.size + 1) (by simp) ?_; intro gn cn w15 own2 grow2 at2 lt2; have OWN2 := hide own2; have GR2 := hide grow2; have AT2 := hide at2; clear own2 grow2 at2)
        have SA:=hide ((APP.out w15 gn cn (zs'.length + 1)).2.2.2.2 _ b14.out OW14.out (by
         rw [HZ1D.out,HZ1.out]
         exact HT13.out.keep b14.out) (by rw [HZV.out]; exact OWN2.out) GR2.out rfl)
        obtain ⟨sl15,k15⟩:=SA.out
        have L15:=hide sl15
        have RA15:=hide ((RA13.out.below b14.out).kp (k15 _ (by decide)))
        have HT15:=hide ((HT13.out.keep b14.out).kp (k15 _ (by decide)))
        have MV15:=hide (((J12.out.mv.kp (K13.out _)).kp (.of_below b14.out)).kp (k15 _ (by decide)))
        have AT15:=hide ((AT13.out.below b14.out).grown GR2.out (fun e => J12.out.ne e.symm))
        have NE15:=hide (show (Value.slice (some ⟨gn,0,none⟩) (zs'.length + 1) cn).ownBlock ≠ some g11 from fun e => by
         have e:gn = g11:=by injection e
         rcases AT2.out with h | h
         ·exact J12.out.ne (by rw [h,e])
         ·have:=AT13.out.lt
          omega)
        have HGI:=hide (show (zs' ++ [z1])[i]? = some ⟨⟨dz,⟨zk,zx,zy,zsg,zo⟩,zf,zsl⟩,zA,zB,zc,ze⟩ by
         rw [List.getElem?_append_left (List.getElem?_eq_some_iff.1 J12.out.hz).1]
         exact J12.out.hz)
        have HZP:=hide (show 0 < zs'.length by have := J12.out.s.ok.pos; rw [List.length_map] at this; exact this)
        have HMAP:=hide (show (zs' ++ [z1]).map Nm.a = zs'.map Nm.a ++ [nd1 i ⟨dz,⟨zk,zx,zy,zsg,zo⟩,zf,zsl⟩ ⟨mk,mx,my,ms,mo⟩] by rw [List.map_append,HZ1.out]; rfl)
        clear sl15 k15 SA APP OW13 K13 RA13 RM13 HT13 AT13 B13 S13 b14 OW14 A6 A1 A1' A6' OWN2 GR2 AT2 lt2 q0 q1 q2 qf p0 p1 p2 p3 p4 pf c0 c1 c2 c3 c4 c5 c6 c7 c8 c9 cf J12
        obtain ⟨q0,q1,q2,qf⟩:=box3 RA15.out
        have hl15:zs'.length + 1 ≤ 300:=by have := H3.out; omega
        go_wp2_with fail
        refine (Removing_n r2 HSL.out.1 A8 B8 n9 b8 b9 m9 l9 _ HN9.out HM9.out HL9.out HT15.out.at).mono ?_
        rintro e w16 ⟨v,rfl,hv,hb16⟩
        obtain ⟨A7,c7,rfl,hV7⟩:=hv.at.mv
        have L16:=hide (L15.out.below hb16)
        have MV16:=hide (MV15.out.kp (.of_below hb16))
        have AT16:=hide (AT15.out.below hb16)
        obtain ⟨n7,hn7⟩:∃ n,n = (remL r2).length := ⟨_,rfl⟩
        rw [← hn7]
        have HN7:=hide hn7
        clear hv hV7 hb16 L15 MV15 AT15 RA15 HT15 q0 q1 q2 qf hn7
        by_cases h7:n7 = 0
        ·have h7i:¬ ((0:Int) < (n7:Int)):=by omega
         have HR0:=hide (show remL (apD dz ⟨mk,mx,my,ms,mo⟩) = [] by
          rw [← HR2.out]
          exact List.eq_nil_of_length_eq_zero (by rw [← HN7.out]; exact h7))
         clear h7
         go_wp2_with fail
         go_roundg (gI - 1)
         case measure => have := HJG.out; omega
         case rel => exact ⟨j + 1,zs' ++ [z1],by have := HJG.out; omega,by go_num,by go_num,⟨L16.out,by
          have:=AT16.out
          rw [HN8.out,HM8.out,HL8.out] at this
          exact this,NE15.out,MV16.out,by
          rw [← HIL.out,HMAP.out]
          exact (inn_dull (a := ⟨dz,⟨zk,zx,zy,zsg,zo⟩,zf,zsl⟩) (z := ⟨mk,mx,my,ms,mo⟩) (i := i) (l := zs'.map Nm.a) (r := (slD dz).drop (j + 1)) HKN.out (by rw [List.length_map]; exact H3.out) HR0.out).symm,HGI.out⟩⟩
        ·have h7i:(0:Int) < (n7:Int):=by omega
         have HR0:=hide (show remL (apD dz ⟨mk,mx,my,ms,mo⟩) ≠ [] from fun e => h7 (by rw [HN7.out,HR2.out,e]; rfl))
         have HR:=hide (show srR k d = ((zs' ++ [z1]).map Nm.a,2) by
          have h1:=HIL.out
          rw [inn_hit (a := ⟨dz,⟨zk,zx,zy,zsg,zo⟩,zf,zsl⟩) (z := ⟨mk,mx,my,ms,mo⟩) (i := i) (l := zs'.map Nm.a) (r := (slD dz).drop (j + 1)) HKN.out (by rw [List.length_map]; exact H3.out) HR0.out,← HMAP.out] at h1
          rw [← HSR.out,out_done (k := k) (f := gO) (i := i) (a := ⟨dz,⟨zk,zx,zy,zsg,zo⟩,zf,zsl⟩) (l := zs.map Nm.a) (r := ((zs' ++ [z1]).map Nm.a,2)) HMA.out hkz h1.symm (show (2:Nat) ≠ 0 by decide)])
         clear h7
         go_upto_region 24 with fail
         rw [show decide (0 < n7) = true from decide_eq_true (by omega)]
         clear h7i
         obtain ⟨F,hF⟩:∃ n,n = zs'.length := ⟨_,rfl⟩
         have HF:=hide hF
         obtain ⟨zq,hzq⟩:∃ q,q = zs' ++ [z1] := ⟨_,rfl⟩
         have HQL:=hide (show zq.length = F + 1 by rw [hzq,List.length_append,hF]; rfl)
         have HQ1:=hide (show zq[F]? = some z1 by rw [hzq,hF,List.getElem?_append_right (Nat.le_refl _),Nat.sub_self]; rfl)
         rw [← hzq] at L16 HR
         rw [← hF] at L16 ⊢
         have hF3:F ≤ 299:=by omega
         have HZF:=hide (show 0 < F by rw [hF]; exact HZP.out)
         clear hF hzq MV16 AT16 HGI HMAP NE15 HIL HKN HR0 H3 h3i hl15 hz3'
         obtain ⟨l1,hl1⟩:∃ l,l = zq.map Nm.a := ⟨_,rfl⟩
         have HL1:=hide hl1
         have HOK:=hide (show LOk d k l1 by rw [hl1]; exact L16.out.ok)
         rw [← hl1] at HR
         clear hl1
         have HLN:=hide (show l1.length = F + 1 by rw [HL1.out,List.length_map,HQL.out])
         have HLF:=hide (show l1[F]? = some z1.a by rw [HL1.out,List.getElem?_map,HQ1.out]; rfl)
         go_wp2_with fail
         go_loopg [18,19] (F + 1) (fun g s18 s19 wx => ∃ (q:Nat) (P:List Mv),q + 1 = g ∧ q ≤ F ∧ s19 = .int .i64 (q:Int) ∧ P ++ pt l1 q = pt l1 F ∧ wx.ownsRow w16.heap.size 43 5 s18 P.length (mvs P) ∧ Below w16.heap.size w16 wx)
         case atStart => exact ⟨F,[],rfl,Nat.le_refl _,by go_num,rfl,World.ownsRow_nil _ _ _ _,Below.refl _ _⟩
         case round =>
          obtain ⟨q,P,hqg,hqF,rfl,hpt,hown,hbel⟩:=hrel
          have HQG:=hide hqg
          have HPT:=hide hpt
          have OWP:=hide hown
          have HBL:=hide hbel
          obtain ⟨gP,hgP⟩:∃ g,g = gk := ⟨_,rfl⟩
          rw [← hgP] at HQG
          clear hqg hpt hown hbel
          have L17:=hide (L16.out.below HBL.out)
          obtain ⟨y,hy⟩:∃ y,zq[q]? = some y := ⟨_,List.getElem?_eq_getElem (by rw [HQL.out]; omega)⟩
          have HLQ:=hide (show l1[q]? = some y.a by rw [HL1.out,List.getElem?_map,hy]; rfl)
          have NQ:=hide (HOK.out.at_ q y.a HLQ.out)
          have CB:=fun (t:Nat) (u:Value) (ht:t < 10) (e:y.v[t]? = some u) => (show wr.cell? ⟨gn,q * 10 + t,none⟩ = some u by
           have:=L17.out.own
           rw [HQL.out] at this
           rw [World.ownsRow.cellAt this _ (by omega),nms_get zq q y hy t u e])
          have q0:(0:Int) ≤ (q:Int):=by omega
          have qF:(q:Int) < (F:Int) + 1:=by omega
          have hPl:P.length ≤ 8:=by
           have h1:=(pt_is HOK.out F F z1.a (Nat.le_refl _) HLF.out).1
           have h2:=congrArg List.length HPT.out
           have h3:=(HOK.out.at_ F z1.a HLF.out).s
           rw [List.length_append,h1] at h2
           omega
          obtain ⟨aP,cP,hvP⟩:=owns_slice OWP.out
          subst hvP
          rcases NQ.out.ty with ⟨hq0,hroot⟩ | ⟨p,q',hfr,hqq,hpq,_⟩
          ·have c8:=CB 8 _ (by omega) rfl
           have hfr1:y.a.fr = -1:=by rw [hroot]; rfl
           rw [hfr1] at c8
           have HPE:=hide (show P = pt l1 F by
            rw [← HPT.out,pt_root HLQ.out (by rw [hfr1]; decide),List.append_nil])
           clear hq0 hroot hfr1 CB hy
           go_upto_region 29 with fail
           have FF:=hide (L17.out.cell (t := 0) HQL.out.symm HQ1.out (by omega) rfl)
           have FF1:=hide (L17.out.cell (t := 1) HQL.out.symm HQ1.out (by omega) rfl)
           have FF2:=hide (L17.out.cell (t := 2) HQL.out.symm HQ1.out (by omega) rfl)
           have HP0:=hide (show 0 < P.length by
            rw [HPE.out]
            rcases (HOK.out.at_ F z1.a HLF.out).ty with ⟨h0,_⟩ | ⟨p,q',h1,_⟩
            ·have:=HZF.out
             omega
            ·rw [(pt_some HOK.out HLF.out h1).1,List.length_cons]
             omega)
           have hP0:=HP0.out
           obtain ⟨gp,capP,hA,_,hgp⟩:=World.ownsRow.form OWP.out hP0
           injection hA with hA _ hcc
           subst hA
           subst hcc
           go_wp2_with fail
           refine (rev_any w16.heap.size gp P.length cP P _ OWP.out rfl hP0 (by omega)).mono ?_
           rintro e w20 ⟨⟨v9,rfl⟩,hown,hb20⟩
           have B20:=hide (HBL.out.trans hb20)
           have OW20:=hide hown
           have L20:=hide (L16.out.below B20.out)
           clear hown hb20 OWP HBL L17 c8
           have f0:=L20.out.cell (t := 0) HQL.out.symm HQ1.out (by omega) rfl
           have f1:=L20.out.cell (t := 1) HQL.out.symm HQ1.out (by omega) rfl
           have f2:=L20.out.cell (t := 2) HQL.out.symm HQ1.out (by omega) rfl
           rw [Nat.add_zero] at f0
           obtain ⟨e0,e1,e2,e3⟩:=box3 L20.out.rs
           go_wp2_with fail
           rw [Exit.noGoto_ret]
           have RR:=row3 L20.out.rs rfl (.slice z1.A z1.a.d.n z1.c) (.slice z1.B (4 * z1.a.d.n) z1.e) (.int .i64 (z1.a.d.lp:Int))
           refine bodyPost_ret (v := .tuple #[.agg #[.slice z1.A z1.a.d.n z1.c,.slice z1.B (4 * z1.a.d.n) z1.e,.int .i64 z1.a.d.lp],.slice (some ⟨gp,0,none⟩) P.length cP,.bool true]) ?_ rfl ?_
           ·obtain ⟨r0,r1,r2,r3⟩:=box3 RR
            simp [results,Tryz.results24,go_sem,r0,r1,r2]
           ·exact L20.out.yes HR.out HL1.out HLN.out HQ1.out HPE.out OW20.out (by have := L16.out.big; omega) B20.out.size
          ·have c3:=CB 3 _ (by omega) rfl
           have c4:=CB 4 _ (by omega) rfl
           have c5:=CB 5 _ (by omega) rfl
           have c6:=CB 6 _ (by omega) rfl
           have c7:=CB 7 _ (by omega) rfl
           have c8:=CB 8 _ (by omega) rfl
           rw [hfr] at c8
           have HPS:=hide (pt_some HOK.out HLQ.out hfr).1
           have HQQ:=hide hqq
           have q'0:(0:Int) ≤ (q':Int):=by omega
           obtain ⟨⟨dy,⟨yk,yx,yy,ysg,yo⟩,yf,ysl⟩,yA,yB,yc,ye⟩:=y
           simp only at c3 c4 c5 c6 c7 c8 hfr HPS
           have HY:=hide hy
           have HFR:=hide hfr
           clear hfr hpq CB hy NQ HLQ
           obtain ⟨i0,hi0,hx0,hx1,hx2⟩:=info_parts moveInfo
           obtain ⟨W18,hW18⟩:∃ W,W = wr.alloc (.cells #[.int .i64 yk,.int .i64 yx,.int .i64 yy,.int .i64 ysg,.bool yo] 43) := ⟨_,rfl⟩
           have b18:Below wr.heap.size wr W18:=by rw [hW18]; exact (Below.refl _ _).alloc (Nat.le_refl _) _
           have OW18:=hide (own_below OWP.out b18)
           have A6:=hide (five_news wr wr.heap.size rfl ⟨yk,yx,yy,ysg,yo⟩)
           have A1:∀ u ∈ Mv.cells ⟨yk,yx,yy,ysg,yo⟩,u.oneCell' = true:=by simp [Mv.cells,Value.oneCell']
           have B18:=hide (HBL.out.trans (b18.mono HBL.out.size))
           have hsz18:w16.heap.size ≤ W18.heap.size:=B18.out.size
           have c8':=cell_below c8 b18
           rw [hW18] at OW18 B18 hsz18 c8'
           clear hW18 b18 W18
           go_wp2_with (at_builtin; refine wpList_append_lies _ (by rfl) _ _ 27 (by rfl) w16.heap.size 43 i0 (.agg #[.int .i64 0,.int .i64 0,.int .i64 0,.int .i64 0,.bool false]) 5 40 Tryz.underlying27 hi0 hx0 hx1 hx2 rfl (by omega) _ P.length (mvs P) (by rfl) OW18.out ⟨wr.heap.size,0,none⟩ 1 1 (Mv.cells ⟨yk,yx,yy,ysg,yo⟩) (by rfl) (by rfl) A6.out A1 (by omega) (by unfold maxLen; omega) (by omega) hsz18 (wr.heap.size + 1) (by simp) ?_; intro g9 d9 w19 own9 grow9 at9 lt9; have OWN9 := hide own9; have B19 := hide (B18.out.grown grow9 hsz18 (fun k hk => (OW18.out.lt k hk).1)); have L19 := hide (L16.out.below B19.out); have c8'' := (show w19.cell? ⟨gn,q * 10 + 8,none⟩ = some (.int .i64 (q':Int)) by rw [← HFR.out]; exact L19.out.cell HQL.out.symm HY.out (show 8 < 10 by decide) rfl); clear own9 grow9 at9)
           go_roundg (q' + 1)
           case measure => have := HQG.out; have := HQQ.out; omega
           case rel => exact ⟨q',P ++ [⟨yk,yx,yy,ysg,yo⟩],rfl,by have := HQQ.out; omega,by go_num,by
            rw [List.append_assoc,← HPT.out,HPS.out]; rfl,by
            rw [mvs_app,List.length_append]
            exact OWN9.out,B19.out⟩
     ·have hji:¬ ((j:Int) < (n5:Int)):=by omega
      have HIN:=hide (show inn i ⟨dz,⟨zk,zx,zy,zsg,zo⟩,zf,zsl⟩ (slD dz) (zs.map Nm.a) = (zs'.map Nm.a,0) by
       have h1:=J0.out.inl
       simp only at h1
       rw [← h1,List.drop_eq_nil_of_le (by have := HN5.out; omega)]
       rfl)
      go_wp2_with fail
      go_roundg (gO - 1)
      case measure => have := HIG.out; omega
      case rel => exact ⟨i + 1,zs',by have := HIG.out; omega,by
       have:=(List.getElem?_eq_some_iff.1 J0.out.hz).1
       omega,by go_num,by go_num,by
       rw [← HSR.out,out_on HMA.out hkz HIN.out]
       have:=HIG.out
       rw [show gO - 1 + 1 = gO by omega],J0.out.s⟩
  ·rw [← hN] at hz3 hil
   have hii:¬ ((i:Int) < (N:Int)):=by omega
   have HB:=hide (show srB k d = false by
    unfold srB
    rw [← HSR.out,out_end (List.getElem?_eq_none (by rw [List.length_map]; omega))]
    rfl)
   rw [← hN]
   clear hN
   obtain ⟨e0,e1,e2,e3⟩:=box3 K0.out.rs
   go_wp2_with fail
   have RR:=row3 K0.out.rs rfl (.slice none 0 0) (.slice none 0 0) (.int .i64 0)
   refine bodyPost_ret (v := .tuple #[.agg #[.slice none 0 0,.slice none 0 0,.int .i64 0],.slice none 0 0,.bool false]) ?_ rfl ?_
   ·obtain ⟨r0,r1,r2,r3⟩:=box3 RR
    simp [results,Tryz.results24,go_sem,r0,r1,r2]
   ·exact K0.out.no HB.out
end Go.Proofs.YtghdiolnonejaaaGreatDoor
end
section
namespace Go.Proofs.YtghdiolnonejaaaGreatDoor
open Go Go.RowKit
attribute [local go_sem ↓] Go.wp_at_zero Go.wp_at_succ
theorem MovesAt.lies {W:World} {A:Option Addr} {n c:Nat} {ms:List Mv} (h:MovesAt W (.slice A n c) ms) (hn:0 < n):n = ms.length ∧ ∃ g,A = some ⟨g,0,none⟩ ∧ ∀ (j:Nat) (u:Value),(mvs ms)[j]? = some u → W.cell? ((⟨g,0,none⟩:Addr).add j) = some u := by
 obtain ⟨b,own⟩:=h
 obtain ⟨A',c',e⟩:=owns_slice own
 injection e with e1 e2 e3
 subst e1
 subst e2
 obtain ⟨g,cap,hA,_,_⟩:=World.ownsRow.form own hn
 injection hA with hA _ _
 subst hA
 refine ⟨rfl,g,rfl,fun j u hu => ?_⟩
 have hj:=(List.getElem?_eq_some_iff.1 hu).1
 rw [mvs_len] at hj
 rw [Addr.add_lit,Nat.zero_add,World.ownsRow.cellAt own j hj]
 exact hu
structure RL (w:World) (d:Pl.Dg) (k g7 bL:Nat) (r:Pl.Dg) (l:List Mv) (v:Value) (A9 B9:Option Addr) (c8 c9:Nat) (W:World):Prop where
 val:Pl.Valid r
 mn:remL r = []
 eqD:redD k d = rdD k r
 eqM:redM k d = l ++ rdM k r
 len:l.length + 9 * r.n ≤ 9 * d.n
 rs:Row W (w.heap.size + 1) 24 [.slice none 0 0,.slice none 0 0,.int .i64 0]
 at_:Row W g7 24 [.slice A9 r.n c8,.slice B9 (4 * r.n) c9,.int .i64 (r.lp:Int)]
 own:W.ownsRow bL 43 5 v l.length (mvs l)
 t:DgT W A9 B9 r
 g7l:w.heap.size + 1 < g7
 bLl:w.heap.size + 1 < bL
 bLs:bL ≤ W.heap.size
 bel:Below w.heap.size w W
def RedPost (k:Nat) (d:Pl.Dg) (w:World) (e:Ending) (w':World):Prop := ∃ (A9 B9:Option Addr) (c8 c9:Nat) (v:Value),e = .returned (.tuple #[.agg #[.slice A9 (redD k d).n c8,.slice B9 (4 * (redD k d).n) c9,.int .i64 (redD k d).lp],v,.int .i64 0]) ∧ DgT w' A9 B9 (redD k d) ∧ MovesAt w' v (redM k d) ∧ Below w.heap.size w w'
section
variable {w W W':World} {d r:Pl.Dg} {k g7 bL:Nat} {l:List Mv} {v:Value} {A9 B9:Option Addr} {c8 c9:Nat}
theorem RL.below (h:RL w d k g7 bL r l v A9 B9 c8 c9 W) (hb:Below W.heap.size W W'):RL w d k g7 bL r l v A9 B9 c8 c9 W' :=
 ⟨h.val,h.mn,h.eqD,h.eqM,h.len,h.rs.below hb,h.at_.below hb,own_below h.own hb,h.t.keep hb,h.g7l,h.bLl,Nat.le_trans h.bLs hb.size,h.bel.trans (hb.mono h.bel.size)⟩
theorem RL.post (h:RL w d k g7 bL r l v A9 B9 c8 c9 W) (hb:srB k r = false) :
 RedPost k d w (.returned (.tuple #[.agg #[.slice A9 r.n c8,.slice B9 (4 * r.n) c9,.int .i64 (r.lp:Int)],v,.int .i64 0])) (((W.setCell ⟨w.heap.size + 1,0,none⟩ (.slice A9 r.n c8)).setCell ⟨w.heap.size + 1,1,none⟩ (.slice B9 (4 * r.n) c9)).setCell ⟨w.heap.size + 1,2,none⟩ (.int .i64 (r.lp:Int))) := by
 have e1:redD k d = r:=by rw [h.eqD,(rd_no hb).1]
 have e2:redM k d = l:=by rw [h.eqM,(rd_no hb).2,List.append_nil]
 have ho:=h.bLl
 unfold RedPost
 rw [e1,e2]
 exact ⟨A9,B9,c8,c9,v,rfl,h.t.set3 h.rs _ _ _,⟨bL,ownsRow_setCell_below (ownsRow_setCell_below (ownsRow_setCell_below h.own (by show w.heap.size + 1 < _; omega) _) (by show w.heap.size + 1 < _; omega) _) (by show w.heap.size + 1 < _; omega) _⟩,below3 h.bel (by omega) _ _ _⟩
end
theorem Lds.nil_is {d e:Pl.Dg} (h:Lds d [] e):d = e := by
 cases h
 rfl
theorem RL.next {r d:Pl.Dg} {k:Nat} {l:List Mv} (hr:Pl.Valid r) (hm:remL r = []) (eqD:redD k d = rdD k r) (eqM:redM k d = l ++ rdM k r) (hl:l.length + 9 * r.n ≤ 9 * d.n) (hk:k ≤ 8) (hb:srB k r = true) :
 Pl.Valid (srD k r) ∧ (srD k r).n = r.n ∧ Pl.Valid (dnD (srD k r)) ∧ remL (dnD (srD k r)) = [] ∧ redD k d = rdD k (dnD (srD k r)) ∧ redM k d = (l ++ srP k r) ++ dnM (srD k r) ++ rdM k (dnD (srD k r)) ∧ ((l ++ srP k r) ++ dnM (srD k r)).length + 9 * (dnD (srD k r)).n ≤ 9 * d.n ∧ (dnD (srD k r)).n + 1 ≤ r.n ∧ 0 < (srP k r).length ∧ 0 < (dnM (srD k r)).length ∧ (srP k r).length ≤ 8 ∧ (dnM (srD k r)).length ≤ 64 := by
 obtain ⟨v,n,rr,pl,pk,hL⟩:=sr_is hr hb
 obtain ⟨u1,u2,u3,u4,u5⟩:=dn_all v
 obtain ⟨c1,c2⟩:=dn_cons v rr
 obtain ⟨y1,y2⟩:=rd_yes hr hb
 have h1:0 < (dnM (srD k r)).length:=List.length_pos_iff.2 c1
 have h2:0 < (srP k r).length:=by
  rcases Nat.eq_zero_or_pos (srP k r).length with h | h
  ·rw [List.eq_nil_of_length_eq_zero h] at hL
   rw [← hL.nil_is] at rr
   exact absurd hm rr
  ·exact h
 have hf:=hr.wf.few
 refine ⟨v,n,u1,u3,by rw [eqD,y1],by rw [eqM,y2]; simp,?_,by omega,h2,h1,by omega,by omega⟩
 rw [List.length_append,List.length_append]
 omega
theorem own_set3 {W:World} {base g n s:Nat} {e:TypeId} {v:Value} {xs:List Value} (h:W.ownsRow base e s v n xs) (hne:v.ownBlock ≠ some g) (y0 y1 y2:Value):(((W.setCell ⟨g,0,none⟩ y0).setCell ⟨g,1,none⟩ y1).setCell ⟨g,2,none⟩ y2).ownsRow base e s v n xs :=
 own_setNe (own_setNe (own_setNe h hne 0 y0) hne 1 y1) hne 2 y2
theorem MovesAt.set3 {W:World} {g:Nat} {v:Value} {ms:List Mv} {vs:List Value} (h:MovesAt W v ms) (hr:Row W g 24 vs) (y0 y1 y2:Value):MovesAt (((W.setCell ⟨g,0,none⟩ y0).setCell ⟨g,1,none⟩ y1).setCell ⟨g,2,none⟩ y2) v ms :=
 let ⟨b,own⟩:=h
 ⟨b,own_set3 own (fun e => own_row_neM own hr (by decide) e.symm) y0 y1 y2⟩
theorem search_n (d:Pl.Dg) (hd:Pl.Valid d) (h20:d.n ≤ 20) (k:Nat) (hk:k ≤ 8) (A B:Option Addr) (n cp cq m lp:Nat) (w:World) (hn:n = d.n) (hm:m = 4 * d.n) (hl:lp = d.lp) (hg:DgAt w A B d) (ht:GT w) :
 Calls Tryz.prog 24 #[.agg #[.slice A n cp,.slice B m cq,.int .i64 (lp:Int)],.int .i64 (k:Int)] w (SrPost k d A B w) := by
 subst hn
 subst hl
 exact search_any d hd h20 k hk A B cp cq m w hm hg ht
set_option maxRecDepth 100000 in
set_option maxHeartbeats 1600000 in
theorem reduce_any (d:Pl.Dg) (hd:Pl.Valid d) (h20:d.n ≤ 20) (k:Nat) (hk:k ≤ 8) (A B:Option Addr) (cp cq m:Nat) (w:World) (hm:m = 4 * d.n) (hg:DgAt w A B d) (ht:GT w) :
 Calls Tryz.prog 10 #[.agg #[.slice A d.n cp,.slice B m cq,.int .i64 d.lp],.int .i64 (k:Int)] w (RedPost k d w) := by
 have HM:=hide hm
 have HG:=hide hg
 have HT:=hide ht
 have hdn:=hd.wf.few
 have k0:(0:Int) ≤ (k:Int):=by omega
 have k8:(k:Int) ≤ 8:=by omega
 clear hm hg ht
 have X0:=hide ((row_at (W := w) (g := w.heap.size) (t := 24) (vs := [.slice A d.n cp,.slice B m cq,.int .i64 (d.lp:Int)]) rfl).alloc (.cells #[.slice none 0 0,.slice none 0 0,.int .i64 0] 24))
 have S0:=hide (row_at (W := w.alloc (.cells #[.slice A d.n cp,.slice B m cq,.int .i64 (d.lp:Int)] 24)) (g := w.heap.size + 1) (t := 24) (vs := [.slice none 0 0,.slice none 0 0,.int .i64 0]) (by simp))
 have B0:=hide (show Below w.heap.size w ((w.alloc (.cells #[.slice A d.n cp,.slice B m cq,.int .i64 (d.lp:Int)] 24)).alloc (.cells #[.slice none 0 0,.slice none 0 0,.int .i64 0] 24)) from ((Below.refl _ _).alloc (Nat.le_refl _) _).alloc (by simp) _)
 go_enter Tryz.func10,Tryz.ntmps10
 go_wp2_with fail
 refine (valid_yes d hd A B cp cq m _ HM.out (HG.out.keep B0.out)).mono ?_
 rintro e w1 ⟨rfl,hb1⟩
 have X1:=hide (X0.out.below hb1)
 have S1:=hide (S0.out.below hb1)
 have B1:=hide (B0.out.trans (hb1.mono B0.out.size))
 clear hb1 X0 S0 B0
 obtain ⟨d0,d1,d2,d3⟩:=box3 X1.out
 go_wp2_with fail
 refine (clone_all d A B cp cq m _ HM.out (HG.out.keep B1.out) hdn).mono ?_
 rintro e w2 ⟨A9,B9,c8,c9,rfl,hT,hb2⟩
 have S2:=hide (S1.out.below hb2)
 have B2:=hide (B1.out.trans (hb2.mono B1.out.size))
 have HTT:=hide hT
 clear hb2 X1 S1 B1 hT d0 d1 d2 d3
 go_wp2_with fail
 refine (descend_n d hd A9 B9 d.n c8 c9 m d.lp _ rfl rfl HM.out HTT.out.at).mono ?_
 rintro e w3 ⟨A8,B8,b8,b9,v,rfl,hg8,⟨bL,hbL,hbL2,own⟩,hb3⟩
 have hs2:=S2.out.lt
 have S3:=hide (S2.out.below hb3)
 have B3:=hide (B2.out.trans (hb3.mono B2.out.size))
 have HT3:=hide (show DgT w3 A8 B8 (dnD d) by
  rcases hg8 with h | ⟨h1,h2,h3⟩
  ·exact h
  ·rw [h1,h2,h3]; exact HTT.out.keep hb3)
 have OW3:=hide own
 have HV:=hide (dn_all hd)
 obtain ⟨r0,hr0⟩:∃ r,r = dnD d := ⟨_,rfl⟩
 rw [← hr0] at HT3 HV ⊢
 have HR0:=hide hr0
 have hbL1:w.heap.size + 1 < bL:=by omega
 clear hg8 own hb3 hbL S2 B2 HTT hr0
 go_upto_region 6 with fail
 obtain ⟨W4,hW4⟩:∃ W,W = w3.alloc (.cells #[.slice A8 r0.n b8,.slice B8 (4 * r0.n) b9,.int .i64 (r0.lp:Int)] 24) := ⟨_,rfl⟩
 have b4:Below w3.heap.size w3 W4:=by rw [hW4]; exact (Below.refl _ _).alloc (Nat.le_refl _) _
 have L4:=hide (show RL w d k w3.heap.size bL r0 (dnM d) v A8 B8 b8 b9 W4 from
  ⟨HV.out.1, HV.out.2.2.1, by rw [HR0.out]; rfl, by rw [HR0.out]; rfl, by have := HV.out.2.1; omega, S3.out.below b4, by
    rw [hW4]
    exact row_at (vs := [.slice A8 r0.n b8,.slice B8 (4 * r0.n) b9,.int .i64 (r0.lp:Int)]) rfl,own_below OW3.out b4,HT3.out.keep b4,by have := S3.out.lt; omega,hbL1,Nat.le_trans hbL2 b4.size,B3.out.trans (b4.mono B3.out.size)⟩)
 obtain ⟨g7,hg7⟩:∃ g,g = w3.heap.size := ⟨_,rfl⟩
 rw [← hW4]
 rw [← hg7] at L4 ⊢
 clear hW4 b4 S3 B3 OW3 HT3 HV hg7 hs2 hbL2 k0 k8
 have hrn0:r0.n ≤ d.n:=by
  have:=L4.out.len
  omega
 go_wp2_with fail
 go_loopg [8,9,10,11,12] r0.n (fun g s8 s9 s10 s11 s12 wx => ∃ (r:Pl.Dg) (l:List Mv) (A9 B9:Option Addr) (c8 c9:Nat),r.n = g ∧ RL w d k g7 bL r l s8 A9 B9 c8 c9 wx)
 case atStart => exact ⟨r0,dnM d,A8,B8,b8,b9,rfl,L4.out⟩
 case round =>
  clear L4
  obtain ⟨r,l,A9,B9,c8,c9,hrg,hl⟩:=hrel
  have HRG:=hide hrg
  have K0:=hide hl
  obtain ⟨gO,hgO⟩:∃ g,g = gk := ⟨_,rfl⟩
  rw [← hgO] at HRG
  obtain ⟨aL,cL,hvL⟩:=owns_slice hl.own
  subst hvL
  have hrv:=hl.val.wf
  have hrn:=hrv.few
  have hrl:=hrv.lp
  have hr20:r.n ≤ 20:=by have := hl.len; omega
  have hll:l.length ≤ 576:=by have := hl.len; omega
  clear hrg hl hrv
  obtain ⟨n9,hn9⟩:∃ n,n = r.n := ⟨_,rfl⟩
  obtain ⟨m9,hm9⟩:∃ n,n = 4 * r.n := ⟨_,rfl⟩
  obtain ⟨l9,hl9⟩:∃ n,n = r.lp := ⟨_,rfl⟩
  have HN9:=hide hn9
  have HM9:=hide hm9
  have HL9:=hide hl9
  have AT0:=hide (show Row wr g7 24 [.slice A9 n9 c8,.slice B9 m9 c9,.int .i64 (l9:Int)] by rw [hn9,hm9,hl9]; exact K0.out.at_)
  clear hn9 hm9 hl9
  obtain ⟨d0,d1,d2,d3⟩:=box3 AT0.out
  go_wp2_with fail
  refine (search_n r K0.out.val hr20 k hk A9 B9 n9 c8 c9 m9 l9 _ HN9.out HM9.out HL9.out K0.out.t.at (HT.out.below K0.out.bel)).mono ?_
  rintro e w5 ⟨hno,hyes,hb5⟩
  have K5:=hide (K0.out.below hb5)
  have AT5:=hide (AT0.out.below hb5)
  clear hb5 AT0 K0 d0 d1 d2 d3
  cases hb:srB k r with
  | false =>
    obtain rfl := hno hb
    have HB:=hide hb
    clear hno hyes hb
    go_upto_region 7 with fail
    obtain ⟨W6,hW6⟩:∃ W,W = w5.alloc (.cells #[.slice none 0 0,.slice none 0 0,.int .i64 0] 24) := ⟨_,rfl⟩
    have b6:Below w5.heap.size w5 W6:=by rw [hW6]; exact (Below.refl _ _).alloc (Nat.le_refl _) _
    rw [← hW6]
    have K6:=hide (K5.out.below b6)
    have AT6:=hide (AT5.out.below b6)
    clear hW6 b6 K5 AT5
    obtain ⟨d0,d1,d2,d3⟩:=box3 AT6.out
    obtain ⟨e0,e1,e2,e3⟩:=box3 K6.out.rs
    go_wp2_with fail
    have RR:=row3 K6.out.rs rfl (.slice A9 n9 c8) (.slice B9 m9 c9) (.int .i64 (l9:Int))
    have HP:=K6.out.post HB.out
    rw [← HM9.out,← HN9.out,← HL9.out] at HP
    refine bodyPost_ret ?_ rfl HP
    obtain ⟨r0,r1,r2,r3⟩:=box3 RR
    simp [results,Tryz.results10,go_sem,r0,r1,r2]
  | true =>
    obtain ⟨A6,B6,c6,c7,vp,rfl,hdt,⟨bp,hbp,hbp2,ownp⟩⟩:=hyes hb
    have HB:=hide hb
    have HX:=hide (RL.next K5.out.val K5.out.mn K5.out.eqD K5.out.eqM K5.out.len hk hb)
    obtain ⟨x,hx⟩:∃ x,x = srD k r := ⟨_,rfl⟩
    obtain ⟨p,hp⟩:∃ p,p = srP k r := ⟨_,rfl⟩
    rw [← hx,← hp] at HX
    rw [← hx] at hdt
    rw [← hp] at ownp
    rw [← hx]
    have TX:=hide (show DgT w5 A6 B6 x from by
     rcases hdt with h | ⟨h1,h2,h3⟩
     ·exact h
     ·rw [h1,h2,h3]; exact K5.out.t)
    have MP:=hide (show MovesAt w5 vp p from ⟨bp,ownp⟩)
    clear hno hyes hb hx hp hdt ownp hbp hbp2
    obtain ⟨hxv,hxn,hyv,hym,eqD2,eqM2,hlen2,hless,hp0,hq0,hp8,hq64⟩:=HX.out
    have HXV:=hide hxv
    have HXN:=hide hxn
    have HYV:=hide hyv
    have HYM:=hide hym
    have HED:=hide eqD2
    have HEM:=hide eqM2
    have HLN:=hide hlen2
    have HLE:=hide hless
    clear HX hxv hxn hyv hym eqD2 eqM2 hlen2 hless
    obtain ⟨Ap,np,cp',rfl⟩:∃ A n c,vp = .slice A n c := by
     obtain ⟨b,h⟩:=MP.out
     obtain ⟨A,c,e⟩:=owns_slice h
     exact ⟨A,_,c,e⟩
    have hnp:np = p.length:=by
     obtain ⟨b,h⟩:=MP.out
     obtain ⟨A,c,e⟩:=owns_slice h
     injection e
    subst hnp
    obtain ⟨_,gp,hAp,hlies⟩:=MP.out.lies hp0
    subst hAp
    obtain ⟨n8,hn8⟩:∃ n,n = x.n := ⟨_,rfl⟩
    obtain ⟨m8,hm8⟩:∃ n,n = 4 * x.n := ⟨_,rfl⟩
    obtain ⟨l8,hl8⟩:∃ n,n = x.lp := ⟨_,rfl⟩
    rw [← hm8,← hn8,← hl8]
    have HN8:=hide hn8
    have HM8:=hide hm8
    have HL8:=hide hl8
    have HLI:=hide hlies
    clear hn8 hm8 hl8 hlies
    go_upto_region 7 with fail
    obtain ⟨W6,hW6⟩:∃ W,W = w5.alloc (.cells #[.slice A6 n8 c6,.slice B6 m8 c7,.int .i64 (l8:Int)] 24) := ⟨_,rfl⟩
    obtain ⟨g9,hg9⟩:∃ g,g = w5.heap.size := ⟨_,rfl⟩
    have b6:Below w5.heap.size w5 W6:=by rw [hW6]; exact (Below.refl _ _).alloc (Nat.le_refl _) _
    have RB6:=hide (show Row W6 g9 24 [.slice A6 n8 c6,.slice B6 m8 c7,.int .i64 (l8:Int)] by
     rw [hW6]
     exact row_at (vs := [.slice A6 n8 c6,.slice B6 m8 c7,.int .i64 (l8:Int)]) hg9)
    rw [← hW6,← hg9]
    have K6:=hide (K5.out.below b6)
    have TX6:=hide (TX.out.keep b6)
    have LI6:=hide (fun (j:Nat) (u:Value) (hu:(mvs p)[j]? = some u) => (show W6.cell? ((⟨gp,0,none⟩:Addr).add j) = some u from cell_below (HLI.out j u hu) b6))
    have hg97:g7 < g9:=by
     have:=K5.out.at_.lt
     omega
    clear hW6 b6 K5 AT5 hg9 TX HLI MP
    obtain ⟨i0,hi0,hx0,hx1,hx2⟩:=info_parts moveInfo
    have A1:=mvs_one p
    have hpl:=mvs_len p
    have LI:=LI6.out
    have hbs6:bL ≤ W6.heap.size:=K6.out.bLs
    go_upto_region 10 with (at_builtin; refine wpList_append_lies _ (by rfl) _ _ 27 (by rfl) bL 43 i0 (.agg #[.int .i64 0,.int .i64 0,.int .i64 0,.int .i64 0,.bool false]) 5 40 Tryz.underlying27 hi0 hx0 hx1 hx2 rfl (by omega) _ l.length (mvs l) (by rfl) K6.out.own ⟨gp,0,none⟩ p.length cp' (mvs p) (by rfl) hpl LI A1 hp0 (by unfold maxLen; omega) (by omega) hbs6 W6.heap.size rfl ?_; intro gn cn w7 own2 grow2 at2 lt2; have OWN2 := hide own2; have GR2 := hide grow2; clear own2 grow2 at2)
    have k7:∀ t,t ≠ 43 → KpT t W6 w7:=fun t ht => .of_grown GR2.out (fun g hg => ownsRow_block K6.out.own g hg) ht
    have RS7:=hide (K6.out.rs.kp (k7 _ (by decide)))
    have AT7:=hide (K6.out.at_.kp (k7 _ (by decide)))
    have RB7:=hide (RB6.out.kp (k7 _ (by decide)))
    have TX7:=hide (TX6.out.kp (k7 _ (by decide)))
    have B7:=hide (K6.out.bel.grown GR2.out K6.out.bel.size (fun k hk => by have := (K6.out.own.lt k hk).1; have := K6.out.bLl; omega))
    have hbs7:bL ≤ w7.heap.size:=Nat.le_trans hbs6 GR2.out.size
    have hg7l:=K6.out.g7l
    have hbLl:=K6.out.bLl
    clear k7 GR2 K6 RB6 TX6 LI6 LI hpl A1 hbs6 lt2
    obtain ⟨q0,q1,q2,qf⟩:=box3 RB7.out
    go_wp2_with fail
    refine (descend_n x HXV.out A6 B6 n8 c6 c7 m8 l8 _ HN8.out HL8.out HM8.out TX7.out.at).mono ?_
    rintro e w8 ⟨A5,B5,b5,b6,v2,rfl,hg8,⟨b2,_,_,own2⟩,hb8⟩
    have RS8:=hide (RS7.out.below hb8)
    have AT8:=hide (AT7.out.below hb8)
    have B8:=hide (B7.out.trans (hb8.mono B7.out.size))
    have OW8:=hide (own_below OWN2.out hb8)
    have hbs8:bL ≤ w8.heap.size:=Nat.le_trans hbs7 hb8.size
    obtain ⟨y,hy⟩:∃ y,y = dnD x := ⟨_,rfl⟩
    obtain ⟨qq,hqq⟩:∃ q,q = dnM x := ⟨_,rfl⟩
    rw [← hqq] at own2 hq0 hq64 HEM HLN
    rw [← hy] at hg8 HYV HYM HED HEM HLN HLE ⊢
    have TY8:=hide (show DgT w8 A5 B5 y from by
     rcases hg8 with h | ⟨h1,h2,h3⟩
     ·exact h
     ·rw [h1,h2,h3]; exact TX7.out.keep hb8)
    have MQ8:=hide (show MovesAt w8 v2 qq from ⟨b2,own2⟩)
    obtain ⟨Aq,nq,cq',rfl⟩:∃ A n c,v2 = .slice A n c := by
     obtain ⟨A,c,e⟩:=owns_slice own2
     exact ⟨A,_,c,e⟩
    have hnq:nq = qq.length:=by
     obtain ⟨A,c,e⟩:=owns_slice own2
     injection e
    subst hnq
    obtain ⟨n5,hn5⟩:∃ n,n = y.n := ⟨_,rfl⟩
    obtain ⟨m5,hm5⟩:∃ n,n = 4 * y.n := ⟨_,rfl⟩
    obtain ⟨l5,hl5⟩:∃ n,n = y.lp := ⟨_,rfl⟩
    rw [← hm5,← hn5,← hl5]
    have HN5:=hide hn5
    have HM5:=hide hm5
    have HL5:=hide hl5
    have hgn7:=hide (show (Value.slice (some ⟨gn,0,none⟩) (l.length + p.length) cn).ownBlock ≠ some g7 from fun e => own_row_neM OW8.out AT8.out (by decide) e.symm)
    clear hg8 own2 hb8 hy hqq hn5 hm5 hl5 RS7 AT7 RB7 TX7 B7 OWN2 hbs7 q0 q1 q2 qf
    obtain ⟨d0,d1,d2,d3⟩:=box3 AT8.out
    go_upto_region 12 with fail
    obtain ⟨W9,hW9⟩:∃ W,W = ((w8.setCell ⟨g7,0,none⟩ (.slice A5 n5 b5)).setCell ⟨g7,1,none⟩ (.slice B5 m5 b6)).setCell ⟨g7,2,none⟩ (.int .i64 (l5:Int)) := ⟨_,rfl⟩
    rw [← hW9]
    have RS9:=hide (show Row W9 (w.heap.size + 1) 24 [.slice none 0 0,.slice none 0 0,.int .i64 0] by
     rw [hW9]
     exact ((RS8.out.other (by show _ ≠ g7; omega) _).other (by show _ ≠ g7; omega) _).other (by show _ ≠ g7; omega) _)
    have AT9:=hide (show Row W9 g7 24 [.slice A5 n5 b5,.slice B5 m5 b6,.int .i64 (l5:Int)] by rw [hW9]; exact row3 AT8.out rfl _ _ _)
    have TY9:=hide (show DgT W9 A5 B5 y by rw [hW9]; exact TY8.out.set3 AT8.out _ _ _)
    have MQ9:=hide (show MovesAt W9 (.slice Aq qq.length cq') qq by rw [hW9]; exact MQ8.out.set3 AT8.out _ _ _)
    have OW9:=hide (show W9.ownsRow bL 43 5 (.slice (some ⟨gn,0,none⟩) (l.length + p.length) cn) (l.length + p.length) (mvs l ++ mvs p) by rw [hW9]; exact own_set3 OW8.out hgn7.out _ _ _)
    have B9':=hide (show Below w.heap.size w W9 by rw [hW9]; exact below3 B8.out (by omega) _ _ _)
    have hbs9:bL ≤ W9.heap.size:=by rw [hW9]; simpa using hbs8
    clear hW9 RS8 AT8 TY8 MQ8 OW8 B8 hgn7 hbs8 d0 d1 d2 d3
    obtain ⟨_,gq,hAq,hlies⟩:=MQ9.out.lies hq0
    subst hAq
    have A1:=mvs_one qq
    have hql:=mvs_len qq
    go_wp2_with (at_builtin; refine wpList_append_lies _ (by rfl) _ _ 27 (by rfl) bL 43 i0 (.agg #[.int .i64 0,.int .i64 0,.int .i64 0,.int .i64 0,.bool false]) 5 40 Tryz.underlying27 hi0 hx0 hx1 hx2 rfl (by omega) _ (l.length + p.length) (mvs l ++ mvs p) (by rfl) OW9.out ⟨gq,0,none⟩ qq.length cq' (mvs qq) (by rfl) hql hlies A1 hq0 (by unfold maxLen; omega) (by omega) hbs9 W9.heap.size rfl ?_; intro g3 c3 w10 own2 grow2 at2 lt2; have OWN2 := hide own2; have GR2 := hide grow2; clear own2 grow2 at2)
    have k10:∀ t,t ≠ 43 → KpT t W9 w10:=fun t ht => .of_grown GR2.out (fun g hg => ownsRow_block OW9.out g hg) ht
    go_roundg y.n
    case measure => have := HLE.out; have := HRG.out; omega
    case rel =>
     refine ⟨y,(l ++ p) ++ qq,A5,B5,b5,b6,rfl,HYV.out,HYM.out,HED.out,HEM.out,HLN.out,RS9.out.kp (k10 _ (by decide)),?_,?_,TY9.out.kp (k10 _ (by decide)),hg7l,hbLl,Nat.le_trans hbs9 GR2.out.size,B9'.out.grown GR2.out B9'.out.size (fun k hk => by have := (OW9.out.lt k hk).1; omega)⟩
     ·have:=AT9.out.kp (k10 _ (by decide))
      rw [HN5.out,HM5.out,HL5.out] at this
      exact this
     ·have:=OWN2.out
      rw [List.length_append,List.length_append]
      unfold mvs at this ⊢
      rw [List.flatMap_append,List.flatMap_append]
      exact this
end Go.Proofs.YtghdiolnonejaaaGreatDoor
end
section
namespace Go.Proofs.YtghdiolnonejaaaGreatDoor
open Go Go.RowKit
attribute [local go_sem ↓] Go.wp_at_zero Go.wp_at_succ
def ResL (x:Pl.Dg) (n m lp nl:Nat) (ms:List Mv) (w:World) (e:Ending) (w':World):Prop := ∃ (A9 B9 AL:Option Addr) (c8 c9 cL:Nat),e = .returned (.tuple #[.agg #[.slice A9 n c8,.slice B9 m c9,.int .i64 (lp:Int)],.slice AL nl cL,.int .i64 0]) ∧ DgAt w' A9 B9 x ∧ MovesAt w' (.slice AL nl cL) ms ∧ Below w.heap.size w w'
theorem down_e (r:Pl.Dg) (hr:Pl.Valid r) (A B:Option Addr) (n cp cq m lp:Nat) (w:World) (hn:n = r.n) (hm:m = 4 * r.n) (hl:lp = r.lp) (hg:DgAt w A B r) (x:Pl.Dg) (ms:List Mv) (n' m' l' nl:Nat) (hx:dnD r = x) (hms:dnM r = ms) (hn':n' = x.n) (hm':m' = 4 * x.n) (hl':l' = x.lp) (hnl:nl = ms.length) :
 Calls Tryz.prog 9 #[.agg #[.slice A n cp,.slice B m cq,.int .i64 (lp:Int)]] w (ResL x n' m' l' nl ms w) := by
 subst hn hl hx hms hn' hm' hl' hnl
 refine (Down_any r hr A B cp cq m w hm hg).mono ?_
 rintro e w' ⟨A9,B9,c8,c9,v,he,hT,hv,hb⟩
 obtain ⟨b,hb2⟩:=hv.at
 obtain ⟨AL,cL,rfl⟩:=owns_slice hb2
 exact ⟨A9,B9,AL,c8,c9,cL,he,hT,⟨b,hb2⟩,hb⟩
theorem red_e (r:Pl.Dg) (hr:Pl.Valid r) (h20:r.n ≤ 20) (k:Nat) (hk:k ≤ 8) (kv:Int) (hkv:kv = (k:Int)) (A B:Option Addr) (n cp cq m lp:Nat) (w:World) (hn:n = r.n) (hm:m = 4 * r.n) (hl:lp = r.lp) (hg:DgAt w A B r) (ht:GT w) (x:Pl.Dg) (ms:List Mv) (n' m' l' nl:Nat) (hx:redD k r = x) (hms:redM k r = ms) (hn':n' = x.n) (hm':m' = 4 * x.n) (hl':l' = x.lp) (hnl:nl = ms.length) :
 Calls Tryz.prog 10 #[.agg #[.slice A n cp,.slice B m cq,.int .i64 (lp:Int)],.int .i64 kv] w (ResL x n' m' l' nl ms w) := by
 subst hn hl hx hms hn' hm' hl' hnl hkv
 refine (reduce_any r hr h20 k hk A B cp cq m w hm hg ht).mono ?_
 rintro e w' ⟨A9,B9,c8,c9,v,he,hT,hv,hb⟩
 obtain ⟨b,hb2⟩:=hv
 obtain ⟨AL,cL,rfl⟩:=owns_slice hb2
 exact ⟨A9,B9,AL,c8,c9,cL,he,hT.at,⟨b,hb2⟩,hb⟩
theorem eq_e (r:Pl.Dg) (A B A2 B2:Option Addr) (n q lp cp cq cp2 cq2:Nat) (w:World) (hg:DgAt w A B r) (hg2:DgAt w A2 B2 r) (h1:n = r.n) (h3:q = 4 * r.n) (hn:r.n ≤ 1000) :
 Calls Tryz.prog 11 #[.agg #[.slice A n cp,.slice B q cq,.int .i64 (lp:Int)],.agg #[.slice A2 n cp2,.slice B2 q cq2,.int .i64 (lp:Int)]] w fun e w' => e = .returned (.bool true) ∧ Below w.heap.size w w' := by
 subst h1 h3
 exact equal_yes r.sg (nats r.mt) lp A B A2 B2 _ _ cp cq cp2 cq2 w hg.s hg.m hg2.s hg2.m (by omega) (by omega)
theorem MovesAt.v {W:World} {A:Option Addr} {n c:Nat} {ms:List Mv} (h:MovesAt W (.slice A n c) ms):MovesV W A n ms := by
 obtain ⟨A',c',e,hV⟩:=h.mv
 injection e with e1 e2 e3
 subst e1
 subst e2
 exact hV
set_option maxRecDepth 100000 in
set_option maxHeartbeats 4000000 in
theorem sagain_valid (d:Pl.Dg) (hd:Pl.Valid d) (A B:Option Addr) (cp cq m s:Nat) (w:World) (hm:m = 4 * d.n) (hg:DgAt w A B d) (ht:GT w) (hs:s < 256) :
 Calls Tryz.prog 3 #[.agg #[.slice A d.n cp,.slice B m cq,.int .i64 d.lp],.int .u8 (s:Int)] w fun e w' => e = .returned (.bool true) ∧ Below w.heap.size w w' := by
 have HM:=hide hm
 have HG:=hide hg
 have HT:=hide ht
 have hn:=hd.wf.few
 have hlp:=hd.wf.lp
 clear hm hg ht
 have X0:=hide (row_at (W := w) (g := w.heap.size) (t := 24) (vs := [.slice A d.n cp,.slice B m cq,.int .i64 (d.lp:Int)]) rfl)
 have B0:=hide (show Below w.heap.size w (w.alloc (.cells #[.slice A d.n cp,.slice B m cq,.int .i64 (d.lp:Int)] 24)) from (Below.refl _ _).alloc (Nat.le_refl _) _)
 go_enter Tryz.func3,Tryz.ntmps3
 go_wp2_with fail
 refine (awake10 _).mono ?_
 rintro e w1 ⟨rfl,hb1⟩
 have Y0:=hide (X0.out.below hb1)
 have B1:=hide (B0.out.trans (hb1.mono B0.out.size))
 clear X0 B0 hb1
 obtain ⟨d0,d1,d2,d3⟩:=box3 Y0.out
 go_wp2_with fail
 refine (few10_any A B d.n m cp cq (d.lp:Int) w1).mono ?_
 rintro e w2 ⟨rfl,hb2⟩
 have Z0:=hide (Y0.out.below hb2)
 have B2:=hide (B1.out.trans (hb2.mono B1.out.size))
 clear Y0 B1 hb2 d0 d1 d2 d3
 obtain ⟨gb,hgb⟩:∃ b,b = (decide (d.n ≤ 9) && decide (m ≤ 45)) := ⟨_,rfl⟩
 rw [← hgb]
 obtain ⟨d0,d1,d2,d3⟩:=box3 Z0.out
 cases gb with
 | false =>
   clear hgb
   go_wp2_with fail
   refine (awake10 _).mono ?_
   rintro e w3 ⟨rfl,hb3⟩
   have B3:=hide (B2.out.trans (hb3.mono B2.out.size))
   clear hb3 d0 d1 d2 d3
   go_wp2
   go_ret
   exact ⟨rfl,B3.out⟩
 | true =>
   have h20:d.n ≤ 20:=by
    have:=hgb.symm
    simp at this
    omega
   clear hgb
   go_wp2_with fail
   refine (valid_yes d hd A B cp cq m _ HM.out (HG.out.keep B2.out)).mono ?_
   rintro e w3 ⟨rfl,hb3⟩
   have X3:=hide (Z0.out.below hb3)
   have B3:=hide (B2.out.trans (hb3.mono B2.out.size))
   clear hb3 d0 d1 d2 d3 B2 Z0
   obtain ⟨d0,d1,d2,d3⟩:=box3 X3.out
   obtain ⟨k,hk⟩:∃ k,k = s % 4 := ⟨_,rfl⟩
   have hki:(s:Int).tmod 4 = (k:Int):=by rw [hk]; rfl
   have hk8:k ≤ 8:=by omega
   clear hk
   have P3:=B3
   obtain ⟨x,hx⟩:∃ x,x = dnD d := ⟨_,rfl⟩
   obtain ⟨y,hy⟩:∃ y,y = redD k d := ⟨_,rfl⟩
   obtain ⟨ms,hms⟩:∃ l,l = dnM d := ⟨_,rfl⟩
   obtain ⟨ml,hml⟩:∃ l,l = redM k d := ⟨_,rfl⟩
   have XV:=hide (show Pl.Valid x ∧ x.n ≤ 20 ∧ dnD x = x ∧ dnM x = [] from by
    have h:=dn_all hd
    rw [hx]
    exact ⟨h.1,by omega,(dn_stop h.2.2.1).1,(dn_stop h.2.2.1).2⟩)
   have YV:=hide (show Pl.Valid y ∧ y.n ≤ 20 ∧ redD k y = y ∧ redM k y = [] from by
    have h:=red_end hd k
    have h2:=dn_all hd
    rw [hy]
    exact ⟨h.1,by omega,red_again hd k⟩)
   have Z0:=hide (red_zero hd)
   rw [← hx,← hms] at Z0
   have hxn:=XV.out.1.wf.few
   have hxl:=XV.out.1.wf.lp
   have hyn:=YV.out.1.wf.few
   have hyl:=YV.out.1.wf.lp
   have hmsl:ms.length ≤ 1000:=by rw [hms]; have := (dn_all hd).2.1; omega
   have hmll:ml.length ≤ 1000:=by rw [hml]; have := red_len hd hk8; omega
   obtain ⟨nx,hnx⟩:∃ n,n = x.n := ⟨_,rfl⟩
   obtain ⟨mx,hmx⟩:∃ n,n = 4 * x.n := ⟨_,rfl⟩
   obtain ⟨lx,hlx⟩:∃ n,n = x.lp := ⟨_,rfl⟩
   obtain ⟨ny,hny⟩:∃ n,n = y.n := ⟨_,rfl⟩
   obtain ⟨my,hmy⟩:∃ n,n = 4 * y.n := ⟨_,rfl⟩
   obtain ⟨ly,hly⟩:∃ n,n = y.lp := ⟨_,rfl⟩
   obtain ⟨nl,hnl⟩:∃ n,n = ms.length := ⟨_,rfl⟩
   obtain ⟨np,hnp⟩:∃ n,n = ml.length := ⟨_,rfl⟩
   rw [← hnx] at hxn
   rw [← hlx] at hxl
   rw [← hny] at hyn
   rw [← hly] at hyl
   rw [← hnl] at hmsl
   rw [← hnp] at hmll
   have EX:=hide (show nx = x.n ∧ mx = 4 * x.n ∧ lx = x.lp ∧ nl = ms.length ∧ dnD d = x ∧ dnM d = ms from ⟨hnx,hmx,hlx,hnl,hx.symm,hms.symm⟩)
   have EY:=hide (show ny = y.n ∧ my = 4 * y.n ∧ ly = y.lp ∧ np = ml.length ∧ redD k d = y ∧ redM k d = ml from ⟨hny,hmy,hly,hnp,hy.symm,hml.symm⟩)
   clear hx hy hms hml hnx hmx hlx hny hmy hly hnl hnp d0 d1 d2 d3
   obtain ⟨d0,d1,d2,d3⟩:=box3 X3.out
   go_wp2_with fail
   refine (down_e d hd A B d.n cp cq m d.lp _ rfl HM.out rfl (HG.out.keep P3.out) x ms nx mx lx nl EX.out.2.2.2.2.1 EX.out.2.2.2.2.2 EX.out.1 EX.out.2.1 EX.out.2.2.1 EX.out.2.2.2.1).mono ?_
   rintro e w4 ⟨Au,Bu,Lu,cu,eu,qu,rfl,hgu,hvu,hbu⟩
   clear d0 d1 d2 d3
   go_upto_region 5 with fail
   obtain ⟨W4,hW4⟩:∃ W,W = w4.alloc (.cells #[.slice Au nx cu,.slice Bu mx eu,.int .i64 (lx:Int)] 24) := ⟨_,rfl⟩
   obtain ⟨gu,hgux⟩:∃ g,g = w4.heap.size := ⟨_,rfl⟩
   have b4:=hbu.trans (((show Below w4.heap.size w4 W4 by rw [hW4]; exact (Below.refl _ _).alloc (Nat.le_refl _) _)).mono hbu.size)
   have c4:Below w4.heap.size w4 W4:=by rw [hW4]; exact (Below.refl _ _).alloc (Nat.le_refl _) _
   rw [← hW4,← hgux]
   have X4:=hide (X3.out.below b4)
   have Ku4:=hide (show Row W4 gu 24 [.slice Au nx cu,.slice Bu mx eu,.int .i64 (lx:Int)] by rw [hW4]; exact row_at (vs := [.slice Au nx cu,.slice Bu mx eu,.int .i64 (lx:Int)]) hgux)
   have Du4:=hide (hgu.keep c4)
   have Mu4:=hide (hvu.kp (.of_below c4))
   have P4:=hide (P3.out.trans (b4.mono P3.out.size))
   clear hW4 hgux b4 c4 hgu hvu hbu X3 P3
   obtain ⟨d0,d1,d2,d3⟩:=box3 X4.out
   go_wp2_with fail
   refine (red_e d hd h20 0 (by omega) 0 rfl A B d.n cp cq m d.lp _ rfl HM.out rfl (HG.out.keep P4.out) (HT.out.below P4.out) x ms nx mx lx nl Z0.out.1 Z0.out.2 EX.out.1 EX.out.2.1 EX.out.2.2.1 EX.out.2.2.2.1).mono ?_
   rintro e w5 ⟨Av,Bv,Lv,cv,ev,qv,rfl,hgv,hvv,hbv⟩
   clear d0 d1 d2 d3
   go_upto_region 6 with fail
   obtain ⟨W5,hW5⟩:∃ W,W = w5.alloc (.cells #[.slice Av nx cv,.slice Bv mx ev,.int .i64 (lx:Int)] 24) := ⟨_,rfl⟩
   obtain ⟨gv,hgvx⟩:∃ g,g = w5.heap.size := ⟨_,rfl⟩
   have b5:=hbv.trans (((show Below w5.heap.size w5 W5 by rw [hW5]; exact (Below.refl _ _).alloc (Nat.le_refl _) _)).mono hbv.size)
   have c5:Below w5.heap.size w5 W5:=by rw [hW5]; exact (Below.refl _ _).alloc (Nat.le_refl _) _
   rw [← hW5,← hgvx]
   have X5:=hide (X4.out.below b5)
   have Ku5:=hide (Ku4.out.below b5)
   have Kv5:=hide (show Row W5 gv 24 [.slice Av nx cv,.slice Bv mx ev,.int .i64 (lx:Int)] by rw [hW5]; exact row_at (vs := [.slice Av nx cv,.slice Bv mx ev,.int .i64 (lx:Int)]) hgvx)
   have Du5:=hide (Du4.out.keep b5)
   have Dv5:=hide (hgv.keep c5)
   have Mu5:=hide (Mu4.out.kp (.of_below b5))
   have Mv5:=hide (hvv.kp (.of_below c5))
   have P5:=hide (P4.out.trans (b5.mono P4.out.size))
   clear hW5 hgvx b5 c5 hgv hvv hbv X4 Ku4 Du4 Mu4 P4
   obtain ⟨d0,d1,d2,d3⟩:=box3 X5.out
   go_wp2_with fail
   refine (red_e d hd h20 k hk8 (k:Int) rfl A B d.n cp cq m d.lp _ rfl HM.out rfl (HG.out.keep P5.out) (HT.out.below P5.out) y ml ny my ly np EY.out.2.2.2.2.1 EY.out.2.2.2.2.2 EY.out.1 EY.out.2.1 EY.out.2.2.1 EY.out.2.2.2.1).mono ?_
   rintro e w6 ⟨Az,Bz,Lz,cz,ez,qz,rfl,hgz,hvz,hbz⟩
   clear d0 d1 d2 d3
   go_upto_region 7 with fail
   obtain ⟨W6,hW6⟩:∃ W,W = w6.alloc (.cells #[.slice Az ny cz,.slice Bz my ez,.int .i64 (ly:Int)] 24) := ⟨_,rfl⟩
   obtain ⟨gz,hgzx⟩:∃ g,g = w6.heap.size := ⟨_,rfl⟩
   have b6:=hbz.trans (((show Below w6.heap.size w6 W6 by rw [hW6]; exact (Below.refl _ _).alloc (Nat.le_refl _) _)).mono hbz.size)
   have c6:Below w6.heap.size w6 W6:=by rw [hW6]; exact (Below.refl _ _).alloc (Nat.le_refl _) _
   rw [← hW6,← hgzx]
   have X6:=hide (X5.out.below b6)
   have Ku6:=hide (Ku5.out.below b6)
   have Kv6:=hide (Kv5.out.below b6)
   have Kz6:=hide (show Row W6 gz 24 [.slice Az ny cz,.slice Bz my ez,.int .i64 (ly:Int)] by rw [hW6]; exact row_at (vs := [.slice Az ny cz,.slice Bz my ez,.int .i64 (ly:Int)]) hgzx)
   have Du6:=hide (Du5.out.keep b6)
   have Dv6:=hide (Dv5.out.keep b6)
   have Dz6:=hide (hgz.keep c6)
   have Mu6:=hide (Mu5.out.kp (.of_below b6))
   have Mv6:=hide (Mv5.out.kp (.of_below b6))
   have Mz6:=hide (hvz.kp (.of_below c6))
   have P6:=hide (P5.out.trans (b6.mono P5.out.size))
   clear hW6 hgzx b6 c6 hgz hvz hbz X5 Ku5 Kv5 Du5 Dv5 Mu5 Mv5 P5
   obtain ⟨d0,d1,d2,d3⟩:=box3 Ku6.out
   go_wp2_with fail
   refine (down_e x XV.out.1 Au Bu nx cu eu mx lx _ EX.out.1 EX.out.2.1 EX.out.2.2.1 Du6.out x [] nx mx lx 0 XV.out.2.2.1 XV.out.2.2.2 EX.out.1 EX.out.2.1 EX.out.2.2.1 rfl).mono ?_
   rintro e w7 ⟨Aa,Ba,La,ca,ea,qa,rfl,hga,hva,hba⟩
   clear d0 d1 d2 d3
   go_upto_region 8 with fail
   obtain ⟨W7,hW7⟩:∃ W,W = w7.alloc (.cells #[.slice Aa nx ca,.slice Ba mx ea,.int .i64 (lx:Int)] 24) := ⟨_,rfl⟩
   obtain ⟨ga,hgax⟩:∃ g,g = w7.heap.size := ⟨_,rfl⟩
   have b7:=hba.trans (((show Below w7.heap.size w7 W7 by rw [hW7]; exact (Below.refl _ _).alloc (Nat.le_refl _) _)).mono hba.size)
   have c7:Below w7.heap.size w7 W7:=by rw [hW7]; exact (Below.refl _ _).alloc (Nat.le_refl _) _
   rw [← hW7,← hgax]
   have X7:=hide (X6.out.below b7)
   have Ku7:=hide (Ku6.out.below b7)
   have Kv7:=hide (Kv6.out.below b7)
   have Kz7:=hide (Kz6.out.below b7)
   have Ka7:=hide (show Row W7 ga 24 [.slice Aa nx ca,.slice Ba mx ea,.int .i64 (lx:Int)] by rw [hW7]; exact row_at (vs := [.slice Aa nx ca,.slice Ba mx ea,.int .i64 (lx:Int)]) hgax)
   have Du7:=hide (Du6.out.keep b7)
   have Dv7:=hide (Dv6.out.keep b7)
   have Dz7:=hide (Dz6.out.keep b7)
   have Da7:=hide (hga.keep c7)
   have Mu7:=hide (Mu6.out.kp (.of_below b7))
   have Mv7:=hide (Mv6.out.kp (.of_below b7))
   have Mz7:=hide (Mz6.out.kp (.of_below b7))
   have Ma7:=hide (hva.kp (.of_below c7))
   have P7:=hide (P6.out.trans (b7.mono P6.out.size))
   clear hW7 hgax b7 c7 hga hva hba X6 Ku6 Kv6 Kz6 Du6 Dv6 Dz6 Mu6 Mv6 Mz6 P6
   obtain ⟨d0,d1,d2,d3⟩:=box3 Kz7.out
   go_wp2_with fail
   refine (red_e y YV.out.1 YV.out.2.1 k hk8 (k:Int) rfl Az Bz ny cz ez my ly _ EY.out.1 EY.out.2.1 EY.out.2.2.1 Dz7.out (HT.out.below P7.out) y [] ny my ly 0 YV.out.2.2.1 YV.out.2.2.2 EY.out.1 EY.out.2.1 EY.out.2.2.1 rfl).mono ?_
   rintro e w8 ⟨Ab,Bb,Lb,cb,eb,qb,rfl,hgb,hvb,hbb⟩
   clear d0 d1 d2 d3
   go_upto_region 9 with fail
   obtain ⟨W8,hW8⟩:∃ W,W = w8.alloc (.cells #[.slice Ab ny cb,.slice Bb my eb,.int .i64 (ly:Int)] 24) := ⟨_,rfl⟩
   obtain ⟨gb,hgbx⟩:∃ g,g = w8.heap.size := ⟨_,rfl⟩
   have b8:=hbb.trans (((show Below w8.heap.size w8 W8 by rw [hW8]; exact (Below.refl _ _).alloc (Nat.le_refl _) _)).mono hbb.size)
   have c8:Below w8.heap.size w8 W8:=by rw [hW8]; exact (Below.refl _ _).alloc (Nat.le_refl _) _
   rw [← hW8,← hgbx]
   have X8:=hide (X7.out.below b8)
   have Ku8:=hide (Ku7.out.below b8)
   have Kv8:=hide (Kv7.out.below b8)
   have Kz8:=hide (Kz7.out.below b8)
   have Ka8:=hide (Ka7.out.below b8)
   have Kb8:=hide (show Row W8 gb 24 [.slice Ab ny cb,.slice Bb my eb,.int .i64 (ly:Int)] by rw [hW8]; exact row_at (vs := [.slice Ab ny cb,.slice Bb my eb,.int .i64 (ly:Int)]) hgbx)
   have Du8:=hide (Du7.out.keep b8)
   have Dv8:=hide (Dv7.out.keep b8)
   have Dz8:=hide (Dz7.out.keep b8)
   have Da8:=hide (Da7.out.keep b8)
   have Db8:=hide (hgb.keep c8)
   have Mu8:=hide (Mu7.out.kp (.of_below b8))
   have Mv8:=hide (Mv7.out.kp (.of_below b8))
   have Mz8:=hide (Mz7.out.kp (.of_below b8))
   have Ma8:=hide (Ma7.out.kp (.of_below b8))
   have Mb8:=hide (hvb.kp (.of_below c8))
   have P8:=hide (P7.out.trans (b8.mono P7.out.size))
   clear hW8 hgbx b8 c8 hgb hvb hbb X7 Ku7 Kv7 Kz7 Ka7 Du7 Dv7 Dz7 Da7 Mu7 Mv7 Mz7 Ma7 P7
   obtain ⟨d0,d1,d2,d3⟩:=box3 Ku8.out
   obtain ⟨e0,e1,e2,e3⟩:=box3 Kv8.out
   go_wp2_with fail
   refine (eq_e x Au Bu Av Bv nx mx lx cu eu cv ev _ Du8.out Dv8.out EX.out.1 EX.out.2.1 (by have := EX.out.1; omega)).mono ?_
   rintro e w9 ⟨rfl,hb9⟩
   clear d0 d1 d2 d3 e0 e1 e2 e3
   have X9:=hide (X8.out.below hb9)
   have Ku9:=hide (Ku8.out.below hb9)
   have Kv9:=hide (Kv8.out.below hb9)
   have Kz9:=hide (Kz8.out.below hb9)
   have Ka9:=hide (Ka8.out.below hb9)
   have Kb9:=hide (Kb8.out.below hb9)
   have Du9:=hide (Du8.out.keep hb9)
   have Dv9:=hide (Dv8.out.keep hb9)
   have Dz9:=hide (Dz8.out.keep hb9)
   have Da9:=hide (Da8.out.keep hb9)
   have Db9:=hide (Db8.out.keep hb9)
   have Mu9:=hide (Mu8.out.kp (.of_below hb9))
   have Mv9:=hide (Mv8.out.kp (.of_below hb9))
   have Mz9:=hide (Mz8.out.kp (.of_below hb9))
   have Ma9:=hide (Ma8.out.kp (.of_below hb9))
   have Mb9:=hide (Mb8.out.kp (.of_below hb9))
   have P9:=hide (P8.out.trans (hb9.mono P8.out.size))
   clear hb9 X8 Ku8 Kv8 Kz8 Ka8 Kb8 Du8 Dv8 Dz8 Da8 Db8 Mu8 Mv8 Mz8 Ma8 Mb8 P8
   go_wp2_with fail
   refine (same10_moves ms Lu Lv nl qu qv _ Mu9.out.v Mv9.out.v (by omega)).mono ?_
   rintro e w10 ⟨rfl,hb10⟩
   have X10:=hide (X9.out.below hb10)
   have Ku10:=hide (Ku9.out.below hb10)
   have Kv10:=hide (Kv9.out.below hb10)
   have Kz10:=hide (Kz9.out.below hb10)
   have Ka10:=hide (Ka9.out.below hb10)
   have Kb10:=hide (Kb9.out.below hb10)
   have Du10:=hide (Du9.out.keep hb10)
   have Dv10:=hide (Dv9.out.keep hb10)
   have Dz10:=hide (Dz9.out.keep hb10)
   have Da10:=hide (Da9.out.keep hb10)
   have Db10:=hide (Db9.out.keep hb10)
   have Mu10:=hide (Mu9.out.kp (.of_below hb10))
   have Mv10:=hide (Mv9.out.kp (.of_below hb10))
   have Mz10:=hide (Mz9.out.kp (.of_below hb10))
   have Ma10:=hide (Ma9.out.kp (.of_below hb10))
   have Mb10:=hide (Mb9.out.kp (.of_below hb10))
   have P10:=hide (P9.out.trans (hb10.mono P9.out.size))
   clear hb10 X9 Ku9 Kv9 Kz9 Ka9 Kb9 Du9 Dv9 Dz9 Da9 Db9 Mu9 Mv9 Mz9 Ma9 Mb9 P9
   obtain ⟨d0,d1,d2,d3⟩:=box3 Ka10.out
   obtain ⟨e0,e1,e2,e3⟩:=box3 Ku10.out
   go_wp2_with fail
   refine (eq_e x Aa Ba Au Bu nx mx lx ca ea cu eu _ Da10.out Du10.out EX.out.1 EX.out.2.1 (by have := EX.out.1; omega)).mono ?_
   rintro e w11 ⟨rfl,hb11⟩
   clear d0 d1 d2 d3 e0 e1 e2 e3
   have X11:=hide (X10.out.below hb11)
   have Ku11:=hide (Ku10.out.below hb11)
   have Kv11:=hide (Kv10.out.below hb11)
   have Kz11:=hide (Kz10.out.below hb11)
   have Ka11:=hide (Ka10.out.below hb11)
   have Kb11:=hide (Kb10.out.below hb11)
   have Du11:=hide (Du10.out.keep hb11)
   have Dv11:=hide (Dv10.out.keep hb11)
   have Dz11:=hide (Dz10.out.keep hb11)
   have Da11:=hide (Da10.out.keep hb11)
   have Db11:=hide (Db10.out.keep hb11)
   have Mu11:=hide (Mu10.out.kp (.of_below hb11))
   have Mv11:=hide (Mv10.out.kp (.of_below hb11))
   have Mz11:=hide (Mz10.out.kp (.of_below hb11))
   have Ma11:=hide (Ma10.out.kp (.of_below hb11))
   have Mb11:=hide (Mb10.out.kp (.of_below hb11))
   have P11:=hide (P10.out.trans (hb11.mono P10.out.size))
   clear hb11 X10 Ku10 Kv10 Kz10 Ka10 Kb10 Du10 Dv10 Dz10 Da10 Db10 Mu10 Mv10 Mz10 Ma10 Mb10 P10
   obtain ⟨d0,d1,d2,d3⟩:=box3 Kb11.out
   obtain ⟨e0,e1,e2,e3⟩:=box3 Kz11.out
   go_wp2_with fail
   refine (eq_e y Ab Bb Az Bz ny my ly cb eb cz ez _ Db11.out Dz11.out EY.out.1 EY.out.2.1 (by have := EY.out.1; omega)).mono ?_
   rintro e w12 ⟨rfl,hb12⟩
   clear d0 d1 d2 d3 e0 e1 e2 e3
   have X12:=hide (X11.out.below hb12)
   have Ku12:=hide (Ku11.out.below hb12)
   have Kv12:=hide (Kv11.out.below hb12)
   have Kz12:=hide (Kz11.out.below hb12)
   have Ka12:=hide (Ka11.out.below hb12)
   have Kb12:=hide (Kb11.out.below hb12)
   have Du12:=hide (Du11.out.keep hb12)
   have Dv12:=hide (Dv11.out.keep hb12)
   have Dz12:=hide (Dz11.out.keep hb12)
   have Da12:=hide (Da11.out.keep hb12)
   have Db12:=hide (Db11.out.keep hb12)
   have Mu12:=hide (Mu11.out.kp (.of_below hb12))
   have Mv12:=hide (Mv11.out.kp (.of_below hb12))
   have Mz12:=hide (Mz11.out.kp (.of_below hb12))
   have Ma12:=hide (Ma11.out.kp (.of_below hb12))
   have Mb12:=hide (Mb11.out.kp (.of_below hb12))
   have P12:=hide (P11.out.trans (hb12.mono P11.out.size))
   clear hb12 X11 Ku11 Kv11 Kz11 Ka11 Kb11 Du11 Dv11 Dz11 Da11 Db11 Mu11 Mv11 Mz11 Ma11 Mb11 P11
   go_wp2
   go_ret
   exact ⟨rfl,P12.out⟩
set_option maxRecDepth 100000 in
set_option maxHeartbeats 4000000 in
theorem sagain_bad (sg mt:List Int) (lp:Int) (A B:Option Addr) (n q cp cq s:Nat) (w:World) (hs:IntsAt w A n sg) (hm:IntsAt w B q mt) (hn:n ≤ maxLen) (hq:q ≤ maxLen) (hlp:-9223372036854775808 ≤ lp ∧ lp ≤ 9223372036854775807) (hv:¬ Pl.VL sg mt lp) :
 Calls Tryz.prog 3 #[.agg #[.slice A n cp,.slice B q cq,.int .i64 lp],.int .u8 (s:Int)] w fun e w' => e = .returned (.bool true) ∧ Below w.heap.size w w' := by
 have HS:=hide hs
 have HM:=hide hm
 clear hs hm
 have X0:=hide (row_at (W := w) (g := w.heap.size) (t := 24) (vs := [.slice A n cp,.slice B q cq,.int .i64 lp]) rfl)
 have B0:=hide (show Below w.heap.size w (w.alloc (.cells #[.slice A n cp,.slice B q cq,.int .i64 lp] 24)) from (Below.refl _ _).alloc (Nat.le_refl _) _)
 go_enter Tryz.func3,Tryz.ntmps3
 go_wp2_with fail
 refine (awake10 _).mono ?_
 rintro e w1 ⟨rfl,hb1⟩
 have Y0:=hide (X0.out.below hb1)
 have B1:=hide (B0.out.trans (hb1.mono B0.out.size))
 clear X0 B0 hb1
 obtain ⟨d0,d1,d2,d3⟩:=box3 Y0.out
 go_wp2_with fail
 refine (few10_any A B n q cp cq lp w1).mono ?_
 rintro e w2 ⟨rfl,hb2⟩
 have Z0:=hide (Y0.out.below hb2)
 have B2:=hide (B1.out.trans (hb2.mono B1.out.size))
 clear Y0 B1 hb2 d0 d1 d2 d3
 obtain ⟨gb,hgb⟩:∃ b,b = (decide (n ≤ 9) && decide (q ≤ 45)) := ⟨_,rfl⟩
 rw [← hgb]
 clear hgb
 obtain ⟨d0,d1,d2,d3⟩:=box3 Z0.out
 cases gb with
 | false =>
   go_wp2_with fail
   refine (awake10 _).mono ?_
   rintro e w3 ⟨rfl,hb3⟩
   have B3:=hide (B2.out.trans (hb3.mono B2.out.size))
   clear hb3 d0 d1 d2 d3
   go_wp2
   go_ret
   exact ⟨rfl,B3.out⟩
 | true =>
   go_wp2_with fail
   refine (valid_any sg mt lp A B n q cp cq _ (HS.out.keep B2.out) (HM.out.keep B2.out) hn hq hlp).mono ?_
   rintro e w3 ⟨rfl,hb3⟩
   rw [Pl.vb_false hv]
   have B3:=hide (B2.out.trans (hb3.mono B2.out.size))
   clear hb3 d0 d1 d2 d3 B2 Z0
   go_wp2_with fail
   refine (awake10 _).mono ?_
   rintro e w4 ⟨rfl,hb4⟩
   have B4:=hide (B3.out.trans (hb4.mono B3.out.size))
   clear hb4
   go_wp2
   go_ret
   exact ⟨rfl,B4.out⟩
theorem simplifyAgain_walk (sg mt:List Int) (lp:Int) (A B:Option Addr) (n q cp cq s:Nat) (w:World) (hs:IntsAt w A n sg) (hm:IntsAt w B q mt) (hn:n ≤ maxLen) (hq:q ≤ maxLen) (hlp:-9223372036854775808 ≤ lp ∧ lp ≤ 9223372036854775807) (hk:s < 256) (ht:GT w) :
 Calls Tryz.prog 3 #[.agg #[.slice A n cp,.slice B q cq,.int .i64 lp],.int .u8 (s:Int)] w fun e w' => e = .returned (.bool true) ∧ Below w.heap.size w w' := by
 by_cases hv:Pl.VL sg mt lp
 ·have hl:=hs.len
  have hl2:=hm.len
  have hl3:=hv.len
  have en:(Pl.mk sg mt lp).n = n:=hl
  have em:nats (Pl.mk sg mt lp).mt = mt:=Pl.nats_mk hv.2.1
  have el:((Pl.mk sg mt lp).lp:Int) = lp:=by show ((lp.toNat:Nat):Int) = lp; have := hv.2.2; omega
  have h:=sagain_valid (Pl.mk sg mt lp) hv.1 A B cp cq q s w (by rw [en]; omega) ⟨by rw [en]; exact hs,by rw [en,em,show 4 * n = q by omega]; exact hm⟩ ht hk
  rw [en,el] at h
  exact h
 ·exact sagain_bad sg mt lp A B n q cp cq s w hs hm hn hq hlp hv
end Go.Proofs.YtghdiolnonejaaaGreatDoor
end
