/-
 The texts Iso, Sph, Cyc, Byp, Mk, Shr, Rst, Slv, Unc, Und, Unk, Pok, Pkv, Str, Cmp, Drp.
-/
import Derived.Test.YtghdiolnonejaaaGreatDoorS00
set_option linter.unusedVariables false
set_option linter.unusedSimpArgs false
section
namespace Go.Proofs.YtghdiolnonejaaaGreatDoor.Pl
def hf (σ:Nat → Nat) (h:Nat):Nat := 4 * σ (h / 4) + h % 4
theorem hf_div (σ:Nat → Nat) (h:Nat):hf σ h / 4 = σ (h / 4) := by unfold hf; omega
theorem hf_mod (σ:Nat → Nat) (h:Nat):hf σ h % 4 = h % 4 := by unfold hf; omega
theorem hf_at (σ:Nat → Nat) (c:Nat) {t:Nat} (ht:t < 4):hf σ (4 * c + t) = 4 * σ c + t := by
 unfold hf; rw [show (4 * c + t) / 4 = c by omega,show (4 * c + t) % 4 = t by omega]
theorem hf_tn (σ:Nat → Nat) (h k:Nat):hf σ (tn h k) = tn (hf σ h) k := by
 unfold tn; rw [hf_div,hf_mod]; unfold hf; rw [show (h / 4 * 4 + (h % 4 + k) % 4) / 4 = h / 4 by omega]; omega
structure Iso (a b:Dg) (σ:Nat → Nat):Prop where
 n:a.n = b.n
 lp:a.lp = b.lp
 lt:∀ c,c < a.n → σ c < a.n
 inj:∀ c c',c < a.n → c' < a.n → σ c = σ c' → c = c'
 s:∀ c,c < a.n → b.s (σ c) = a.s c
 m:∀ h,h < 4 * a.n → b.m (hf σ h) = hf σ (a.m h)
section
variable {a b:Dg} {σ:Nat → Nat}
theorem Iso.refl (a:Dg):Iso a a (fun c => c) :=
 ⟨rfl, rfl, fun _ h => h, fun _ _ _ _ h => h, fun _ _ => rfl, fun h _ => by
   have e:∀ x,hf (fun c => c) x = x:=fun x => by unfold hf; show 4 * (x / 4) + x % 4 = x; omega
   rw [e,e]⟩
theorem Iso.hlt (I:Iso a b σ) {h:Nat} (hh:h < 4 * a.n):hf σ h < 4 * a.n := by
 have:=I.lt (h / 4) (by omega); unfold hf; omega
theorem Iso.hinj (I:Iso a b σ) {g h:Nat} (hg:g < 4 * a.n) (hh:h < 4 * a.n) (e:hf σ g = hf σ h):g = h := by
 have h1:=congrArg (· / 4) e
 have h2:=congrArg (· % 4) e
 simp only [hf_div,hf_mod] at h1 h2
 have:=I.inj (g / 4) (h / 4) (by omega) (by omega) h1
 omega
theorem Iso.bij (I:Iso a b σ):Bij a.n (fun c => c < a.n) σ := ⟨fun _ h => h,I.lt,I.inj⟩
theorem Iso.symm (I:Iso a b σ) (hd:Wf a):∃ τ,Iso b a τ ∧ (∀ c,c < a.n → τ (σ c) = c) ∧ ∀ c,c < a.n → σ (τ c) = c := by
 have hx:∀ c,∃ q,c < a.n → q < a.n ∧ σ q = c:=fun c => by
  by_cases h:c < a.n
  ·obtain ⟨p,hp,_,e⟩:=I.bij.back h
   refine ⟨it σ (p - 1) c,fun _ => ⟨I.bij.it _ c h,?_⟩⟩
   have:p = (p - 1) + 1:=by omega
   rw [this] at e
   exact e
  ·exact ⟨0,fun h' => absurd h' h⟩
 let τ := fun c => Classical.choose (hx c)
 have t1:∀ c,c < a.n → τ c < a.n ∧ σ (τ c) = c:=fun c hc => Classical.choose_spec (hx c) hc
 have t2:∀ c,c < a.n → τ (σ c) = c:=fun c hc => I.inj _ _ (t1 _ (I.lt c hc)).1 hc (t1 _ (I.lt c hc)).2
 have t3:∀ h,h < 4 * a.n → hf σ (hf τ h) = h:=fun h hh => by
  unfold hf; rw [show (4 * τ (h / 4) + h % 4) / 4 = τ (h / 4) by omega,(t1 (h / 4) (by omega)).2]; omega
 refine ⟨τ,⟨I.n.symm,I.lp.symm,fun c hc => ?_,fun c c' hc hc' e => ?_,fun c hc => ?_,fun h hh => ?_⟩,t2,fun c hc => (t1 c hc).2⟩
 ·rw [← I.n] at hc ⊢; exact (t1 c hc).1
 ·rw [← I.n] at hc hc'; rw [← (t1 c hc).2,← (t1 c' hc').2,e]
 ·rw [← I.n] at hc; rw [← I.s _ (t1 c hc).1,(t1 c hc).2]
 ·rw [← I.n] at hh
  have hl:hf τ h < 4 * a.n:=by have := (t1 (h / 4) (by omega)).1; unfold hf; omega
  have e:=I.m _ hl
  rw [t3 h hh] at e
  refine I.hinj (hd.lt _ hl) ?_ ?_
  ·have h1:b.m h < 4 * a.n:=by rw [e]; exact I.hlt (hd.lt _ hl)
   have:=(t1 (b.m h / 4) (by omega)).1; unfold hf; omega
  ·rw [← e,t3 _ (by rw [e]; exact I.hlt (hd.lt _ hl))]
theorem Iso.nb (I:Iso a b σ) {c t:Nat} (hc:c < a.n) (ht:t < 4):Pl.nb b (σ c) t = σ (Pl.nb a c t) := by
 unfold Pl.nb
 rw [← hf_at σ c ht,I.m _ (by omega),hf_div]
theorem Iso.mm (I:Iso a b σ) {c t:Nat} (hc:c < a.n) (ht:t < 4):b.m (4 * σ c + t) % 4 = a.m (4 * c + t) % 4 := by
 rw [← hf_at σ c ht,I.m _ (by omega),hf_mod]
theorem mem_map_inj {o:List Nat} {x n:Nat} (inj:∀ c c',c < n → c' < n → σ c = σ c' → c = c') (ho:∀ c,c ∈ o → c < n) (hx:x < n):σ x ∈ o.map σ ↔ x ∈ o := by
 rw [List.mem_map]
 constructor
 ·rintro ⟨y,hy,e⟩; rwa [← inj y x (ho y hy) hx e]
 ·intro h; exact ⟨x,h,rfl⟩
theorem idx_map {n:Nat} (inj:∀ c c',c < n → c' < n → σ c = σ c' → c = c') {x:Nat} (hx:x < n):∀ {o:List Nat},(∀ c,c ∈ o → c < n) → (o.map σ).idxOf (σ x) = o.idxOf x
 | [],_ => rfl
 | y :: o, ho => by
   rw [List.map_cons,List.idxOf_cons,List.idxOf_cons,idx_map inj hx (fun c hc => ho c (by simp [hc]))]
   by_cases e:y = x
   ·subst e; simp
   ·have:σ y ≠ σ x:=fun e' => e (inj y x (ho y (by simp)) hx e')
    rw [beq_false_of_ne this,beq_false_of_ne e]
theorem Iso.addN (I:Iso a b σ) {o:List Nat} {x:Nat} (ho:∀ c,c ∈ o → c < a.n) (hx:x < a.n):Pl.addN (o.map σ) (σ x) = (Pl.addN o x).map σ := by
 unfold Pl.addN
 by_cases h:x ∈ o
 ·rw [if_pos h,if_pos ((mem_map_inj I.inj ho hx).2 h)]
 ·rw [if_neg h,if_neg (fun e => h ((mem_map_inj I.inj ho hx).1 e))]; simp
theorem addS_lt (hd:Wf a) {o:List Nat} {c s:Nat} (ho:∀ c,c ∈ o → c < a.n) (hc:c < a.n) (hs:s ≤ 4):∀ x,x ∈ Pl.addS a o c s → x < a.n := fun x hx => by
 rcases mem_addS hx with hx | ⟨t,ht,rfl⟩
 ·exact ho x hx
 ·exact nb_lt hd hc (by omega)
theorem Iso.addS (I:Iso a b σ) (hd:Wf a) {o:List Nat} {c:Nat} (ho:∀ c,c ∈ o → c < a.n) (hc:c < a.n):∀ s,s ≤ 4 → Pl.addS b (o.map σ) (σ c) s = (Pl.addS a o c s).map σ
 | 0,_ => rfl
 | s + 1, h => by
   unfold Pl.addS
   rw [I.addS hd ho hc s (by omega),I.nb hc (by omega)]
   exact I.addN (addS_lt hd ho hc (by omega)) (nb_lt hd hc (by omega))
theorem Iso.ordK (I:Iso a b σ) (hd:Wf a) {r:Nat} (hr:r < a.n):∀ k,Pl.ordK b (σ r) k = (Pl.ordK a r k).map σ
 | 0 => rfl
 | k + 1 => by
   have ih:=I.ordK hd hr k
   have hm:=fun c hc => ((ordK_ok hd hr k).mem c hc).1
   cases hc:(Pl.ordK a r k)[k]? with
   | some c =>
     have h2:(Pl.ordK b (σ r) k)[k]? = some (σ c):=by rw [ih,List.getElem?_map,hc]; rfl
     rw [ordK_some hc,ordK_some h2,ih]
     exact I.addS hd hm (hm c (List.mem_of_getElem? hc)) 4 (Nat.le_refl _)
   | none =>
     have hl:(Pl.ordK a r k).length ≤ k:=by
      rcases Nat.lt_or_ge k (Pl.ordK a r k).length with h1 | h1
      ·rw [List.getElem?_eq_getElem h1] at hc; cases hc
      ·exact h1
     rw [ordK_none hl,ordK_none (by rw [ih,List.length_map]; exact hl),ih]
theorem Iso.ord (I:Iso a b σ) (hd:Wf a) {r:Nat} (hr:r < a.n):Pl.ord b (σ r) = (Pl.ord a r).map σ := by
 unfold Pl.ord; rw [← I.n]; exact I.ordK hd hr a.n
theorem Iso.chk (I:Iso a b σ) (hd:Wf a) {o:List Nat} {c:Nat} (ho:∀ c,c ∈ o → c < a.n) (hc:c < a.n):Pl.chk b (o.map σ) (σ c) = Pl.chk a o c := by
 have e:∀ t,t < 4 → (o.map σ).idxOf (Pl.nb b (σ c) t) = o.idxOf (Pl.nb a c t):=fun t ht => by
  rw [I.nb hc ht]; exact idx_map I.inj (nb_lt hd hc ht) ho
 have m0:=I.mm hc (t := 0) (by omega)
 rw [Nat.add_zero,Nat.add_zero] at m0
 unfold Pl.chk
 rw [I.s c hc,e 0 (by omega),e 1 (by omega),e 2 (by omega),e 3 (by omega),m0,I.mm hc (t := 1) (by omega),I.mm hc (t := 2) (by omega),I.mm hc (t := 3) (by omega)]
theorem flat_map_eq {f g:Nat → List Int}:∀ {l:List Nat},(∀ c,c ∈ l → f (σ c) = g c) → (l.map σ).flatMap f = l.flatMap g
 | [],_ => rfl
 | c :: l, h => by
   rw [List.map_cons,List.flatMap_cons,List.flatMap_cons,h c (by simp),flat_map_eq (fun x hx => h x (by simp [hx]))]
theorem Iso.code (I:Iso a b σ) (hd:Wf a) {r:Nat} (hr:r < a.n):Pl.code b (σ r) = Pl.code a r := by
 unfold Pl.code
 rw [I.ord hd hr]
 have hm:=fun c hc => ((ord_ok hd hr).mem c hc).1
 exact flat_map_eq (fun c hc => I.chk hd hm (hm c hc))
theorem Iso.comp (I:Iso a b σ) (hd:Wf a) (hb:Wf b) {x y:Nat} (hx:x < a.n) (hy:y < a.n):Comp b (σ x) (σ y) ↔ Comp a x y := by
 rw [← ord_mem hd hx,← ord_mem hb (by rw [← I.n]; exact I.lt x hx),I.ord hd hx]
 exact mem_map_inj I.inj (fun c hc => ((ord_ok hd hx).mem c hc).1) hy
end
end Go.Proofs.YtghdiolnonejaaaGreatDoor.Pl
end
section
namespace Go.Proofs.YtghdiolnonejaaaGreatDoor.Pl
variable {d:Dg}
noncomputable def vb (p:Prop):Bool := open Classical in decide p
theorem vb_true {p:Prop} (h:p):vb p = true := by unfold vb; simpa using h
theorem vb_false {p:Prop} (h:¬ p):vb p = false := by unfold vb; simpa using h
theorem vb_iff {p:Prop}:vb p = true ↔ p := by unfold vb; simp
theorem Wf.nxb (hd:Wf d):Bij (4 * d.n) (dart d) (nx d) := hd.hm.pb
def gb (bs:List Bool) (g:Nat):Bool := bs.getD g false
theorem gb_set {bs:List Bool} {i:Nat} (hi:i < bs.length) (v:Bool) (a:Nat):gb (bs.set i v) a = if a = i then v else gb bs a := by
 unfold gb
 rw [List.getD_eq_getElem?_getD,List.getD_eq_getElem?_getD,List.getElem?_set]
 by_cases h:i = a
 ·subst h; simp [hi]
 ·rw [if_neg h,if_neg (fun e => h e.symm)]
def uns (bs:List Bool):Nat := bs.countP (fun b => !b)
theorem uns_set {bs:List Bool} {i:Nat} (hi:i < bs.length) (hn:gb bs i = false):uns (bs.set i true) + 1 = uns bs := by
 have e:gb bs i = bs[i]:=by unfold gb; rw [List.getD_eq_getElem?_getD,List.getElem?_eq_getElem hi]; rfl
 have hb:bs[i] = false:=by rw [← e,hn]
 have hp:0 < uns bs:=by
  unfold uns
  rw [List.countP_pos_iff]
  exact ⟨bs[i],List.getElem_mem hi,by rw [hb]; rfl⟩
 unfold uns at hp ⊢
 rw [List.countP_set hi,hb]
 simp only [Bool.not_false,if_true,Bool.not_true,Bool.false_eq_true,if_false]
 omega
structure SQ (d:Dg) (k:Nat) (bs:List Bool):Prop where
 len:bs.length = 4 * d.n
 iff:∀ g,g < 4 * d.n → (gb bs g = true ↔ ∃ h,h < k ∧ Orb (nx d) h g)
theorem SQ.start (d:Dg):SQ d 0 (List.replicate (4 * d.n) false) := by
 refine ⟨by simp,fun g hg => ?_⟩
 have:gb (List.replicate (4 * d.n) false) g = false:=by
  unfold gb; rw [List.getD_eq_getElem?_getD,List.getElem?_replicate,if_pos hg]; rfl
 rw [this]
 exact ⟨fun h => (Bool.false_ne_true h).elim,fun ⟨h,h1,_⟩ => by omega⟩
structure SI (d:Dg) (k i:Nat) (bs:List Bool):Prop where
 len:bs.length = 4 * d.n
 hk:k < 4 * d.n
 new:¬ ∃ h,h < k ∧ Orb (nx d) h k
 iff:∀ g,g < 4 * d.n → (gb bs g = true ↔ (∃ h,h < k ∧ Orb (nx d) h g) ∨ ∃ j,j < i ∧ it (nx d) j k = g)
theorem SQ.seen (hd:Wf d) {k:Nat} {bs:List Bool} (h:SQ d k bs) (hk:k < 4 * d.n) (hs:gb bs k = true):SQ d (k + 1) bs ∧ ¬ Least (nx d) k := by
 obtain ⟨h0,h1,h2⟩:=(h.iff k hk).1 hs
 have h0n:h0 < 4 * d.n:=by omega
 refine ⟨⟨h.len,fun g hg => (h.iff g hg).trans ⟨fun ⟨x,hx,e⟩ => ⟨x,by omega,e⟩,fun ⟨x,hx,e⟩ => ?_⟩⟩,fun hl => ?_⟩
 ·by_cases e2:x = k
  ·subst e2; exact ⟨h0,h1,h2.trans e⟩
  ·exact ⟨x,by omega,e⟩
 ·obtain ⟨j,hj⟩:=hd.nxb.symm h0n h2
  have:=hl j
  omega
theorem SQ.enter (hd:Wf d) {k:Nat} {bs:List Bool} (h:SQ d k bs) (hk:k < 4 * d.n) (hs:gb bs k = false):SI d k 0 bs ∧ Least (nx d) k := by
 have hn:¬ ∃ h,h < k ∧ Orb (nx d) h k:=fun e => by rw [(h.iff k hk).2 e] at hs; cases hs
 refine ⟨⟨h.len,hk,hn,fun g hg => (h.iff g hg).trans ⟨.inl,fun e => e.resolve_right (fun ⟨j,hj,_⟩ => by omega)⟩⟩,fun j => ?_⟩
 refine Nat.le_of_not_lt fun hlt => hn ⟨_,hlt,hd.nxb.symm hk ⟨j,rfl⟩⟩
theorem SI.lt (hd:Wf d) {k i:Nat} {bs:List Bool} (h:SI d k i bs):it (nx d) i k < 4 * d.n := hd.nxb.it i k h.hk
theorem SI.step (hd:Wf d) {k i:Nat} {bs:List Bool} (h:SI d k i bs):SI d k (i + 1) (bs.set (it (nx d) i k) true) := by
 have hl:it (nx d) i k < bs.length:=by rw [h.len]; exact h.lt hd
 refine ⟨by rw [List.length_set,h.len],h.hk,h.new,fun g hg => ?_⟩
 rw [gb_set hl]
 by_cases e:g = it (nx d) i k
 ·rw [if_pos e]
  exact ⟨fun _ => .inr ⟨i,by omega,e.symm⟩,fun _ => rfl⟩
 ·rw [if_neg e,h.iff g hg]
  constructor
  ·rintro (h1 | ⟨j,hj,e1⟩)
   ·exact .inl h1
   ·exact .inr ⟨j,by omega,e1⟩
  ·rintro (h1 | ⟨j,hj,e1⟩)
   ·exact .inl h1
   ·by_cases e2:j = i
    ·subst e2; exact absurd e1.symm e
    ·exact .inr ⟨j,by omega,e1⟩
theorem SI.done (hd:Wf d) {k i:Nat} {bs:List Bool} (h:SI d k i bs) (hs:gb bs (it (nx d) i k) = true):SQ d (k + 1) bs := by
 have hb:=hd.nxb
 -- the face has come back
 have hback:∃ p,0 < p ∧ p ≤ i ∧ it (nx d) p k = k:=by
  rcases (h.iff _ (h.lt hd)).1 hs with ⟨x,hx,e⟩ | ⟨j,hj,e⟩
  ·exact absurd ⟨x,hx,e.trans (hb.symm h.hk ⟨i,rfl⟩)⟩ h.new
  ·refine ⟨i - j,by omega,by omega,?_⟩
   have e2:it (nx d) i k = it (nx d) j (it (nx d) (i - j) k):=by rw [← it_add,Nat.add_sub_cancel' (by omega)]
   rw [e2] at e
   exact (hb.it_inj j _ _ h.hk (hb.it _ k h.hk) e).symm
 obtain ⟨p,hp,hpi,e⟩:=hback
 have all:∀ g,Orb (nx d) k g → ∃ j,j < i ∧ it (nx d) j k = g:=by
  intro g hg
  have:∃ j,j < p ∧ it (nx d) j k = g:=orb_closed (P := fun g => ∃ j,j < p ∧ it (nx d) j k = g) (fun z ⟨j,hj,ej⟩ => by
   by_cases e3:j + 1 = p
   ·refine ⟨0,hp,?_⟩
    rw [← ej]
    show k = it (nx d) (j + 1) k
    rw [e3,e]
   ·exact ⟨j + 1,by omega,by rw [← ej]; rfl⟩) ⟨0,hp,rfl⟩ hg
  obtain ⟨j,hj,ej⟩:=this
  exact ⟨j,by omega,ej⟩
 refine ⟨h.len,fun g hg => (h.iff g hg).trans ⟨?_,?_⟩⟩
 ·rintro (⟨x,hx,e1⟩ | ⟨j,_,e1⟩)
  ·exact ⟨x,by omega,e1⟩
  ·exact ⟨k,by omega,j,e1⟩
 ·rintro ⟨x,hx,e1⟩
  by_cases e2:x = k
  ·subst e2; exact .inr (all g e1)
  ·exact .inl ⟨x,by omega,e1⟩
noncomputable def nv (ps:List Int) (p k:Nat):Nat := cnt (fun a => pv ps a = p) k
noncomputable def nf (d:Dg) (ps:List Int) (p k:Nat):Nat := cnt (fun h => Least (nx d) h ∧ pv ps (h / 4) = p) k
def Ex (d:Dg) (ps es:List Int) (P k m:Nat):Prop := es.length = P ∧ ∀ p,p < P → pv es p = (nf d ps p m:Int) - (nv ps p k:Int)
theorem Ex.start (d:Dg) (ps:List Int) (P:Nat):Ex d ps (List.replicate P 0) P 0 0 := by
 refine ⟨by simp,fun p hp => ?_⟩
 have:pv (List.replicate P 0) p = 0:=by
  unfold pv; rw [List.getD_eq_getElem?_getD,List.getElem?_replicate,if_pos hp]; rfl
 rw [this]
 simp [nf,nv,cnt]
theorem Ex.less {ps es:List Int} {P k:Nat} (h:Ex d ps es P k 0) {q:Nat} (hq:q < P) (e:pv ps k = q):Ex d ps (es.set q (pv es q - 1)) P (k + 1) 0 := by
 refine ⟨by rw [List.length_set,h.1],fun p hp => ?_⟩
 rw [pv_set (by rw [h.1]; exact hq)]
 have hp0:=h.2 p hp
 by_cases e2:p = q
 ·subst e2
  rw [if_pos rfl,hp0]
  unfold nv
  rw [cnt_step_pos e]; omega
 ·rw [if_neg e2,hp0]
  unfold nv
  rw [cnt_step_neg (fun e3 => e2 (by rw [e] at e3; omega))]
theorem Ex.more {ps es:List Int} {P k m:Nat} (h:Ex d ps es P k m) {q:Nat} (hq:q < P) (e:pv ps (m / 4) = q) (hl:Least (nx d) m):Ex d ps (es.set q (pv es q + 1)) P k (m + 1) := by
 refine ⟨by rw [List.length_set,h.1],fun p hp => ?_⟩
 rw [pv_set (by rw [h.1]; exact hq)]
 have hp0:=h.2 p hp
 by_cases e2:p = q
 ·subst e2
  rw [if_pos rfl,hp0]
  unfold nf
  rw [cnt_step_pos ⟨hl,e⟩]; omega
 ·rw [if_neg e2,hp0]
  unfold nf
  rw [cnt_step_neg (fun e3 => e2 (by have := e3.2; rw [e] at this; omega))]
theorem Ex.same {ps es:List Int} {P k m:Nat} (h:Ex d ps es P k m) (hl:¬ Least (nx d) m):Ex d ps es P k (m + 1) := by
 refine ⟨h.1,fun p hp => ?_⟩
 rw [h.2 p hp]
 unfold nf
 rw [cnt_step_neg (fun e3 => hl e3.1)]
def Rule (d:Dg):Prop := ∀ c,c < d.n → cnt (fun h => Least (nx d) h ∧ Comp d c (h / 4)) (4 * d.n) = cnt (fun b => Comp d c b) d.n + 2
theorem Ex.rule (hd:Wf d) {ps es:List Int} {P:Nat} (hb:LB d ps P) (hall:∀ a,a < d.n → 0 ≤ pv ps a) (h:Ex d ps es P d.n (4 * d.n)):(∀ p,p < P → pv es p = 2) ↔ Rule d := by
 have key:∀ c p:Nat,c < d.n → pv ps c = p → nf d ps p (4 * d.n) = cnt (fun h => Least (nx d) h ∧ Comp d c (h / 4)) (4 * d.n) ∧ nv ps p d.n = cnt (fun b => Comp d c b) d.n:=by
  intro c p hc e
  have one:∀ b,b < d.n → (pv ps b = p ↔ Comp d c b):=fun b hb' => ⟨fun e2 => hb.conn c b hc hb' (hall c hc) (by rw [e,e2]),fun e2 => by rw [hb.same c b hc e2 (hall c hc),e]⟩
  refine ⟨cnt_congr _ (fun x hx => ?_),cnt_congr _ (fun x hx => one x hx)⟩
  rw [one (x / 4) (by omega)]
 constructor
 ·intro h2 c hc
  have hlo:=hb.lo c hc
  have h0:=hall c hc
  obtain ⟨p,hp⟩:∃ p:Nat,pv ps c = p := ⟨(pv ps c).toNat,by omega⟩
  obtain ⟨k1,k2⟩:=key c p hc hp
  have h3:=h2 p (by omega)
  rw [h.2 p (by omega),k1,k2] at h3
  omega
 ·intro h2 p hp
  obtain ⟨c,hc,e⟩:=hb.all p hp
  obtain ⟨k1,k2⟩:=key c p hc e
  rw [h.2 p hp,k1,k2,h2 c hc]
  omega
end Go.Proofs.YtghdiolnonejaaaGreatDoor.Pl
end
section
namespace Go.Proofs.YtghdiolnonejaaaGreatDoor.Pl
variable {N:Nat} {S:Nat → Prop} {f:Nat → Nat}
def Per (f:Nat → Nat) (x p:Nat):Prop := 0 < p ∧ it f p x = x ∧ ∀ i,0 < i → i < p → it f i x ≠ x
theorem least_nat {P:Nat → Prop}:∀ (n:Nat),P n → ∃ m,m ≤ n ∧ P m ∧ ∀ k,k < m → ¬ P k
 | 0,h => ⟨0,Nat.le_refl _,h,fun k hk => absurd hk (by omega)⟩
 | n + 1, h => by
   by_cases e:∃ k,k < n + 1 ∧ P k
   ·obtain ⟨k,hk,hp⟩:=e
    obtain ⟨m,h1,h2,h3⟩:=least_nat k hp
    exact ⟨m,by omega,h2,h3⟩
   ·exact ⟨n + 1,Nat.le_refl _,h,fun k hk hp => e ⟨k,hk,hp⟩⟩
termination_by n => n
theorem Bij.per (h:Bij N S f) {x:Nat} (hx:S x):∃ p,p ≤ N ∧ Per f x p := by
 obtain ⟨q,h1,h2,h3⟩:=h.back hx
 obtain ⟨m,g1,⟨g2,g3⟩,g4⟩:=least_nat (P := fun p => 0 < p ∧ Pl.it f p x = x) q ⟨h1,h3⟩
 exact ⟨m,by omega,g2,g3,fun i hi hm e => g4 i hm ⟨hi,e⟩⟩
def cyc (f:Nat → Nat) (x p:Nat):List Nat := (List.range p).map (fun i => it f i x)
theorem cyc_len (f:Nat → Nat) (x p:Nat):(cyc f x p).length = p := by unfold cyc; simp
theorem cyc_succ (f:Nat → Nat) (x p:Nat):cyc f x (p + 1) = cyc f x p ++ [it f p x] := by unfold cyc; rw [List.range_succ,List.map_append]; rfl
theorem cyc_get {f:Nat → Nat} {x p i:Nat} (hi:i < p):(cyc f x p).getD i 0 = it f i x := by
 unfold cyc
 rw [List.getD_eq_getElem?_getD,List.getElem?_map,List.getElem?_range hi]; rfl
theorem mem_cyc {x p:Nat} (hp:Per f x p) {y:Nat}:y ∈ cyc f x p ↔ Orb f x y := by
 unfold cyc
 rw [List.mem_map]
 constructor
 ·rintro ⟨i,_,e⟩; exact ⟨i,e⟩
 ·rintro ⟨k,e⟩
  refine ⟨k % p,List.mem_range.2 (Nat.mod_lt _ hp.1),?_⟩
  have h1:k = k % p + k / p * p:=by rw [Nat.mul_comm]; exact (Nat.mod_add_div k p).symm
  rw [h1,it_add,it_mul f p x hp.2.1] at e
  exact e
structure Fcs (f:Nat → Nat) (W:Nat → Prop) (N k:Nat) (fs:List (List Nat)) (bs:List Bool):Prop where
 len:bs.length = N
 is:∀ l,l ∈ fs → ∃ h p,h < N ∧ W h ∧ Per f h p ∧ l = cyc f h p
 seen:∀ h,h < N → (gb bs h = true ↔ ∃ l,l ∈ fs ∧ h ∈ l)
 all:∀ h,h < k → W h → gb bs h = true
 one:∀ (i j:Nat) (l m:List Nat) (h:Nat),fs[i]? = some l → fs[j]? = some m → h ∈ l → h ∈ m → i = j
theorem Fcs.start (f:Nat → Nat) (W:Nat → Prop) (N:Nat):Fcs f W N 0 [] (List.replicate N false) := by
 refine ⟨by simp,fun l h => by simp at h,fun h hh => ?_,fun h hh => absurd hh (by omega),fun i j l m h e => by simp at e⟩
 constructor
 ·intro e; unfold gb at e; rw [List.getD_eq_getElem?_getD,List.getElem?_replicate,if_pos hh] at e; exact absurd e (by decide)
 ·rintro ⟨l,h,_⟩; simp at h
theorem Fcs.skip {W:Nat → Prop} {k:Nat} {fs:List (List Nat)} {bs:List Bool} (h:Fcs f W N k fs bs) (hs:gb bs k = true ∨ ¬ W k):Fcs f W N (k + 1) fs bs :=
 ⟨h.len, h.is, h.seen, fun x hx hw => by
   by_cases e:x = k
   ·subst e
    rcases hs with hs | hs
    ·exact hs
    ·exact absurd hw hs
   ·exact h.all x (by omega) hw,h.one⟩
def mark (bs:List Bool):List Nat → List Bool
 | [] => bs
 | x :: l => mark (bs.set x true) l
theorem mark_append (bs:List Bool):∀ (l m:List Nat),mark bs (l ++ m) = mark (mark bs l) m := by
 intro l
 induction l generalizing bs with
 | nil => intro m; rfl
 | cons x l ih => intro m; exact ih (bs.set x true) m
theorem mark_len (bs:List Bool) (l:List Nat):(mark bs l).length = bs.length := by
 induction l generalizing bs with
 | nil => rfl
 | cons x l ih => show (mark (bs.set x true) l).length = _; rw [ih,List.length_set]
theorem gb_mark {bs:List Bool} {l:List Nat} (hl:∀ x,x ∈ l → x < bs.length) (h:Nat):gb (mark bs l) h = true ↔ gb bs h = true ∨ h ∈ l := by
 induction l generalizing bs with
 | nil => simp [mark]
 | cons x l ih =>
   show gb (mark (bs.set x true) l) h = true ↔ _
   rw [ih (fun y hy => by rw [List.length_set]; exact hl y (List.mem_cons_of_mem _ hy)),gb_set (hl x List.mem_cons_self) true h,List.mem_cons]
   by_cases e:h = x
   ·simp [e]
   ·simp [e]
theorem Fcs.add {W:Nat → Prop} (hb:Bij N S f) (hS:∀ x,x < N → S x) (hN:∀ x,S x → x < N) {k p:Nat} {fs:List (List Nat)} {bs:List Bool} (h:Fcs f W N k fs bs) (hk:k < N) (hw:W k) (hn:gb bs k = false) (hp:Per f k p) :
 Fcs f W N (k + 1) (fs ++ [cyc f k p]) (mark bs (cyc f k p)) := by
 have hin:∀ x,x ∈ cyc f k p → x < bs.length:=fun x hx => by
  rw [h.len]; exact hN x (hb.orb_mem (hS k hk) ((mem_cyc hp).1 hx))
 have apart:∀ l x,l ∈ fs → x ∈ l → ¬ x ∈ cyc f k p:=fun l x hl hx hc => by
  obtain ⟨g,q,h1,h2,h3,rfl⟩:=h.is l hl
  have e1:=(mem_cyc h3).1 hx
  have e2:=(mem_cyc hp).1 hc
  have e3:Orb f g k:=e1.trans (hb.symm (hS k hk) e2)
  have:=(h.seen k hk).2 ⟨_,hl,(mem_cyc h3).2 e3⟩
  rw [hn] at this
  exact absurd this (by decide)
 refine ⟨by rw [mark_len,h.len],fun l hl => ?_,fun x hx => ?_,fun x hx hwx => ?_,fun i j l m x e1 e2 h1 h2 => ?_⟩
 ·rcases List.mem_append.1 hl with hl | hl
  ·exact h.is l hl
  ·rw [List.mem_singleton] at hl
   exact ⟨k,p,hk,hw,hp,hl⟩
 ·rw [gb_mark hin,h.seen x hx]
  constructor
  ·rintro (⟨l,h1,h2⟩ | h2)
   ·exact ⟨l,List.mem_append_left _ h1,h2⟩
   ·exact ⟨_,List.mem_append_right _ (List.mem_singleton.2 rfl),h2⟩
  ·rintro ⟨l,h1,h2⟩
   rcases List.mem_append.1 h1 with h1 | h1
   ·exact .inl ⟨l,h1,h2⟩
   ·rw [List.mem_singleton] at h1; subst h1; exact .inr h2
 ·rw [gb_mark hin]
  by_cases e:x = k
  ·subst e; exact .inr ((mem_cyc hp).2 (Orb.refl f x))
  ·exact .inl (h.all x (by omega) hwx)
 ·rw [List.getElem?_append] at e1 e2
  by_cases c1:i < fs.length
  ·rw [if_pos c1] at e1
   by_cases c2:j < fs.length
   ·rw [if_pos c2] at e2
    exact h.one i j l m x e1 e2 h1 h2
   ·rw [if_neg c2] at e2
    have:=List.mem_of_getElem? e2
    rw [List.mem_singleton] at this
    subst this
    exact absurd h2 (apart l x (List.mem_of_getElem? e1) h1)
  ·rw [if_neg c1] at e1
   have t1:=List.mem_of_getElem? e1
   rw [List.mem_singleton] at t1
   by_cases c2:j < fs.length
   ·rw [if_pos c2] at e2
    subst t1
    exact absurd h1 (apart m x (List.mem_of_getElem? e2) h2)
   ·rw [if_neg c2] at e2
    have a1:=(List.getElem?_eq_some_iff.1 e1).1
    have a2:=(List.getElem?_eq_some_iff.1 e2).1
    simp only [List.length_singleton] at a1 a2
    omega
theorem Fcs.label {W:Nat → Prop} (hb:Bij N S f) (hS:∀ x,x < N → S x) {fs:List (List Nat)} {bs:List Bool} (h:Fcs f W N N fs bs) (hW:∀ x,x < N → W x) {F:Nat → Nat} (hF:∀ (i:Nat) (l:List Nat) (x:Nat),fs[i]? = some l → x ∈ l → F x = i) {x y:Nat} (hx:x < N) (hy:y < N):F x = F y ↔ Orb f x y := by
 obtain ⟨l,h1,h2⟩:=(h.seen x hx).1 (h.all x hx (hW x hx))
 obtain ⟨m,g1,g2⟩:=(h.seen y hy).1 (h.all y hy (hW y hy))
 obtain ⟨i,hi⟩:=List.getElem?_of_mem h1
 obtain ⟨j,hj⟩:=List.getElem?_of_mem g1
 rw [hF i l x hi h2,hF j m y hj g2]
 obtain ⟨a,p,a1,a2,a3,rfl⟩:=h.is l h1
 have ox:=(mem_cyc a3).1 h2
 constructor
 ·intro e
  subst e
  rw [hi] at hj
  injection hj with hj
  subst hj
  have oy:=(mem_cyc a3).1 g2
  exact (hb.symm (hS a a1) ox).trans oy
 ·intro e
  exact h.one i j _ m y hi hj ((mem_cyc a3).2 (ox.trans e)) g2
end Go.Proofs.YtghdiolnonejaaaGreatDoor.Pl
end
section
namespace Go.Proofs.YtghdiolnonejaaaGreatDoor.Pl
variable {N:Nat} {S:Nat → Prop} {r a:Nat → Nat}
theorem Flat.bypass (h:Hm N S r a) {x y u v:Nat} (hx:S x) (hy:S y) (hu:S u) (hv:S v) (hxy:x ≠ y) (huv:u ≠ v) (xu:x ≠ u) (xv:x ≠ v) (yu:y ≠ u) (yv:y ≠ v)
 (fx:a x = x) (fy:a y = y) (fu:a u = u) (fv:a v = v) (ho:Orb (phi r a) u v) (hf:Flat S r (tr (tr a u x) v y)):Flat S r (tr a x y) := by
 have h1:=h.tr hu hx fu fx
 have fv1:tr a u x v = v:=by rw [tr_ne (Ne.symm huv) (Ne.symm xv),fv]
 have fy1:tr a u x y = y:=by rw [tr_ne yu (Ne.symm hxy),fy]
 obtain ⟨f1,k1⟩:=Flat.del h1 hv hy (Ne.symm yv) fv1 fy1 hf
 obtain ⟨f0,k0⟩:=Flat.del h hu hx (Ne.symm xu) fu fx f1
 have cuv:=orb_phi_con ho
 have ovu:=h.pb.symm hu ho
 have cvu:=orb_phi_con ovu
 refine Flat.add h hx hy hxy fx fy (fun hc => ?_) f0
 have c2:Con r (tr a u x) v y:=(h.con_tr hu hx fu fx hv).2 (.inr (.inl ⟨cvu,hc⟩))
 have o2:=k1 c2
 by_cases oux:Orb (phi r a) u x
 ·have sub : Orb (phi r a) v y := by
   rw [phi_tr] at o2
   refine orb_sub (h.pb.tr hu hx) h.pb.eqv (fun z hz => ?_) hv o2
   by_cases z1:z = u
   ·subst z1; rw [tr_a]; exact oux.trans (Orb.step _ _)
   ·by_cases z2:z = x
    ·subst z2; rw [tr_b]; exact (h.pb.symm hu oux).trans (Orb.step _ _)
    ·rw [tr_ne z1 z2]; exact Orb.step _ _
  exact (h.pb.symm hu oux).trans (ho.trans sub)
 ·rw [phi_tr,h.pb.merge hu hx oux hv] at o2
  rcases o2 with e | ⟨_,e⟩ | ⟨e,_⟩
  ·exact absurd (k0 ((orb_phi_con (ho.trans e)).trans (h.con_symm hx hc))) oux
  ·exact e
  ·exact absurd (ho.trans e) oux
def cut2 (a:Nat → Nat) (u v:Nat):Nat → Nat := tr (tr a u (a u)) v (a v)
def byp (a:Nat → Nat) (u v:Nat):Nat → Nat := tr (cut2 a u v) (a u) (a v)
theorem cut2_hm (h:Hm N S r a) {u v:Nat} (hu:S u) (hv:S v) (huv:u ≠ v) (nu:a u ≠ u) (nv:a v ≠ v) (nuv:a u ≠ v) :
 Hm N S r (cut2 a u v) ∧ cut2 a u v u = u ∧ cut2 a u v v = v ∧ cut2 a u v (a u) = a u ∧ cut2 a u v (a v) = a v ∧ a = tr (tr (cut2 a u v) u (a u)) v (a v) ∧ a u ≠ a v ∧ a v ≠ u := by
 have n1:a u ≠ a v:=fun e => huv (h.ab.inj _ _ hu hv e)
 have n2:a v ≠ u:=fun e => nuv (by rw [← e,h.inv v hv])
 obtain ⟨c1,c2,c3⟩:=Hm.cut h hu nu
 have e1:tr a u (a u) v = a v:=tr_ne (Ne.symm huv) (Ne.symm nuv)
 have e2:tr a u (a u) v ≠ v:=by rw [e1]; exact nv
 obtain ⟨d1,d2,d3⟩:=Hm.cut c1 hv e2
 rw [e1] at d1 d2 d3
 refine ⟨d1,?_,d2,?_,d3,?_,n1,n2⟩
 ·unfold cut2; rw [tr_ne huv (Ne.symm n2),c2]
 ·unfold cut2; rw [tr_ne nuv n1,c3]
 ·unfold cut2
  funext z
  by_cases z1:z = v
  ·subst z1
   rw [tr_a]
   rw [tr_ne n2 (Ne.symm n1),tr_b,tr_ne (Ne.symm huv) (Ne.symm nuv)]
  ·by_cases z2:z = a v
   ·subst z2
    rw [tr_b,tr_ne (Ne.symm huv) (Ne.symm nuv),tr_a,tr_ne n2 (Ne.symm n1)]
   ·rw [tr_ne z1 z2]
    by_cases z3:z = u
    ·subst z3
     rw [tr_a,tr_ne nuv n1,tr_b]
    ·by_cases z4:z = a u
     ·subst z4
      rw [tr_b,tr_ne huv (Ne.symm n2),tr_a]
     ·rw [tr_ne z3 z4,tr_ne z1 z2,tr_ne z3 z4]
theorem byp_flat (h:Hm N S r a) {u v:Nat} (hu:S u) (hv:S v) (huv:u ≠ v) (nu:a u ≠ u) (nv:a v ≠ v) (nuv:a u ≠ v) (ho:Orb (phi r (cut2 a u v)) u v) (hf:Flat S r a) :
 Hm N S r (byp a u v) ∧ Flat S r (byp a u v) := by
 obtain ⟨c0,c1,c2,c3,c4,c5,c6,c7⟩:=cut2_hm h hu hv huv nu nv nuv
 have hx:=h.ab.maps u hu
 have hy:=h.ab.maps v hv
 exact ⟨c0.tr hx hy c3 c4,Flat.bypass c0 hx hy hu hv c6 huv nu nuv c7 nv c3 c4 c1 c2 ho (by rw [← c5]; exact hf)⟩
theorem byp_at (h:Hm N S r a) {u v:Nat} (hu:S u) (hv:S v) (huv:u ≠ v) (nu:a u ≠ u) (nv:a v ≠ v) (nuv:a u ≠ v) :
 byp a u v u = u ∧ byp a u v v = v ∧ byp a u v (a u) = a v ∧ byp a u v (a v) = a u ∧ ∀ z,z ≠ u → z ≠ v → z ≠ a u → z ≠ a v → byp a u v z = a z := by
 obtain ⟨c0,c1,c2,c3,c4,c5,c6,c7⟩:=cut2_hm h hu hv huv nu nv nuv
 unfold byp
 refine ⟨by rw [tr_ne (Ne.symm nu) (Ne.symm c7),c1],by rw [tr_ne (Ne.symm nuv) (Ne.symm nv),c2],by rw [tr_a,c4],by rw [tr_b,c3],fun z z1 z2 z3 z4 => ?_⟩
 rw [tr_ne z3 z4]
 unfold cut2
 rw [tr_ne z2 z4,tr_ne z1 z3]
theorem cut2_at (u v:Nat) {z:Nat} (z1:z ≠ u) (z2:z ≠ v) (z3:z ≠ a u) (z4:z ≠ a v):cut2 a u v z = a z := by
 unfold cut2
 rw [tr_ne z2 z4,tr_ne z1 z3]
end Go.Proofs.YtghdiolnonejaaaGreatDoor.Pl
end
section
namespace Go.Proofs.YtghdiolnonejaaaGreatDoor.Pl
def mk (sg mt:List Int) (lp:Int):Dg := ⟨sg,mt.map Int.toNat,lp.toNat⟩
def VL (sg mt:List Int) (lp:Int):Prop := Valid (mk sg mt lp) ∧ (∀ z,z ∈ mt → 0 ≤ z) ∧ 0 ≤ lp
variable {sg mt:List Int} {lp:Int}
theorem mk_n (sg mt:List Int) (lp:Int):(mk sg mt lp).n = sg.length := rfl
theorem mk_m {h:Nat} (hh:h < mt.length):(mk sg mt lp).m h = (pv mt h).toNat := by
 unfold Dg.m mk pv
 rw [List.getD_eq_getElem?_getD,List.getD_eq_getElem?_getD,List.getElem?_map,List.getElem?_eq_getElem hh]; rfl
theorem nats_mk (h:∀ z,z ∈ mt → 0 ≤ z):(mk sg mt lp).mt.map (fun m:Nat => (m:Int)) = mt := by
 unfold mk
 rw [List.map_map]
 refine (List.map_congr_left (fun z hz => ?_)).trans (List.map_id mt)
 have:=h z hz
 simp only [Function.comp_apply,id_eq]
 omega
theorem pv_mem {l:List Int} {h:Nat} (hh:h < l.length):pv l h ∈ l := by
 unfold pv
 rw [List.getD_eq_getElem?_getD,List.getElem?_eq_getElem hh]
 exact List.getElem_mem hh
theorem VL.few (h:VL sg mt lp):sg.length ≤ 64 := h.1.wf.few
theorem VL.len (h:VL sg mt lp):mt.length = 4 * sg.length := by have := h.1.wf.len; unfold mk Dg.n at this; simpa using this
theorem VL.loops (h:VL sg mt lp):0 ≤ lp ∧ lp ≤ 64 := by
 have h1:=h.1.wf.lp
 have h2:=h.2.2
 unfold mk at h1
 simp only at h1
 omega
theorem VL.sign (h:VL sg mt lp) {c:Nat} (hc:c < sg.length):pv sg c = 1 ∨ pv sg c = -1 := h.1.wf.sign c hc
theorem VL.mate (h:VL sg mt lp) {k:Nat} (hk:k < mt.length):0 ≤ pv mt k ∧ pv mt k < mt.length ∧ pv mt k ≠ k ∧ pv mt (pv mt k).toNat = k ∧ out (mk sg mt lp) k ≠ out (mk sg mt lp) (pv mt k).toNat := by
 have hl:=h.len
 have hw:=h.1.wf
 have h0:=h.2.1 _ (pv_mem hk)
 have hk4:k < 4 * (mk sg mt lp).n:=by rw [mk_n]; omega
 have h1:=hw.lt k hk4
 have h2:=hw.ne k hk4
 have h3:=hw.inv k hk4
 have h4:=hw.way k hk4
 rw [mk_m hk] at h1 h2 h3 h4
 rw [mk_n] at h1
 have hm:(pv mt k).toNat < mt.length:=by omega
 rw [mk_m hm] at h3
 have h5:=h.2.1 _ (pv_mem hm)
 exact ⟨h0,by omega,by omega,by omega,h4⟩
theorem wf_of (h1:sg.length ≤ 64) (h2:mt.length = 4 * sg.length) (h3:0 ≤ lp ∧ lp ≤ 64) (h4:∀ c,c < sg.length → pv sg c = 1 ∨ pv sg c = -1)
 (h5:∀ k,k < mt.length → 0 ≤ pv mt k ∧ pv mt k < mt.length ∧ pv mt k ≠ k ∧ pv mt (pv mt k).toNat = k ∧ out (mk sg mt lp) k ≠ out (mk sg mt lp) (pv mt k).toNat):Wf (mk sg mt lp) := by
 refine ⟨h1,by unfold mk Dg.n; simpa using h2,by unfold mk; simp only; omega,h4,fun h hh => ?_,fun h hh => ?_,fun h hh => ?_,fun h hh => ?_⟩
 all_goals
  rw [mk_n] at hh
  have hl:h < mt.length:=by omega
  obtain ⟨g1,g2,g3,g4,g5⟩:=h5 h hl
  rw [mk_m hl]
 ·rw [mk_n]; omega
 ·omega
 ·rw [mk_m (by omega),g4]; rfl
 ·exact g5
theorem VL.of (hw:Wf (mk sg mt lp)) (hp:∀ z,z ∈ mt → 0 ≤ z) (hl:0 ≤ lp):VL sg mt lp ↔ Rule (mk sg mt lp) :=
 ⟨fun h => h.1.flat,fun h => ⟨⟨hw,h⟩,hp,hl⟩⟩
theorem mem_pv {l:List Int} {z:Int} (h:z ∈ l):∃ k,k < l.length ∧ pv l k = z := by
 obtain ⟨k,hk,e⟩:=List.mem_iff_getElem.1 h
 exact ⟨k,hk,by unfold pv; rw [List.getD_eq_getElem?_getD,List.getElem?_eq_getElem hk]; exact e⟩
end Go.Proofs.YtghdiolnonejaaaGreatDoor.Pl
end
section
namespace Go.Proofs.YtghdiolnonejaaaGreatDoor.Pl
def shf (gs:List Nat) (h:Nat):Nat := h - 4 * (gs.filter (fun c => decide (c < h / 4))).length
def left (n:Nat) (gs:List Nat):List Nat := (List.range n).filter (fun c => !gs.contains c)
def four (f:Nat → Nat) (c:Nat):List Nat := [f (4 * c),f (4 * c + 1),f (4 * c + 2),f (4 * c + 3)]
def shrS (gs:List Nat) (sg:List Int):List Int := (left sg.length gs).map (fun c => sg.getD c 0)
def shrM (gs:List Nat) (n:Nat) (mt:List Nat):List Nat := (left n gs).flatMap (four (fun h => shf gs (mt.getD h 0)))
theorem left_succ (n:Nat) (gs:List Nat):left (n + 1) gs = left n gs ++ if gs.contains n then [] else [n] := by
 unfold left
 rw [List.range_succ,List.filter_append]
 congr 1
 cases h:gs.contains n
 ·rw [List.filter_cons,if_pos (by rw [h]; rfl)]; rfl
 ·rw [List.filter_cons,if_neg (by rw [h]; decide)]; rfl
theorem left_zero (gs:List Nat):left 0 gs = [] := rfl
theorem left_le (n:Nat) (gs:List Nat):(left n gs).length ≤ n := by
 unfold left
 have:=List.length_filter_le (fun c => !gs.contains c) (List.range n)
 simpa using this
theorem flat4 (l:List Nat) (f:Nat → Nat):(l.flatMap (four f)).length = 4 * l.length := by
 induction l with
 | nil => rfl
 | cons a l ih => rw [List.flatMap_cons,List.length_append,ih,List.length_cons]; unfold four; simp only [List.length_cons,List.length_nil]; omega
theorem shrM_len (gs:List Nat) (n:Nat) (mt:List Nat):(shrM gs n mt).length = 4 * (left n gs).length := flat4 _ _
theorem shrS_len (gs:List Nat) (sg:List Int):(shrS gs sg).length = (left sg.length gs).length := by unfold shrS; rw [List.length_map]
theorem left_one {n c:Nat} (h:c < n):(left n [c]).length + 1 = n := by
 induction n with
 | zero => omega
 | succ n ih =>
   rw [left_succ]
   by_cases e:c = n
   ·subst e
    have:∀ k,k ≤ c → (left k [c]).length = k:=by
     intro k
     induction k with
     | zero => intro _; rfl
     | succ k ihk => intro hk; rw [left_succ, List.length_append, ihk (by omega)]; have : [c].contains k = false := by simp; omega
                     rw [this]; rfl
    have h2:=this c (Nat.le_refl _)
    simp [h2]
   ·have h2:=ih (by omega)
    have:[c].contains n = false:=by simp; omega
    rw [this,List.length_append]
    simp
    omega
theorem left_two {n x y:Nat} (h:x < y) (hy:y < n):(left n [x,y]).length + 2 = n := by
 induction n with
 | zero => omega
 | succ n ih =>
   rw [left_succ,List.length_append]
   by_cases e:y = n
   ·subst e
    have:∀ k,k ≤ y → left k [x,y] = left k [x]:=by
     intro k
     induction k with
     | zero => intro _; rfl
     | succ k ihk =>
       intro hk
       rw [left_succ,left_succ,ihk (by omega)]
       congr 1
       have:([x,y].contains k) = ([x].contains k):=by
        rw [Bool.eq_iff_iff]; simp; omega
       rw [this]
    rw [this y (Nat.le_refl _)]
    have:=left_one h
    simp
    omega
   ·have h2:=ih (by omega)
    have:[x,y].contains n = false:=by simp; omega
    rw [this]
    simp
    omega
def Few (gs:List Nat):Prop := ∀ q:Nat,(gs.filter (fun c => decide (c < q))).length ≤ q
theorem few_one (c:Nat):Few [c] := by
 intro q
 by_cases e:c < q
 ·simp [List.filter_cons,e]; omega
 ·simp [List.filter_cons,e]
theorem few_two {x y:Nat} (h:x < y):Few [x,y] := by
 intro q
 by_cases e:x < q <;> by_cases e2:y < q <;> simp [List.filter_cons,e,e2] <;> omega
theorem shf_le {gs:List Nat} (hf:Few gs) (h:Nat):4 * (gs.filter (fun c => decide (c < h / 4))).length ≤ h := by
 have:=hf (h / 4)
 omega
end Go.Proofs.YtghdiolnonejaaaGreatDoor.Pl
end
section
namespace Go.Proofs.YtghdiolnonejaaaGreatDoor.Pl
section
variable {N M:Nat} {S T:Nat → Prop} {r a r' a' t:Nat → Nat}
theorem it_map {f f':Nat → Nat} (hS:∀ x,S x → S (f x)) (e:∀ x,S x → f' (t x) = t (f x)) {x:Nat} (hx:S x):∀ k,it f' k (t x) = t (it f k x) ∧ S (it f k x)
 | 0 => ⟨rfl,hx⟩
 | k + 1 => by
   obtain ⟨h1,h2⟩:=it_map hS e hx k
   exact ⟨by show f' (it f' k (t x)) = t (f (it f k x)); rw [h1,e _ h2],hS _ h2⟩
theorem orb_map {f f':Nat → Nat} (hS:∀ x,S x → S (f x)) (e:∀ x,S x → f' (t x) = t (f x)) (inj:∀ x y,S x → S y → t x = t y → x = y) {x y:Nat} (hx:S x) (hy:S y):Orb f x y ↔ Orb f' (t x) (t y) := by
 constructor
 ·rintro ⟨k,rfl⟩; exact ⟨k,(it_map hS e hx k).1⟩
 ·rintro ⟨k,h⟩
  obtain ⟨h1,h2⟩:=it_map hS e hx k
  exact ⟨k,inj _ _ h2 hy (by rw [← h1,h])⟩
theorem con_map {x y:Nat} (hS:∀ x,S x → S (r x)) (hA:∀ x,S x → S (a x)) (er:∀ x,S x → r' (t x) = t (r x)) (ea:∀ x,S x → a' (t x) = t (a x)) (inj:∀ x y,S x → S y → t x = t y → x = y) (hx:S x) (hy:S y):Con r a x y ↔ Con r' a' (t x) (t y) := by
 have fw:∀ {y},Con r a x y → Con r' a' (t x) (t y) ∧ S y:=by
  intro y e
  induction e with
  | refl => exact ⟨.refl,hx⟩
  | left _ ih => exact ⟨er _ ih.2 ▸ ih.1.left,hS _ ih.2⟩
  | right _ ih => exact ⟨ea _ ih.2 ▸ ih.1.right,hA _ ih.2⟩
 have bw:∀ {v},Con r' a' (t x) v → ∃ y,S y ∧ t y = v ∧ Con r a x y:=by
  intro v e
  induction e with
  | refl => exact ⟨x,hx,rfl,.refl⟩
  | left _ ih => obtain ⟨y,h1,rfl,h3⟩:=ih; exact ⟨r y,hS _ h1,(er _ h1).symm,h3.left⟩
  | right _ ih => obtain ⟨y,h1,rfl,h3⟩:=ih; exact ⟨a y,hA _ h1,(ea _ h1).symm,h3.right⟩
 constructor
 ·intro e; exact (fw e).1
 ·intro e
  obtain ⟨y',h1,h2,h3⟩:=bw e
  rw [← inj _ _ h1 hy h2]; exact h3
theorem Gen.map (hS:∀ x,S x → S (r x)) (hA:∀ x,S x → S (a x)) (er:∀ x,S x → r' (t x) = t (r x)) (ea:∀ x,S x → a' (t x) = t (a x)) (inj:∀ x y,S x → S y → t x = t y → x = y)
 (hto:∀ x,S x → T (t x)) (onto:∀ y,T y → ∃ x,S x ∧ t x = y) {z:Int} (h:Gen S r a z):Gen T r' a' z := by
 obtain ⟨v,d,k,f,c,h1,h2,h3,h4,h5,rfl⟩:=h
 refine ⟨v,d,k,f,c,h1.map t hto onto fun x y hx hy => orb_map hS er inj hx hy,h2.map t hto onto fun x y hx hy => ⟨fun e => by rw [e],fun e => inj x y hx hy e⟩,h3.map t hto onto fun x y hx hy => orb_map hA ea inj hx hy,
  h4.map t hto onto fun x y hx hy => orb_map (fun x hx => hS _ (hA x hx)) (fun x hx => ?_) inj hx hy,h5.map t hto onto fun x y hx hy => con_map hS hA er ea inj hx hy,rfl⟩
 unfold phi
 rw [ea x hx,er _ (hA x hx)]
theorem Flat.sub {U:Nat → Prop} (h:Hm N S r a) (h':Hm N T r a) (hd:∀ x,S x → ¬ T x) (hu:∀ x,(S x ∨ T x) ↔ U x) (hf:Flat U r a):Flat S r a := by
 obtain ⟨z,hz⟩:=h.gen
 obtain ⟨z',hz'⟩:=h'.gen
 have n1:=Gen.nonneg h hz
 have n2:=Gen.nonneg h' hz'
 have e:(fun x => S x ∨ T x) = U:=funext fun x => propext (hu x)
 have hs:=Gen.add h h' hd hz hz'
 rw [e] at hs
 have:=hf.unique hs
 have:z = 0:=by omega
 rw [this] at hz
 exact hz
end
def idx (gs:List Nat) (c:Nat):Nat := c - (gs.filter (fun g => decide (g < c))).length
variable {gs:List Nat}
theorem shf_idx (hf:Few gs) (h:Nat):shf gs h = 4 * idx gs (h / 4) + h % 4 := by
 have:=hf (h / 4)
 unfold shf idx
 omega
theorem flt_succ (c:Nat):∀ gs:List Nat,gs.Nodup → (gs.filter (fun g => decide (g < c + 1))).length = (gs.filter (fun g => decide (g < c))).length + if c ∈ gs then 1 else 0
 | [],_ => by simp
 | g :: gs, hn => by
   obtain ⟨h1,h2⟩:=List.nodup_cons.1 hn
   have ih:=flt_succ c gs h2
   rw [List.filter_cons,List.filter_cons]
   by_cases e:c = g
   ·subst e
    rw [if_neg h1] at ih
    simp [ih]
   ·by_cases e2:g < c
    ·simp [e2,show g < c + 1 by omega,e,ih]; omega
    ·simp [e2,show ¬ g < c + 1 by omega,e,ih]
theorem left_idx (hn:gs.Nodup) (c:Nat):(gs.filter (fun g => decide (g < c))).length + (left c gs).length = c := by
 induction c with
 | zero => simp [left]
 | succ c ih =>
   rw [flt_succ c gs hn,left_succ,List.length_append]
   by_cases e:c ∈ gs <;> simp [e] <;> omega
theorem idx_left (hn:gs.Nodup) (c:Nat):idx gs c = (left c gs).length := by
 have:=left_idx hn c
 unfold idx; omega
theorem left_get (hn:gs.Nodup) {n c:Nat} (hc:c < n) (hg:c ∉ gs):(left n gs)[idx gs c]? = some c := by
 induction n with
 | zero => omega
 | succ n ih =>
   rw [left_succ]
   by_cases e:c = n
   ·subst e
    rw [idx_left hn,List.getElem?_append_right (Nat.le_refl _)]
    simp [hg]
   ·have h:=ih (by omega)
    have hl:idx gs c < (left n gs).length:=by
     rcases Nat.lt_or_ge (idx gs c) (left n gs).length with h1 | h1
     ·exact h1
     ·rw [List.getElem?_eq_none h1] at h; exact absurd h (by simp)
    rw [List.getElem?_append_left hl,h]
theorem idx_lt (hn:gs.Nodup) {n c:Nat} (hc:c < n) (hg:c ∉ gs):idx gs c < (left n gs).length := by
 have h:=left_get hn hc hg
 rcases Nat.lt_or_ge (idx gs c) (left n gs).length with h1 | h1
 ·exact h1
 ·rw [List.getElem?_eq_none h1] at h; exact absurd h (by simp)
theorem idx_onto (hn:gs.Nodup) {n i:Nat} (hi:i < (left n gs).length):∃ c,c < n ∧ c ∉ gs ∧ idx gs c = i := by
 induction n with
 | zero => simp [left] at hi
 | succ n ih =>
   rcases Nat.lt_or_ge i (left n gs).length with h | h
   ·obtain ⟨c,h1,h2,h3⟩:=ih h
    exact ⟨c,by omega,h2,h3⟩
   ·rw [left_succ,List.length_append] at hi
    by_cases e:n ∈ gs
    ·simp [e] at hi; omega
    ·simp [e] at hi
     exact ⟨n,by omega,e,by rw [idx_left hn]; omega⟩
theorem idx_inj (hn:gs.Nodup) {c c':Nat} (hg:c ∉ gs) (hg':c' ∉ gs) (e:idx gs c = idx gs c'):c = c' := by
 have h1:=left_get hn (n := c + c' + 1) (by omega) hg
 have h2:=left_get hn (n := c + c' + 1) (c := c') (by omega) hg'
 rw [e,h2] at h1
 injection h1 with h1
 exact h1.symm
theorem four_get (f:Nat → Nat) {s:Nat} (hs:s < 4):∀ (l:List Nat) (i:Nat),(l.flatMap (four f))[4 * i + s]? = l[i]?.map (fun c => f (4 * c + s))
 | [],i => by simp
 | c :: l, 0 => by
   rw [List.flatMap_cons]
   have:s = 0 ∨ s = 1 ∨ s = 2 ∨ s = 3:=by omega
   rcases this with rfl | rfl | rfl | rfl <;> simp [four]
 | c :: l, i + 1 => by
   have ih:=four_get f hs l i
   rw [List.flatMap_cons,List.getElem?_append_right (by simp [four]; omega)]
   have:4 * (i + 1) + s - (four f c).length = 4 * i + s:=by simp [four]; omega
   rw [this,ih]
   simp
def rsD (d:Dg) (gs mt:List Nat) (lp:Nat):Dg := ⟨shrS gs d.sg,shrM gs d.n mt,lp⟩
theorem rs_n (d:Dg) (gs mt:List Nat) (lp:Nat):(rsD d gs mt lp).n = (left d.n gs).length := shrS_len gs d.sg
theorem rs_s (hn:gs.Nodup) (d:Dg) (mt:List Nat) (lp:Nat) {c:Nat} (hc:c < d.n) (hg:c ∉ gs):(rsD d gs mt lp).s (idx gs c) = d.s c := by
 unfold rsD Dg.s shrS
 have e:=left_get hn hc hg
 unfold Dg.n at e
 rw [List.getD_eq_getElem?_getD,List.getElem?_map,e]
 rfl
theorem rs_m (hn:gs.Nodup) (hf:Few gs) (d:Dg) (mt:List Nat) (lp:Nat) {h:Nat} (hh:h < 4 * d.n) (hg:h / 4 ∉ gs):(rsD d gs mt lp).m (shf gs h) = shf gs (mt.getD h 0) := by
 unfold rsD Dg.m shrM
 rw [List.getD_eq_getElem?_getD,shf_idx hf h,four_get _ (Nat.mod_lt _ (by omega)),left_get hn (by omega) hg]
 simp only [Option.map_some,Option.getD_some]
 rw [show 4 * (h / 4) + h % 4 = h by omega]
def stay (d:Dg) (gs:List Nat) (h:Nat):Prop := h < 4 * d.n ∧ h / 4 ∉ gs
def gone (d:Dg) (gs:List Nat) (h:Nat):Prop := h < 4 * d.n ∧ h / 4 ∈ gs
theorem shf_lt (hn:gs.Nodup) (hf:Few gs) {d:Dg} (mt:List Nat) (lp:Nat) {h:Nat} (hh:stay d gs h):shf gs h < 4 * (rsD d gs mt lp).n := by
 rw [rs_n,shf_idx hf]
 have:=idx_lt hn (n := d.n) (c := h / 4) (by have := hh.1; omega) hh.2
 omega
theorem shf_inj (hn:gs.Nodup) (hf:Few gs) {g h:Nat} (h1:g / 4 ∉ gs) (h2:h / 4 ∉ gs) (e:shf gs g = shf gs h):g = h := by
 rw [shf_idx hf,shf_idx hf] at e
 have:=idx_inj hn h1 h2 (by omega)
 omega
theorem shf_onto (hn:gs.Nodup) (hf:Few gs) {d:Dg} (mt:List Nat) (lp:Nat) {y:Nat} (hy:y < 4 * (rsD d gs mt lp).n):∃ h,stay d gs h ∧ shf gs h = y := by
 rw [rs_n] at hy
 obtain ⟨c,h1,h2,h3⟩:=idx_onto hn (n := d.n) (i := y / 4) (by omega)
 refine ⟨4 * c + y % 4,⟨by omega,by rw [show (4 * c + y % 4) / 4 = c by omega]; exact h2⟩,?_⟩
 rw [shf_idx hf,show (4 * c + y % 4) / 4 = c by omega,h3]
 omega
theorem shf_tn (hf:Few gs) (h k:Nat):tn (shf gs h) k = shf gs (tn h k) := by
 rw [shf_idx hf,shf_idx hf,tn_div]
 unfold tn
 omega
theorem shf_div (hf:Few gs) (h:Nat):shf gs h / 4 = idx gs (h / 4) := by rw [shf_idx hf]; omega
theorem rs_out (hn:gs.Nodup) (hf:Few gs) (d:Dg) (mt:List Nat) (lp:Nat) {h:Nat} (hh:stay d gs h):out (rsD d gs mt lp) (shf gs h) = out d h := by
 have e:=rs_s hn d mt lp (c := h / 4) (by have := hh.1; omega) hh.2
 have e2:shf gs h % 4 = h % 4:=by rw [shf_idx hf]; omega
 unfold out
 rw [shf_div hf,e,e2]
structure Rs (d:Dg) (gs mt:List Nat) (lp:Nat) (b:Nat → Nat):Prop where
 nd:gs.Nodup
 few:Few gs
 hm:Hm (4 * d.n) (dart d) rot b
 cl:∀ h,gone d gs h → b h / 4 ∈ gs
 at_:∀ h,stay d gs h → mt.getD h 0 = b h
 way:∀ h,stay d gs h → out d h ≠ out d (b h)
 lp:lp ≤ 64
variable {d:Dg} {mt:List Nat} {lp:Nat} {b:Nat → Nat}
theorem Rs.stay (R:Rs d gs mt lp b) {h:Nat} (hh:stay d gs h):stay d gs (b h) := by
 have hl:=R.hm.ab.maps h hh.1
 refine ⟨hl,fun e => hh.2 ?_⟩
 have:=R.cl (b h) ⟨hl,e⟩
 rwa [R.hm.inv h hh.1] at this
theorem Rs.m (R:Rs d gs mt lp b) {h:Nat} (hh:Pl.stay d gs h):(rsD d gs mt lp).m (shf gs h) = shf gs (b h) := by
 rw [rs_m R.nd R.few d mt lp hh.1 hh.2,R.at_ h hh]
theorem rot_stay {h:Nat} (hh:stay d gs h):stay d gs (rot h) := ⟨tn_lt hh.1,by show tn h 3 / 4 ∉ gs; rw [tn_div]; exact hh.2⟩
theorem tn_stay {h k:Nat} (hh:stay d gs h):stay d gs (tn h k) := ⟨tn_lt hh.1,by rw [tn_div]; exact hh.2⟩
theorem rot_gone {h:Nat} (hh:gone d gs h):gone d gs (rot h) := ⟨tn_lt hh.1,by show tn h 3 / 4 ∈ gs; rw [tn_div]; exact hh.2⟩
theorem Rs.wf (hd:Wf d) (R:Rs d gs mt lp b):Wf (rsD d gs mt lp) := by
 have hle:=left_le d.n gs
 refine wf_by (by rw [rs_n]; have := hd.few; omega) (by rw [rs_n]; exact shrM_len gs d.n mt) R.lp (fun c hc => ?_) (fun z hz => ?_)
 ·rw [rs_n] at hc
  obtain ⟨c,h1,h2,rfl⟩:=idx_onto R.nd hc
  rw [rs_s R.nd d mt lp h1 h2]
  exact hd.sign c h1
 ·obtain ⟨h,hs,rfl⟩:=shf_onto R.nd R.few mt lp hz
  have hb:=R.stay hs
  rw [R.m hs,R.m hb,R.hm.inv h hs.1,rs_out R.nd R.few d mt lp hs,rs_out R.nd R.few d mt lp hb]
  exact ⟨shf_lt R.nd R.few mt lp hb,rfl,R.way h hs⟩
theorem Rs.valid (hd:Wf d) (R:Rs d gs mt lp b) (hf:Flat (dart d) rot b):Valid (rsD d gs mt lp) := by
 refine Valid.iff.2 ⟨R.wf hd,?_⟩
 have h1:Hm (4 * d.n) (Pl.stay d gs) rot b:=⟨⟨fun _ h => h.1,fun _ h => rot_stay h,fun x y hx hy e => R.hm.rb.inj x y hx.1 hy.1 e⟩,⟨fun _ h => h.1,fun _ h => R.stay h,fun x y hx hy e => R.hm.ab.inj x y hx.1 hy.1 e⟩,fun x hx => R.hm.inv x hx.1⟩
 have h2:Hm (4 * d.n) (gone d gs) rot b:=⟨⟨fun _ h => h.1,fun _ h => rot_gone h,fun x y hx hy e => R.hm.rb.inj x y hx.1 hy.1 e⟩,⟨fun _ h => h.1,fun x h => ⟨R.hm.ab.maps x h.1,R.cl x h⟩,fun x y hx hy e => R.hm.ab.inj x y hx.1 hy.1 e⟩,fun x hx => R.hm.inv x hx.1⟩
 have fs:Flat (Pl.stay d gs) rot b:=Flat.sub h1 h2 (fun x hx hy => hx.2 hy.2) (fun x => ⟨fun h => h.elim (·.1) (·.1),fun h => (Classical.em (x / 4 ∈ gs)).elim (fun e => .inr ⟨h,e⟩) (fun e => .inl ⟨h,e⟩)⟩) hf
 exact Gen.map (S := Pl.stay d gs) (t := shf gs) (fun x hx => rot_stay hx) (fun x hx => R.stay hx) (fun x hx => shf_tn R.few x 3) (fun x hx => R.m hx) (fun x y hx hy e => shf_inj R.nd R.few hx.2 hy.2 e) (fun x hx => shf_lt R.nd R.few mt lp hx) (fun y hy => shf_onto R.nd R.few mt lp hy) fs
end Go.Proofs.YtghdiolnonejaaaGreatDoor.Pl
end
section
namespace Go.Proofs.YtghdiolnonejaaaGreatDoor.Pl
theorem out_opp {d:Dg} (hd:Wf d) {h:Nat} (hh:h < 4 * d.n):out d (tn h 2) = !out d h := by
 have s:=hd.sign (h / 4) (by omega)
 unfold out
 rw [tn_div,tn_mod]
 generalize d.s (h / 4) = s at *
 have ha:h % 4 = 0 ∨ h % 4 = 1 ∨ h % 4 = 2 ∨ h % 4 = 3:=by omega
 rcases ha with a | a | a | a <;> rw [a] <;> rcases s with rfl | rfl <;> rfl
structure Tr (d:Dg) (h0 h1 h2:Nat):Prop where
 l0:h0 < 4 * d.n
 e0:nx d h0 = h1
 e1:nx d h1 = h2
 e2:nx d h2 = h0
 c01:h0 / 4 ≠ h1 / 4
 c12:h1 / 4 ≠ h2 / 4
 c02:h0 / 4 ≠ h2 / 4
def tu (h0 h1 h2 x:Nat):Nat := tau h0 h1 h2 (tn h0 1) (tn h1 1) (tn h2 1) (tn h0 2) (tn h1 2) (tn h2 2) (tn h0 3) (tn h1 3) (tn h2 3) x
theorem Tr.tri {d:Dg} (hd:Wf d) {h0 h1 h2:Nat} (t:Tr d h0 h1 h2):Tri (dart d) rot d.m (tu h0 h1 h2) h0 h1 h2 (tn h0 1) (tn h1 1) (tn h2 1) (tn h0 2) (tn h1 2) (tn h2 2) (tn h0 3) (tn h1 3) (tn h2 3) := tri_of hd t.l0 t.e0 t.e1 t.e2 t.c01 t.c12 t.c02
theorem Tr.out {d:Dg} (hd:Wf d) {h0 h1 h2:Nat} (t:Tr d h0 h1 h2) {x:Nat} (hx:x < 4 * d.n):Pl.out d (tu h0 h1 h2 x) = Pl.out d x := by
 have T:=t.tri hd
 have l1:h1 < 4 * d.n:=T.mem h1 (by simp)
 have l2:h2 < 4 * d.n:=T.mem h2 (by simp)
 -- a half-edge and the one across the crossing of its mate
 have key:∀ {h h':Nat},h < 4 * d.n → d.m h = tn h' 1 → h' < 4 * d.n → Pl.out d (tn h 2) = Pl.out d (tn h' 1) ∧ Pl.out d (tn h' 3) = Pl.out d h:=by
  intro h h' hh e hh'
  have w:=hd.way h hh
  rw [e] at w
  have o1:=out_opp hd hh
  have o2:=out_opp hd (show tn h' 1 < 4 * d.n from tn_lt hh')
  rw [tn_tn] at o2
  constructor
  ·rw [o1]; cases q:Pl.out d h <;> cases q':Pl.out d (tn h' 1) <;> rw [q,q'] at w <;> first | rfl | exact absurd rfl w
  ·rw [o2]; cases q:Pl.out d h <;> cases q':Pl.out d (tn h' 1) <;> rw [q,q'] at w <;> first | rfl | exact absurd rfl w
 obtain ⟨a0,b0⟩:=key t.l0 T.ah0 l1
 obtain ⟨a1,b1⟩:=key l1 T.ah1 l2
 obtain ⟨a2,b2⟩:=key l2 T.ah2 t.l0
 by_cases hm:x ∈ [h0,h1,h2,tn h0 1,tn h1 1,tn h2 1,tn h0 2,tn h1 2,tn h2 2,tn h0 3,tn h1 3,tn h2 3]
 ·simp only [List.mem_cons,List.not_mem_nil,or_false] at hm
  rcases hm with e | e | e | e | e | e | e | e | e | e | e | e <;> rw [e]
  ·rw [T.th0,b0]
  ·rw [T.th1,b1]
  ·rw [T.th2,b2]
  ·rw [T.tp0,a2]
  ·rw [T.tp1,a0]
  ·rw [T.tp2,a1]
  ·rw [T.tu0,a0]
  ·rw [T.tu1,a1]
  ·rw [T.tu2,a2]
  ·rw [T.tv0,b2]
  ·rw [T.tv1,b0]
  ·rw [T.tv2,b1]
 ·rw [T.tx x hm]
theorem Tr.valid {d d':Dg} (hd:Valid d) {h0 h1 h2:Nat} (t:Tr d h0 h1 h2) (sg:d'.sg = d.sg) (lp:d'.lp = d.lp) (len:d'.mt.length = 4 * d.n) (hm:∀ x,x < 4 * d.n → d'.m x = cj (tu h0 h1 h2) d.m x):Valid d' := by
 have hv:=Valid.iff.1 hd
 have T:=t.tri hv.1
 have hn:d'.n = d.n:=by unfold Dg.n; rw [sg]
 have hs:∀ c,d'.s c = d.s c:=fun c => by unfold Dg.s; rw [sg]
 have ho:∀ x,Pl.out d' x = Pl.out d x:=fun x => out_old (hs _)
 have hj:=hv.1.hm.cj (t := tu h0 h1 h2) T.tS (fun x _ => T.tt x)
 have tl:∀ x,x < 4 * d.n → tu h0 h1 h2 x < 4 * d.n:=fun x hx => T.tS x hx
 refine Valid.iff.2 ⟨wf_by (by rw [hn]; exact hv.1.few) (by rw [hn]; exact len) (by rw [lp]; exact hv.1.lp) (fun c hc => by rw [hs]; exact hv.1.sign c (by rw [← hn]; exact hc)) (fun z hz => ?_),?_⟩
 ·rw [hn] at hz ⊢
  have hz2:cj (tu h0 h1 h2) d.m z < 4 * d.n:=hj.ab.maps z hz
  rw [hm z hz,hm _ hz2,ho,ho]
  refine ⟨hz2,hj.inv z hz,?_⟩
  unfold cj
  have h1:=tl z hz
  rw [t.out hv.1 (hv.1.lt _ h1),← t.out hv.1 hz]
  exact hv.1.way _ h1
 ·have hg:=T.gen hv.1.hm hv.2
  have e:dart d' = dart d:=by funext x; unfold dart; rw [hn]
  rw [e]
  exact Gen.congr (hj.congr (fun _ _ => rfl) (fun _ _ => rfl) |> fun _ => (⟨hv.1.hm.rb,hj.ab,hj.inv⟩:Hm (4 * d.n) (dart d) rot (cj (tu h0 h1 h2) d.m))) (fun _ _ => rfl) (fun x hx => (hm x hx).symm) hg
end Go.Proofs.YtghdiolnonejaaaGreatDoor.Pl
end
section
namespace Go.Proofs.YtghdiolnonejaaaGreatDoor.Pl
variable {d:Dg}
theorem rot_rot (h:Nat):rot (rot h) = tn h 2 := by unfold rot; rw [tn_tn]; unfold tn; omega
theorem st_bij (hd:Wf d):Bij (4 * d.n) (dart d) (st d) :=
 ⟨fun _ h => h,fun x hx => tn_lt (hd.lt x hx),fun x y hx hy e => hd.bij.inj x y hx hy (tn_inj e)⟩
theorem out_st (hd:Wf d) {h:Nat} (hh:h < 4 * d.n):out d (st d h) = out d h := by
 unfold st
 rw [out_opp hd (hd.lt h hh),out_way hd hh,Bool.not_not]
theorem out_it (hd:Wf d) {h:Nat} (hh:h < 4 * d.n):∀ k,out d (it (st d) k h) = out d h
 | 0 => rfl
 | k + 1 => by
   show out d (st d (it (st d) k h)) = _
   rw [out_st hd ((st_bij hd).it k h hh),out_it hd hh k]
theorem least_back {N:Nat} {S:Nat → Prop} {f:Nat → Nat} (h:Bij N S f) {x:Nat} (hx:S x):∃ p,0 < p ∧ it f p x = x ∧ ∀ j,0 < j → j < p → it f j x ≠ x := by
 obtain ⟨p,p0,_,e⟩:=h.back hx
 obtain ⟨q,⟨q0,hq⟩,hmin⟩:=least_of (p := fun k => 0 < k ∧ it f k x = x) p ⟨p0,e⟩
 exact ⟨q,q0,hq,fun j j0 jq e2 => by have := hmin j ⟨j0,e2⟩; omega⟩
theorem no_opp (hd:Valid d) {o:Nat} (ho:o < 4 * d.n):d.m o ≠ tn o 2 := by
 intro he
 have hv:=Valid.iff.1 hd
 have hw:=hv.1
 have hm:=hw.hm
 have ho2:tn o 2 < 4 * d.n:=tn_lt ho
 have hne:o ≠ tn o 2:=fun e => hw.ne o ho (by rw [he]; exact e.symm)
 -- the half-edge q of the other strand that comes in,p that goes out
 obtain ⟨p,q,hpq,hqp,hcase,hop,hoq⟩:∃ p q,q = tn p 2 ∧ p = tn q 2 ∧ (q = tn o 1 ∨ q = tn o 3) ∧ out d p = true ∧ out d q = false := by
  have h1:out d (tn (tn o 1) 2) = !out d (tn o 1):=out_opp hw (tn_lt ho)
  rw [tn_tn] at h1
  cases e:out d (tn o 1) with
  | true => exact ⟨tn o 1,tn o 3,by rw [tn_tn],by rw [tn_tn]; unfold tn; omega,.inr rfl,e,by rw [h1,e]; rfl⟩
  | false => exact ⟨tn o 3,tn o 1,by rw [tn_tn]; unfold tn; omega,by rw [tn_tn],.inl rfl,by rw [h1,e]; rfl,e⟩
 have hq:q < 4 * d.n:=by rcases hcase with rfl | rfl <;> exact tn_lt ho
 have hp:p < 4 * d.n:=by rw [hqp]; exact tn_lt hq
 have qo:q ≠ o:=by rcases hcase with rfl | rfl <;> (unfold tn; omega)
 have qo2:q ≠ tn o 2:=by rcases hcase with rfl | rfl <;> (unfold tn; omega)
 have po:p ≠ o:=by rw [hqp]; rcases hcase with rfl | rfl <;> (unfold tn; omega)
 have po2:p ≠ tn o 2:=by rw [hqp]; rcases hcase with rfl | rfl <;> (unfold tn; omega)
 obtain ⟨y,hy⟩:∃ y,y = d.m q := ⟨_,rfl⟩
 have hyl:y < 4 * d.n:=by rw [hy]; exact hw.lt q hq
 have hyq:d.m y = q:=by rw [hy,hw.inv q hq]
 have yo:y ≠ o:=fun e => by rw [e,he] at hyq; exact qo2 hyq.symm
 have hmo2:d.m (tn o 2) = o:=by rw [← he,hw.inv o ho]
 have yo2:y ≠ tn o 2:=fun e => by rw [e,hmo2] at hyq; exact qo hyq.symm
 have qy:q ≠ y:=fun e => hw.ne q hq (by rw [← hy]; exact e.symm)
 -- without the edge o
 obtain ⟨c1,c2,c3⟩:=Hm.cut hm ho (hw.ne o ho)
 rw [he] at c1 c2 c3
 obtain ⟨a0,ha0⟩:∃ a0,a0 = tr d.m o (tn o 2) := ⟨_,rfl⟩
 rw [← ha0] at c1 c2 c3
 have a0e:tr a0 o (tn o 2) = d.m:=by rw [ha0,tr_tr]
 obtain ⟨f0,k0⟩:=Flat.del c1 ho ho2 hne c2 c3 (by rw [a0e]; exact hv.2)
 have a0q:a0 q = y:=by rw [ha0,tr_ne qo qo2,hy]
 have a0y:a0 y = q:=by rw [ha0,tr_ne yo yo2,hyq]
 -- and without the edge q
 obtain ⟨d1,d2,d3⟩:=Hm.cut c1 hq (by rw [a0q]; exact Ne.symm qy)
 rw [a0q] at d1 d2 d3
 obtain ⟨a1,ha1⟩:∃ a1,a1 = tr a0 q y := ⟨_,rfl⟩
 rw [← ha1] at d1 d2 d3
 have a1e:tr a1 q y = a0:=by rw [ha1,tr_tr]
 obtain ⟨f1,k1⟩:=Flat.del d1 hq hyl qy d2 d3 (by rw [a1e]; exact f0)
 have a1z:∀ z,z ≠ o → z ≠ tn o 2 → z ≠ q → z ≠ y → a1 z = d.m z:=fun z z1 z2 z3 z4 => by rw [ha1,tr_ne z3 z4,ha0,tr_ne z1 z2]
 have rr:∀ z,Con rot a1 z (tn z 2):=fun z => by rw [← rot_rot]; exact (Con.refl.left).left
 -- the strand of p comes back along q's edge
 have hsb:=st_bij hw
 have fo:st d o = o:=by unfold st; rw [he,tn_tn]; exact tn_four o
 have fo2:st d (tn o 2) = tn o 2:=by unfold st; rw [hmo2]
 obtain ⟨k,kp,ke,kl⟩:=least_back hsb (x := p) hp
 have run:∀ j,j < k → Con rot a1 p (it (st d) j p):=by
  intro j
  induction j with
  | zero => intro _; exact .refl
  | succ j ih =>
    intro hj
    have h1:=ih (by omega)
    have hz:=hsb.it j p hp
    obtain ⟨z,ez⟩:∃ z,z = it (st d) j p := ⟨_,rfl⟩
    show Con rot a1 p (st d (it (st d) j p))
    rw [← ez] at h1 hz ⊢
    have hfix:∀ w,dart d w → st d w = w → z ≠ w → True:=fun _ _ _ _ => trivial
    have zo:z ≠ o:=fun e => by
     have e2:it (st d) j p = it (st d) j o:=by
      rw [← ez,e]
      have:∀ i,it (st d) i o = o:=fun i => by
       induction i with
       | zero => rfl
       | succ i ih => show st d (it (st d) i o) = o; rw [ih,fo]
      exact (this j).symm
     exact po (hsb.it_inj j p o hp ho e2)
    have zo2:z ≠ tn o 2:=fun e => by
     have e2:it (st d) j p = it (st d) j (tn o 2):=by
      rw [← ez,e]
      have:∀ i,it (st d) i (tn o 2) = tn o 2:=fun i => by
       induction i with
       | zero => rfl
       | succ i ih => show st d (it (st d) i (tn o 2)) = tn o 2; rw [ih,fo2]
      exact (this j).symm
     exact po2 (hsb.it_inj j p _ hp ho2 e2)
    have zq:z ≠ q:=fun e => by
     have:=out_it hw hp j
     rw [← ez,e,hop,hoq] at this
     exact absurd this (by decide)
    have zy:z ≠ y:=fun e => by
     apply kl (j + 1) (by omega) hj
     show st d (it (st d) j p) = p
     rw [← ez,e]
     unfold st
     rw [hyq,← hqp]
    have e3:a1 z = d.m z:=a1z z zo zo2 zq zy
    have h2:Con rot a1 p (d.m z):=by rw [← e3]; exact h1.right
    exact h2.trans (rr (d.m z))
 have hlast:it (st d) (k - 1) p = y:=by
  have e:st d (it (st d) (k - 1) p) = p:=by
   have:it (st d) (k - 1 + 1) p = p:=by rw [show k - 1 + 1 = k by omega]; exact ke
   exact this
  have hz:=hsb.it (k - 1) p hp
  have e2:st d y = p:=by unfold st; rw [hyq,← hqp]
  exact hsb.inj _ _ hz hyl (e.trans e2.symm)
 have cpy:Con rot a1 p y:=by have := run (k - 1) (by omega); rwa [hlast] at this
 have cqy:Con rot a1 q y:=by
  have:=rr q
  rw [← hqp] at this
  exact this.trans cpy
 have hn:¬ Orb (phi rot a0) q y:=by
  rw [← a1e,phi_tr]
  exact d1.pb.part hq hyl qy (k1 cqy)
 have coo:Con rot a0 o (tn o 2):=by rw [← rot_rot]; exact (Con.refl.left).left
 have ooo:=k0 coo
 have py:phi rot a0 y = rot q:=by unfold phi; rw [a0y]
 have po':phi rot a0 o = rot o:=by unfold phi; rw [c2]
 have po2':phi rot a0 (tn o 2) = rot (tn o 2):=by unfold phi; rw [c3]
 have sym:=fun {x y} (hx:dart d x) (e:Orb (phi rot a0) x y) => c1.pb.symm hx e
 rcases hcase with e | e
 ·-- q = tn o 1: o2 goes to q,y goes to o
  have s1:Orb (phi rot a0) (tn o 2) q:=by
   have:=Orb.step (phi rot a0) (tn o 2)
   rw [po2',show rot (tn o 2) = q by rw [e]; unfold rot; rw [tn_tn]; unfold tn; omega] at this
   exact this
  have s2:Orb (phi rot a0) y o:=by
   have:=Orb.step (phi rot a0) y
   rw [py,show rot q = o by rw [e]; unfold rot; rw [tn_tn]; exact tn_four o] at this
   exact this
  exact hn (sym hyl (s2.trans (ooo.trans s1)))
 ·have s1 : Orb (phi rot a0) o q := by
   have:=Orb.step (phi rot a0) o
   rw [po',show rot o = q by rw [e]; rfl] at this
   exact this
  have s2:Orb (phi rot a0) y (tn o 2):=by
   have:=Orb.step (phi rot a0) y
   rw [py,show rot q = tn o 2 by rw [e]; unfold rot; rw [tn_tn]; unfold tn; omega] at this
   exact this
  exact hn (sym hyl (s2.trans ((sym ho ooo).trans s1)))
end Go.Proofs.YtghdiolnonejaaaGreatDoor.Pl
end
section
namespace Go.Proofs.YtghdiolnonejaaaGreatDoor.Pl
variable {d:Dg}
theorem tn_ne {h j k:Nat} (e:j % 4 ≠ k % 4):tn h j ≠ tn h k := by unfold tn; omega
theorem dg_m {d:Dg} (hd:Wf d) {h:Nat} (hh:h < 4 * d.n):d.mt.getD h 0 = d.m h := by
 unfold Dg.m
 have:=hd.len
 rw [List.getD_eq_getElem?_getD,List.getD_eq_getElem?_getD,List.getElem?_eq_getElem (by omega)]
 rfl
theorem kink_four (hd:Valid d) {o:Nat} (ho:o < 4 * d.n) (hk:d.m o / 4 = o / 4):d.m o = tn o 1 ∨ d.m o = tn o 3 := by
 have h1:=no_opp hd ho
 have h2:=(Valid.iff.1 hd).1.ne o ho
 unfold tn at h1 ⊢
 omega
theorem kink_byp (hd:Valid d) {o:Nat} (ho:o < 4 * d.n) (hk:d.m o / 4 = o / 4) (hn:d.m (tn o 2) ≠ tn (d.m o) 2) :
 Hm (4 * d.n) (dart d) rot (byp d.m (tn (d.m o) 2) (tn o 2)) ∧ Flat (dart d) rot (byp d.m (tn (d.m o) 2) (tn o 2)) := by
 have hv:=Valid.iff.1 hd
 have hw:=hv.1
 have hi:=hw.lt o ho
 have hA:tn o 2 < 4 * d.n:=tn_lt ho
 have hB:tn (d.m o) 2 < 4 * d.n:=tn_lt hi
 have hBA:tn (d.m o) 2 ≠ tn o 2:=fun e => hw.ne o ho (tn_inj e)
 have hmBA:d.m (tn (d.m o) 2) ≠ tn o 2:=fun e => hn (by rw [← e,hw.inv _ hB])
 obtain ⟨c0,c1,c2,c3,c4,c5,c6,c7⟩:=cut2_hm hw.hm hB hA hBA (hw.ne _ hB) (hw.ne _ hA) hmBA
 refine byp_flat hw.hm hB hA hBA (hw.ne _ hB) (hw.ne _ hA) hmBA ?_ hv.2
 rcases kink_four hd ho hk with e | e
 ·-- B's next is A
  have s1:=Orb.step (phi rot (cut2 d.m (tn (d.m o) 2) (tn o 2))) (tn (d.m o) 2)
  rw [show phi rot (cut2 d.m (tn (d.m o) 2) (tn o 2)) (tn (d.m o) 2) = tn o 2 by
   unfold phi; rw [c1,e]; unfold rot; rw [tn_tn,tn_tn]; unfold tn; omega] at s1
  exact s1
 ·have s1:=Orb.step (phi rot (cut2 d.m (tn (d.m o) 2) (tn o 2))) (tn (d.m o) 2)
  rw [show phi rot (cut2 d.m (tn (d.m o) 2) (tn o 2)) (tn (d.m o) 2) = o by
   unfold phi; rw [c1,e]; unfold rot; rw [tn_tn,tn_tn]; unfold tn; omega] at s1
  have n1:o ≠ tn (d.m o) 2:=by rw [e,tn_tn]; unfold tn; omega
  have n2:o ≠ tn o 2:=by unfold tn; omega
  have n3:o ≠ d.m (tn (d.m o) 2):=fun e2 => by
   have:d.m o = tn (d.m o) 2:=by have h := hw.inv _ hB; rw [← e2] at h; exact h
   unfold tn at this; omega
  have n4:o ≠ d.m (tn o 2):=fun e2 => by
   have:d.m o = tn o 2:=by have h := hw.inv _ hA; rw [← e2] at h; exact h
   exact no_opp hd ho this
  have s2:=Orb.step (phi rot (cut2 d.m (tn (d.m o) 2) (tn o 2))) o
  rw [show phi rot (cut2 d.m (tn (d.m o) 2) (tn o 2)) o = tn o 2 by
   unfold phi; rw [cut2_at _ _ n1 n2 n3 n4,e]; unfold rot; rw [tn_tn]; unfold tn; omega] at s2
  exact s1.trans s2
theorem kink_rs (hd:Valid d) {o:Nat} (ho:o < 4 * d.n) (hk:d.m o / 4 = o / 4) (hn:d.m (tn o 2) ≠ tn (d.m o) 2) {mt:List Nat} {lp:Nat} (hl:lp ≤ 64)
 (hmt:∀ h,h < 4 * d.n → mt.getD h 0 = if h = d.m (tn o 2) then d.m (tn (d.m o) 2) else if h = d.m (tn (d.m o) 2) then d.m (tn o 2) else d.m h) :
 Rs d [o / 4] mt lp (byp d.m (tn (d.m o) 2) (tn o 2)) := by
 have hw:=(Valid.iff.1 hd).1
 have hi:=hw.lt o ho
 have hA:tn o 2 < 4 * d.n:=tn_lt ho
 have hB:tn (d.m o) 2 < 4 * d.n:=tn_lt hi
 have hBA:tn (d.m o) 2 ≠ tn o 2:=fun e => hw.ne o ho (tn_inj e)
 have hmBA:d.m (tn (d.m o) 2) ≠ tn o 2:=fun e => hn (by rw [← e,hw.inv _ hB])
 obtain ⟨b1,b2,b3,b4,b5⟩:=byp_at hw.hm hB hA hBA (hw.ne _ hB) (hw.ne _ hA) hmBA
 have q1:tn o 2 / 4 = o / 4:=tn_div o 2
 have q2:tn (d.m o) 2 / 4 = o / 4:=by rw [tn_div,hk]
 have four:=kink_four hd ho hk
 have inv:=hw.inv o ho
 -- the mates of A and B lie elsewhere
 have uA:d.m (tn o 2) / 4 ≠ o / 4:=fun e => by
  have h1:d.m (tn o 2) = o ∨ d.m (tn o 2) = d.m o ∨ d.m (tn o 2) = tn o 2 ∨ d.m (tn o 2) = tn (d.m o) 2:=by rcases four with h | h <;> rw [h] <;> unfold tn at * <;> omega
  rcases h1 with h | h | h | h
  ·have:tn o 2 = d.m o:=by have h2 := hw.inv _ hA; rw [h] at h2; exact h2.symm
   exact no_opp hd ho this.symm
  ·have:=hw.bij.inj _ _ hA ho h; unfold tn at this; omega
  ·exact hw.ne _ hA h
  ·exact hn h
 have uB:d.m (tn (d.m o) 2) / 4 ≠ o / 4:=fun e => by
  have h1:d.m (tn (d.m o) 2) = o ∨ d.m (tn (d.m o) 2) = d.m o ∨ d.m (tn (d.m o) 2) = tn o 2 ∨ d.m (tn (d.m o) 2) = tn (d.m o) 2:=by rcases four with h | h <;> rw [h] at e ⊢ <;> unfold tn at * <;> omega
  rcases h1 with h | h | h | h
  ·have:tn (d.m o) 2 = d.m o:=by have h2 := hw.inv _ hB; rw [h] at h2; exact h2.symm
   unfold tn at this; omega
  ·have:=hw.bij.inj _ _ hB ho h
   exact no_opp hd hi (by rw [inv]; exact this.symm)
  ·exact hmBA h
  ·exact hw.ne _ hB h
 refine ⟨by simp,few_one _,(kink_byp hd ho hk hn).1,fun h hg => ?_,fun h hs => ?_,fun h hs => ?_,hl⟩
 ·have hc:h / 4 = o / 4:=by simpa using hg.2
  have h1:h = o ∨ h = d.m o ∨ h = tn o 2 ∨ h = tn (d.m o) 2:=by rcases four with h | h <;> rw [h] <;> unfold tn at * <;> omega
  have t1:o ≠ tn (d.m o) 2:=by rcases four with h | h <;> rw [h,tn_tn] <;> (unfold tn; omega)
  have t2:o ≠ tn o 2:=by unfold tn; omega
  have t3:d.m o ≠ tn (d.m o) 2:=by unfold tn; omega
  have t4:d.m o ≠ tn o 2:=no_opp hd ho
  rcases h1 with rfl | rfl | rfl | rfl
  ·rw [b5 h t1 t2 (fun e => uB (by rw [← e])) (fun e => uA (by rw [← e]))]; simpa using hk
  ·rw [b5 _ t3 t4 (fun e => uB (by rw [← e,hk])) (fun e => uA (by rw [← e,hk])),inv]; simp
  ·rw [b2]; simpa using q1
  ·rw [b1]; simpa using q2
 ·have hc:h / 4 ≠ o / 4:=by simpa using hs.2
  rw [hmt h hs.1]
  by_cases e1:h = d.m (tn o 2)
  ·rw [if_pos e1,e1,b4]
  ·rw [if_neg e1]
   by_cases e2:h = d.m (tn (d.m o) 2)
   ·rw [if_pos e2,e2,b3]
   ·rw [if_neg e2,b5 h (fun e => hc (by rw [e,q2])) (fun e => hc (by rw [e,q1])) e2 e1]
 ·have hc:h / 4 ≠ o / 4:=by simpa using hs.2
  have oA:out d (d.m (tn o 2)) = out d o:=by rw [out_way hw hA,out_opp hw ho,Bool.not_not]
  have oB:out d (d.m (tn (d.m o) 2)) = !out d o:=by rw [out_way hw hB,out_opp hw hi,out_way hw ho,Bool.not_not]
  by_cases e1:h = d.m (tn o 2)
  ·rw [e1,b4,oA,oB]; cases out d o <;> decide
  ·by_cases e2:h = d.m (tn (d.m o) 2)
   ·rw [e2,b3,oA,oB]; cases out d o <;> decide
   ·rw [b5 h (fun e => hc (by rw [e,q2])) (fun e => hc (by rw [e,q1])) e2 e1]
    exact hw.way h hs.1
theorem kink_rs0 (hd:Valid d) {o:Nat} (ho:o < 4 * d.n) (hk:d.m o / 4 = o / 4) (hn:d.m (tn o 2) = tn (d.m o) 2) {lp:Nat} (hl:lp ≤ 64):Rs d [o / 4] d.mt lp d.m := by
 have hw:=(Valid.iff.1 hd).1
 have hi:=hw.lt o ho
 have hA:tn o 2 < 4 * d.n:=tn_lt ho
 have four:=kink_four hd ho hk
 refine ⟨by simp,few_one _,hw.hm,fun h hg => ?_,fun h hs => dg_m hw hs.1,fun h hs => hw.way h hs.1,hl⟩
 have hc:h / 4 = o / 4:=by simpa using hg.2
 have h1:h = o ∨ h = d.m o ∨ h = tn o 2 ∨ h = tn (d.m o) 2:=by rcases four with h | h <;> rw [h] <;> unfold tn at * <;> omega
 rcases h1 with rfl | rfl | rfl | rfl
 ·simpa using hk
 ·rw [hw.inv o ho]; simp
 ·rw [hn,tn_div,hk]; simp
 ·rw [← hn,hw.inv _ hA,tn_div]; simp
theorem kink_valid (hd:Valid d) {o:Nat} (ho:o < 4 * d.n) (hk:d.m o / 4 = o / 4) (hn:d.m (tn o 2) ≠ tn (d.m o) 2) {mt:List Nat} {lp:Nat} (hl:lp ≤ 64)
 (hmt:∀ h,h < 4 * d.n → mt.getD h 0 = if h = d.m (tn o 2) then d.m (tn (d.m o) 2) else if h = d.m (tn (d.m o) 2) then d.m (tn o 2) else d.m h):Valid (rsD d [o / 4] mt lp) :=
 (kink_rs hd ho hk hn hl hmt).valid (Valid.iff.1 hd).1 (kink_byp hd ho hk hn).2
theorem kink_valid0 (hd:Valid d) {o:Nat} (ho:o < 4 * d.n) (hk:d.m o / 4 = o / 4) (hn:d.m (tn o 2) = tn (d.m o) 2) {lp:Nat} (hl:lp ≤ 64):Valid (rsD d [o / 4] d.mt lp) :=
 (kink_rs0 hd ho hk hn hl).valid (Valid.iff.1 hd).1 (Valid.iff.1 hd).2
end Go.Proofs.YtghdiolnonejaaaGreatDoor.Pl
end
section
namespace Go.Proofs.YtghdiolnonejaaaGreatDoor.Pl
variable {d:Dg}
def Wy (d:Dg) (b:Nat → Nat):Prop := ∀ z,z < 4 * d.n → b z ≠ z → out d (b z) = !out d z
theorem wy_m (hd:Wf d):Wy d d.m := fun z hz _ => out_way hd hz
theorem byp_wy {b:Nat → Nat} (h:Hm (4 * d.n) (dart d) rot b) (hw:Wy d b) {u v:Nat} (hu:u < 4 * d.n) (hv:v < 4 * d.n) (huv:u ≠ v) (nu:b u ≠ u) (nv:b v ≠ v) (nuv:b u ≠ v) (ho:out d v = !out d u):Wy d (byp b u v) := by
 obtain ⟨b1,b2,b3,b4,b5⟩:=byp_at h hu hv huv nu nv nuv
 intro z hz hne
 by_cases z1:z = u
 ·subst z1; exact absurd b1 hne
 ·by_cases z2:z = v
  ·subst z2; exact absurd b2 hne
  ·by_cases z3:z = b u
   ·rw [z3,b3,hw u hu nu,hw v hv nv,ho]
   ·by_cases z4:z = b v
    ·rw [z4,b4,hw u hu nu,hw v hv nv,ho,Bool.not_not]
    ·rw [b5 z z1 z2 z3 z4] at hne ⊢
     exact hw z hz hne
structure Lens (d:Dg) (h u:Nat):Prop where
 hh:h < 4 * d.n
 m0:d.m h = u
 m1:d.m (tn h 1) = tn u 3
 ne:h / 4 ≠ u / 4
def cls (b:Nat → Nat) (u v:Nat):Nat → Nat := if b u = v then b else byp b u v
section
variable {h u:Nat}
theorem Lens.hu (hd:Wf d) (L:Lens d h u):u < 4 * d.n := by rw [← L.m0]; exact hd.lt h L.hh
theorem Lens.m2 (hd:Wf d) (L:Lens d h u):d.m u = h := by rw [← L.m0]; exact hd.inv h L.hh
theorem Lens.m3 (hd:Wf d) (L:Lens d h u):d.m (tn u 3) = tn h 1 := by rw [← L.m1]; exact hd.inv _ (tn_lt L.hh)
def lA (d:Dg) (h u:Nat):Nat → Nat := cls d.m (tn h 2) (tn u 2)
def lB (d:Dg) (h u:Nat):Nat → Nat := cls (lA d h u) (tn h 3) (tn u 1)
theorem ap {x y:Nat} (e:x / 4 ≠ y / 4):x ≠ y := fun h => e (by rw [h])
theorem pm {j k h u:Nat} (e:h / 4 ≠ u / 4):tn h j ≠ tn u k := ap (by rw [tn_div,tn_div]; exact e)
theorem pm0 {j h u:Nat} (e:h / 4 ≠ u / 4):tn h j ≠ u := ap (by rw [tn_div]; exact e)
theorem pm1 {k h u:Nat} (e:h / 4 ≠ u / 4):h ≠ tn u k := ap (by rw [tn_div]; exact e)
theorem pmz {h k:Nat} (e:k % 4 ≠ 0):h ≠ tn h k := by unfold tn; omega
structure LA (d:Dg) (h u:Nat) (b:Nat → Nat):Prop where
 hm:Hm (4 * d.n) (dart d) rot b
 fl:Flat (dart d) rot b
 wy:Wy d b
 e0:b h = u
 e1:b (tn h 1) = tn u 3
 e2:b u = h
 e3:b (tn u 3) = tn h 1
 c:(b (tn h 2) = tn u 2 ∧ b (tn u 2) = tn h 2) ∨ (b (tn h 2) = tn h 2 ∧ b (tn u 2) = tn u 2)
 nf:∀ z,z < 4 * d.n → z ≠ tn h 2 → z ≠ tn u 2 → b z ≠ z
theorem Lens.la (hd:Valid d) (L:Lens d h u):LA d h u (lA d h u) := by
 have hv:=Valid.iff.1 hd
 have hw:=hv.1
 have hu:=L.hu hw
 have hh:=L.hh
 have E:=L.ne
 have hA:tn h 2 < 4 * d.n:=tn_lt hh
 have hB:tn u 2 < 4 * d.n:=tn_lt hu
 have m0:=L.m0
 have m1:=L.m1
 have m2:=L.m2 hw
 have m3:=L.m3 hw
 unfold lA cls
 by_cases hc:d.m (tn h 2) = tn u 2
 ·rw [if_pos hc]
  exact ⟨hw.hm,hv.2,wy_m hw,m0,m1,m2,m3,.inl ⟨hc,by rw [← hc,hw.inv _ hA]⟩,fun z hz _ _ => hw.ne z hz⟩
 ·rw [if_neg hc]
  have hAB:tn h 2 ≠ tn u 2:=pm E
  have nA:=hw.ne _ hA
  have nB:=hw.ne _ hB
  obtain ⟨b1,b2,b3,b4,b5⟩:=byp_at hw.hm hA hB hAB nA nB hc
  obtain ⟨c0,c1,c2,c3,c4,c5,c6,c7⟩:=cut2_hm hw.hm hA hB hAB nA nB hc
  -- the four inner half-edges are none of the outer ones' mates
  have ni:∀ z,z < 4 * d.n → d.m z ≠ tn h 2 → d.m z ≠ tn u 2 → z ≠ d.m (tn h 2) ∧ z ≠ d.m (tn u 2):=fun z hz n1 n2 =>
   ⟨fun e => n1 (by rw [e,hw.inv _ hA]),fun e => n2 (by rw [e,hw.inv _ hB])⟩
  have n0:=ni h hh (by rw [m0]; exact Ne.symm (pm0 E)) (by rw [m0]; exact pmz (by omega))
  have n1:=ni (tn h 1) (tn_lt hh) (by rw [m1]; exact Ne.symm (pm E)) (by rw [m1]; exact tn_ne (by omega))
  have n2:=ni u hu (by rw [m2]; exact pmz (by omega)) (by rw [m2]; exact pm1 E)
  have n3:=ni (tn u 3) (tn_lt hu) (by rw [m3]; exact tn_ne (by omega)) (by rw [m3]; exact pm E)
  have ho:Orb (phi rot (cut2 d.m (tn h 2) (tn u 2))) (tn h 2) (tn u 2):=by
   refine ⟨2,?_⟩
   show phi rot _ (phi rot _ (tn h 2)) = tn u 2
   have s1:phi rot (cut2 d.m (tn h 2) (tn u 2)) (tn h 2) = tn h 1:=by unfold phi; rw [c1]; unfold rot; rw [tn_tn]; unfold tn; omega
   have s2:phi rot (cut2 d.m (tn h 2) (tn u 2)) (tn h 1) = tn u 2:=by
    unfold phi; rw [cut2_at _ _ (tn_ne (by omega)) (pm E) n1.1 n1.2,m1]; unfold rot; rw [tn_tn]; unfold tn; omega
   rw [s1,s2]
  obtain ⟨g1,g2⟩:=byp_flat hw.hm hA hB hAB nA nB hc ho hv.2
  refine ⟨g1,g2,byp_wy hw.hm (wy_m hw) hA hB hAB nA nB hc ?_,?_,?_,?_,?_,.inr ⟨b1,b2⟩,?_⟩
  ·rw [out_opp hw hu,out_opp hw hh,← m0,out_way hw hh]
  ·rw [b5 h (pmz (by omega)) (pm1 E) n0.1 n0.2,m0]
  ·rw [b5 _ (tn_ne (by omega)) (pm E) n1.1 n1.2,m1]
  ·rw [b5 u (Ne.symm (pm0 E)) (pmz (by omega)) n2.1 n2.2,m2]
  ·rw [b5 _ (Ne.symm (pm E)) (tn_ne (by omega)) n3.1 n3.2,m3]
  ·intro z hz z1 z2
   by_cases z3:z = d.m (tn h 2)
   ·rw [z3,b3]; exact Ne.symm c6
   ·by_cases z4:z = d.m (tn u 2)
    ·rw [z4,b4]; exact c6
    ·rw [b5 z z1 z2 z3 z4]; exact hw.ne z hz
structure LB2 (d:Dg) (h u:Nat) (b:Nat → Nat):Prop where
 hm:Hm (4 * d.n) (dart d) rot b
 fl:Flat (dart d) rot b
 wy:Wy d b
 e0:b h = u
 e1:b (tn h 1) = tn u 3
 e2:b u = h
 e3:b (tn u 3) = tn h 1
 c:(b (tn h 2) = tn u 2 ∧ b (tn u 2) = tn h 2) ∨ (b (tn h 2) = tn h 2 ∧ b (tn u 2) = tn u 2)
 c':(b (tn h 3) = tn u 1 ∧ b (tn u 1) = tn h 3) ∨ (b (tn h 3) = tn h 3 ∧ b (tn u 1) = tn u 1)
 nf:∀ z,z < 4 * d.n → z ≠ tn h 2 → z ≠ tn u 2 → z ≠ tn h 3 → z ≠ tn u 1 → b z ≠ z
theorem LA.lb (hw:Wf d) (L:Lens d h u) {a:Nat → Nat} (A:LA d h u a):LB2 d h u (cls a (tn h 3) (tn u 1)) := by
 have hu:=L.hu hw
 have hh:=L.hh
 have E:=L.ne
 have h3:tn h 3 < 4 * d.n:=tn_lt hh
 have u1:tn u 1 < 4 * d.n:=tn_lt hu
 have n3:=A.nf _ h3 (tn_ne (by omega)) (pm E)
 have n1:=A.nf _ u1 (Ne.symm (pm E)) (tn_ne (by omega))
 unfold cls
 by_cases hc:a (tn h 3) = tn u 1
 ·rw [if_pos hc]
  exact ⟨A.hm,A.fl,A.wy,A.e0,A.e1,A.e2,A.e3,A.c,.inl ⟨hc,by rw [← hc,A.hm.inv _ h3]⟩,fun z hz z1 z2 _ _ => A.nf z hz z1 z2⟩
 ·rw [if_neg hc]
  have hAB:tn h 3 ≠ tn u 1:=pm E
  obtain ⟨b1,b2,b3,b4,b5⟩:=byp_at A.hm h3 u1 hAB n3 n1 hc
  obtain ⟨c0,c1,c2,c3,c4,c5,c6,c7⟩:=cut2_hm A.hm h3 u1 hAB n3 n1 hc
  have ni:∀ z,z < 4 * d.n → a z ≠ tn h 3 → a z ≠ tn u 1 → z ≠ a (tn h 3) ∧ z ≠ a (tn u 1):=fun z hz n1 n2 =>
   ⟨fun e => n1 (by rw [e,A.hm.inv _ h3]),fun e => n2 (by rw [e,A.hm.inv _ u1])⟩
  have k0:=ni h hh (by rw [A.e0]; exact Ne.symm (pm0 E)) (by rw [A.e0]; exact pmz (by omega))
  have k1:=ni (tn h 1) (tn_lt hh) (by rw [A.e1]; exact Ne.symm (pm E)) (by rw [A.e1]; exact tn_ne (by omega))
  have k2:=ni u hu (by rw [A.e2]; exact pmz (by omega)) (by rw [A.e2]; exact pm1 E)
  have k3:=ni (tn u 3) (tn_lt hu) (by rw [A.e3]; exact tn_ne (by omega)) (by rw [A.e3]; exact pm E)
  have k4:tn h 2 ≠ a (tn h 3) ∧ tn h 2 ≠ a (tn u 1):=ni (tn h 2) (tn_lt hh) (by rcases A.c with ⟨e,_⟩ | ⟨e,_⟩ <;> rw [e]; exact Ne.symm (pm E); exact tn_ne (by omega)) (by rcases A.c with ⟨e,_⟩ | ⟨e,_⟩ <;> rw [e]; exact tn_ne (by omega); exact pm E)
  have k5:tn u 2 ≠ a (tn h 3) ∧ tn u 2 ≠ a (tn u 1):=ni (tn u 2) (tn_lt hu) (by rcases A.c with ⟨_,e⟩ | ⟨_,e⟩ <;> rw [e]; exact tn_ne (by omega); exact Ne.symm (pm E)) (by rcases A.c with ⟨_,e⟩ | ⟨_,e⟩ <;> rw [e]; exact pm E; exact tn_ne (by omega))
  have r2:cut2 a (tn h 3) (tn u 1) (tn h 2) = a (tn h 2):=cut2_at _ _ (tn_ne (by omega)) (pm E) k4.1 k4.2
  have r5:cut2 a (tn h 3) (tn u 1) (tn u 2) = a (tn u 2):=cut2_at _ _ (Ne.symm (pm E)) (tn_ne (by omega)) k5.1 k5.2
  have r1:cut2 a (tn h 3) (tn u 1) (tn h 1) = tn u 3:=by rw [cut2_at _ _ (tn_ne (by omega)) (pm E) k1.1 k1.2,A.e1]
  have s1:phi rot (cut2 a (tn h 3) (tn u 1)) (tn h 3) = tn h 2:=by unfold phi; rw [c1]; unfold rot; rw [tn_tn]; unfold tn; omega
  have ho:Orb (phi rot (cut2 a (tn h 3) (tn u 1))) (tn h 3) (tn u 1):=by
   rcases A.c with ⟨e,_⟩ | ⟨e,e'⟩
   ·have s2:phi rot (cut2 a (tn h 3) (tn u 1)) (tn h 2) = tn u 1:=by unfold phi; rw [r2,e]; unfold rot; rw [tn_tn]; unfold tn; omega
    refine ⟨2,?_⟩
    show phi rot _ (phi rot _ (tn h 3)) = tn u 1
    rw [s1,s2]
   ·have s2:phi rot (cut2 a (tn h 3) (tn u 1)) (tn h 2) = tn h 1:=by unfold phi; rw [r2,e]; unfold rot; rw [tn_tn]; unfold tn; omega
    have s3:phi rot (cut2 a (tn h 3) (tn u 1)) (tn h 1) = tn u 2:=by unfold phi; rw [r1]; unfold rot; rw [tn_tn]; unfold tn; omega
    have s4:phi rot (cut2 a (tn h 3) (tn u 1)) (tn u 2) = tn u 1:=by unfold phi; rw [r5,e']; unfold rot; rw [tn_tn]; unfold tn; omega
    refine ⟨4,?_⟩
    show phi rot _ (phi rot _ (phi rot _ (phi rot _ (tn h 3)))) = tn u 1
    rw [s1,s2,s3,s4]
  obtain ⟨g1,g2⟩:=byp_flat A.hm h3 u1 hAB n3 n1 hc ho A.fl
  have w1:out d (tn u 1) = !out d (tn h 3):=by
   have a1:out d (tn (tn h 1) 2) = !out d (tn h 1):=out_opp hw (tn_lt hh)
   have a2:out d (tn (tn u 3) 2) = !out d (tn u 3):=out_opp hw (tn_lt hu)
   rw [tn_tn] at a1 a2
   rw [show tn u (3 + 2) = tn u 1 by unfold tn; omega] at a2
   have a3:=out_way hw (tn_lt (k := 1) hh)
   rw [L.m1] at a3
   rw [a2,a3,← a1]
  refine ⟨g1,g2,byp_wy A.hm A.wy h3 u1 hAB n3 n1 hc w1,?_,?_,?_,?_,?_,.inr ⟨b1,b2⟩,?_⟩
  ·rw [b5 h (pmz (by omega)) (pm1 E) k0.1 k0.2,A.e0]
  ·rw [b5 _ (tn_ne (by omega)) (pm E) k1.1 k1.2,A.e1]
  ·rw [b5 u (Ne.symm (pm0 E)) (pmz (by omega)) k2.1 k2.2,A.e2]
  ·rw [b5 _ (Ne.symm (pm E)) (tn_ne (by omega)) k3.1 k3.2,A.e3]
  ·rw [b5 _ (tn_ne (by omega)) (pm E) k4.1 k4.2,b5 _ (Ne.symm (pm E)) (tn_ne (by omega)) k5.1 k5.2]; exact A.c
  ·intro z hz z1 z2 z5 z6
   by_cases z3:z = a (tn h 3)
   ·rw [z3,b3]; exact Ne.symm c6
   ·by_cases z4:z = a (tn u 1)
    ·rw [z4,b4]; exact c6
    ·rw [b5 z z5 z6 z3 z4]; exact A.nf z hz z1 z2
theorem Lens.lb (hd:Valid d) (L:Lens d h u):LB2 d h u (lB d h u) := (L.la hd).lb (Valid.iff.1 hd).1 L
theorem LB2.rs (hw:Wf d) (L:Lens d h u) {b:Nat → Nat} (B:LB2 d h u b) {x y:Nat} (hxy:x < y) (hx:(x = h / 4 ∧ y = u / 4) ∨ (x = u / 4 ∧ y = h / 4)) {mt:List Nat} {lp:Nat} (hl:lp ≤ 64)
 (hmt:∀ z,stay d [x,y] z → mt.getD z 0 = b z):Rs d [x,y] mt lp b := by
 have hin:∀ z,z / 4 ∈ [x,y] ↔ z / 4 = h / 4 ∨ z / 4 = u / 4:=fun z => by
  rw [List.mem_cons,List.mem_singleton]
  rcases hx with ⟨rfl,rfl⟩ | ⟨rfl,rfl⟩
  ·exact Iff.rfl
  ·exact Or.comm
 have s0:∀ k,tn h k / 4 = h / 4 ∨ tn h k / 4 = u / 4:=fun k => .inl (tn_div h k)
 have s1:∀ k,tn u k / 4 = h / 4 ∨ tn u k / 4 = u / 4:=fun k => .inr (tn_div u k)
 refine ⟨by simp; omega,few_two hxy,B.hm,fun z hz => ?_,hmt,fun z hz e => ?_,hl⟩
 ·rw [hin]
  rcases (hin z).1 hz.2 with hz2 | hz2
  ·have:z = h ∨ z = tn h 1 ∨ z = tn h 2 ∨ z = tn h 3:=by unfold tn; omega
   rcases this with rfl | rfl | rfl | rfl
   ·rw [B.e0]; exact .inr rfl
   ·rw [B.e1]; exact s1 _
   ·rcases B.c with ⟨e,_⟩ | ⟨e,_⟩ <;> rw [e]; exact s1 _; exact s0 _
   ·rcases B.c' with ⟨e,_⟩ | ⟨e,_⟩ <;> rw [e]; exact s1 _; exact s0 _
  ·have:z = u ∨ z = tn u 1 ∨ z = tn u 2 ∨ z = tn u 3:=by unfold tn; omega
   rcases this with rfl | rfl | rfl | rfl
   ·rw [B.e2]; exact .inl rfl
   ·rcases B.c' with ⟨_,e⟩ | ⟨_,e⟩ <;> rw [e]; exact s0 _; exact s1 _
   ·rcases B.c with ⟨_,e⟩ | ⟨_,e⟩ <;> rw [e]; exact s0 _; exact s1 _
   ·rw [B.e3]; exact s0 _
 ·have hno:¬ (z / 4 = h / 4 ∨ z / 4 = u / 4):=fun e => hz.2 ((hin z).2 e)
  have hq:∀ k,z ≠ tn h k ∧ z ≠ tn u k:=fun k => ⟨fun e => hno (by rw [e]; exact s0 k),fun e => hno (by rw [e]; exact s1 k)⟩
  have:=B.wy z hz.1 (B.nf z hz.1 (hq 2).1 (hq 2).2 (hq 3).1 (hq 1).2)
  rw [this] at e
  cases h:out d z <;> rw [h] at e <;> exact absurd e (by decide)
theorem Lens.valid (hd:Valid d) (L:Lens d h u) {x y:Nat} (hxy:x < y) (hx:(x = h / 4 ∧ y = u / 4) ∨ (x = u / 4 ∧ y = h / 4)) {mt:List Nat} {lp:Nat} (hl:lp ≤ 64)
 (hmt:∀ z,stay d [x,y] z → mt.getD z 0 = lB d h u z):Valid (rsD d [x,y] mt lp) :=
 ((L.lb hd).rs (Valid.iff.1 hd).1 L hxy hx hl hmt).valid (Valid.iff.1 hd).1 (L.lb hd).fl
end
end Go.Proofs.YtghdiolnonejaaaGreatDoor.Pl
end
section
namespace Go.Proofs.YtghdiolnonejaaaGreatDoor.Pl
def jl (l:List Nat) (a b:Nat):List Nat := (l.set a b).set b a
theorem jl_len (l:List Nat) (a b:Nat):(jl l a b).length = l.length := by unfold jl; simp
theorem jset_getD (l:List Nat) (a v z:Nat) (ha:a < l.length):(l.set a v).getD z 0 = if z = a then v else l.getD z 0 := by
 rw [List.getD_eq_getElem?_getD,List.getD_eq_getElem?_getD,List.getElem?_set]
 by_cases e:a = z
 ·subst e; simp [ha]
 ·rw [if_neg e,if_neg (Ne.symm e)]
theorem jl_at {l:List Nat} {a b:Nat} (ha:a < l.length) (hb:b < l.length) (z:Nat):(jl l a b).getD z 0 = if z = b then a else if z = a then b else l.getD z 0 := by
 unfold jl
 rw [jset_getD _ _ _ _ (by simpa using hb),jset_getD _ _ _ _ ha]
theorem tr_fix {a:Nat → Nat} {x y z:Nat} (hne:x ≠ y) (fx:a x = x) (fy:a y = y) (e:tr a x y z = z):a z = z ∧ z ≠ x ∧ z ≠ y := by
 by_cases h1:z = x
 ·subst h1; rw [tr_a,fy] at e; exact absurd e.symm hne
 ·by_cases h2:z = y
  ·subst h2; rw [tr_b,fx] at e; exact absurd e hne
  ·rw [tr_ne h1 h2] at e; exact ⟨e,h1,h2⟩
structure MS (M:Nat) (o:Nat → Bool) (l:List Nat) (a:Nat → Nat):Prop where
 hm:Hm (4 * M) (fun h => h < 4 * M) rot a
 fl:Flat (fun h => h < 4 * M) rot a
 wy:∀ z,z < 4 * M → a z ≠ z → o (a z) = !o z
 len:l.length = 4 * M
 at_:∀ z,z < 4 * M → a z ≠ z → l.getD z 0 = a z
section
variable {M:Nat} {o:Nat → Bool} {l:List Nat} {a:Nat → Nat}
theorem MS.join' (m:MS M o l a) {x y:Nat} (hx:x < 4 * M) (hy:y < 4 * M) (hne:x ≠ y) (fx:a x = x) (fy:a y = y) (ho:o y = !o x) (hf:Flat (fun h => h < 4 * M) rot (tr a x y)):MS M o (jl l x y) (tr a x y) := by
 refine ⟨m.hm.tr hx hy fx fy,hf,fun z hz e => ?_,by rw [jl_len,m.len],fun z hz e => ?_⟩
 ·by_cases h1:z = x
  ·subst h1; rw [tr_a,fy,ho]
  ·by_cases h2:z = y
   ·subst h2; rw [tr_b,fx,ho,Bool.not_not]
   ·rw [tr_ne h1 h2] at e ⊢; exact m.wy z hz e
 ·rw [jl_at (by rw [m.len]; exact hx) (by rw [m.len]; exact hy)]
  by_cases h2:z = y
  ·subst h2; rw [if_pos rfl,tr_b,fx]
  ·rw [if_neg h2]
   by_cases h1:z = x
   ·subst h1; rw [if_pos rfl,tr_a,fy]
   ·rw [if_neg h1,tr_ne h1 h2]; rw [tr_ne h1 h2] at e; exact m.at_ z hz e
theorem MS.join (m:MS M o l a) {x y:Nat} (hx:x < 4 * M) (hy:y < 4 * M) (hne:x ≠ y) (fx:a x = x) (fy:a y = y) (ho:o y = !o x) (hc:Orb (phi rot a) x y ∨ Orb (phi rot a) y x ∨ ¬ Con rot a x y):MS M o (jl l x y) (tr a x y) := by
 refine m.join' hx hy hne fx fy ho (Flat.add m.hm hx hy hne fx fy (fun e => ?_) m.fl)
 rcases hc with h | h | h
 ·exact h
 ·exact m.hm.pb.symm hy h
 ·exact absurd e h
theorem MS.two (m:MS M o l a) {x u v:Nat} (hx:x < 4 * M) (hu:u < 4 * M) (hv:v < 4 * M) (huv:u ≠ v) (nx:a x ≠ x) (fu:a u = u) (fv:a v = v) (ou:o u = !o x) (ov:o v = o x)
 (hf:Flat (fun h => h < 4 * M) rot (tr (tr (tr a x (a x)) x u) v (a x))):MS M o (jl (jl l x u) v (a x)) (tr (tr (tr a x (a x)) x u) v (a x)) := by
 obtain ⟨c1,c2,c3⟩:=Hm.cut m.hm hx nx
 have hy:a x < 4 * M:=m.hm.ab.maps x hx
 have xu:x ≠ u:=fun e => nx (by rw [e]; exact fu)
 have xv:x ≠ v:=fun e => nx (by rw [e]; exact fv)
 have yu:a x ≠ u:=fun e => by have := m.hm.inv x hx; rw [e,fu] at this; exact xu this.symm
 have yv:a x ≠ v:=fun e => by have := m.hm.inv x hx; rw [e,fv] at this; exact xv this.symm
 have fu1:tr a x (a x) u = u:=by rw [tr_ne (Ne.symm xu) (Ne.symm yu),fu]
 have fv1:tr a x (a x) v = v:=by rw [tr_ne (Ne.symm xv) (Ne.symm yv),fv]
 have h1:=c1.tr hx hu c2 fu1
 have fv2:tr (tr a x (a x)) x u v = v:=by rw [tr_ne (Ne.symm xv) (Ne.symm huv),fv1]
 have fy2:tr (tr a x (a x)) x u (a x) = a x:=by rw [tr_ne nx yu,c3]
 have oy:=m.wy x hx nx
 have e1:tr (tr (tr a x (a x)) x u) v (a x) x = u:=by rw [tr_ne xv (Ne.symm nx),tr_a,fu1]
 have e2:tr (tr (tr a x (a x)) x u) v (a x) u = x:=by rw [tr_ne huv (Ne.symm yu),tr_b,c2]
 have e3:tr (tr (tr a x (a x)) x u) v (a x) v = a x:=by rw [tr_a,fy2]
 have e4:tr (tr (tr a x (a x)) x u) v (a x) (a x) = v:=by rw [tr_b,fv2]
 have e5:∀ z,z ≠ x → z ≠ u → z ≠ v → z ≠ a x → tr (tr (tr a x (a x)) x u) v (a x) z = a z:=fun z z1 z2 z3 z4 => by rw [tr_ne z3 z4,tr_ne z1 z2,tr_ne z1 z4]
 refine ⟨h1.tr hv hy fv2 fy2,hf,fun z hz e => ?_,by rw [jl_len,jl_len,m.len],fun z hz e => ?_⟩
 ·by_cases z1:z = x
  ·rw [z1,e1,ou]
  ·by_cases z2:z = u
   ·rw [z2,e2,ou,Bool.not_not]
   ·by_cases z3:z = v
    ·rw [z3,e3,oy,ov]
    ·by_cases z4:z = a x
     ·rw [z4,e4,oy,ov,Bool.not_not]
     ·rw [e5 z z1 z2 z3 z4] at e ⊢; exact m.wy z hz e
 ·rw [jl_at (by rw [jl_len,m.len]; exact hv) (by rw [jl_len,m.len]; exact hy)]
  by_cases z4:z = a x
  ·rw [if_pos z4,z4,e4]
  ·rw [if_neg z4]
   by_cases z3:z = v
   ·rw [if_pos z3,z3,e3]
   ·rw [if_neg z3,jl_at (by rw [m.len]; exact hx) (by rw [m.len]; exact hu)]
    by_cases z2:z = u
    ·rw [if_pos z2,z2,e2]
    ·rw [if_neg z2]
     by_cases z1:z = x
     ·rw [if_pos z1,z1,e1]
     ·rw [if_neg z1,e5 z z1 z2 z3 z4]; rw [e5 z z1 z2 z3 z4] at e; exact m.at_ z hz e
theorem two_fix (m:MS M o l a) {x u v z:Nat} (hx:x < 4 * M) (hu:u < 4 * M) (hv:v < 4 * M) (huv:u ≠ v) (nx:a x ≠ x) (fu:a u = u) (fv:a v = v) (e:tr (tr (tr a x (a x)) x u) v (a x) z = z):a z = z ∧ z ≠ u ∧ z ≠ v := by
 have xu:x ≠ u:=fun e => nx (by rw [e]; exact fu)
 have xv:x ≠ v:=fun e => nx (by rw [e]; exact fv)
 have yu:a x ≠ u:=fun e => by have := m.hm.inv x hx; rw [e,fu] at this; exact xu this.symm
 have yv:a x ≠ v:=fun e => by have := m.hm.inv x hx; rw [e,fv] at this; exact xv this.symm
 obtain ⟨c1,c2,c3⟩:=Hm.cut m.hm hx nx
 have fu1:tr a x (a x) u = u:=by rw [tr_ne (Ne.symm xu) (Ne.symm yu),fu]
 have fv1:tr a x (a x) v = v:=by rw [tr_ne (Ne.symm xv) (Ne.symm yv),fv]
 have fv2:tr (tr a x (a x)) x u v = v:=by rw [tr_ne (Ne.symm xv) (Ne.symm huv),fv1]
 have fy2:tr (tr a x (a x)) x u (a x) = a x:=by rw [tr_ne nx yu,c3]
 obtain ⟨g1,g2,g3⟩:=tr_fix (Ne.symm yv) fv2 fy2 e
 obtain ⟨g4,g5,g6⟩:=tr_fix xu c2 fu1 g1
 rw [tr_ne g5 g3] at g4
 exact ⟨g4,g6,g2⟩
theorem MS.detour (m:MS M o l a) {x u v:Nat} (hx:x < 4 * M) (hu:u < 4 * M) (hv:v < 4 * M) (huv:u ≠ v) (nx:a x ≠ x) (fu:a u = u) (fv:a v = v) (ou:o u = !o x) (ov:o v = o x)
 (n1:¬ Con rot a x u) (ho:Orb (phi rot a) v u):MS M o (jl (jl l x u) v (a x)) (tr (tr (tr a x (a x)) x u) v (a x)) := by
 refine m.two hx hu hv huv nx fu fv ou ov ?_
 obtain ⟨c1,c2,c3⟩:=Hm.cut m.hm hx nx
 have hy:a x < 4 * M:=m.hm.ab.maps x hx
 have xu:x ≠ u:=fun e => nx (by rw [e]; exact fu)
 have xv:x ≠ v:=fun e => nx (by rw [e]; exact fv)
 have yu:a x ≠ u:=fun e => by have := m.hm.inv x hx; rw [e,fu] at this; exact xu this.symm
 have yv:a x ≠ v:=fun e => by have := m.hm.inv x hx; rw [e,fv] at this; exact xv this.symm
 have fu1:tr a x (a x) u = u:=by rw [tr_ne (Ne.symm xu) (Ne.symm yu),fu]
 have fv1:tr a x (a x) v = v:=by rw [tr_ne (Ne.symm xv) (Ne.symm yv),fv]
 -- what the cut map holds together,the whole one does
 have up:∀ {z w},z < 4 * M → Con rot (tr a x (a x)) z w → Con rot a z w:=by
  intro z w hz e
  refine con_sub c1 m.hm.ceqv (fun t _ => Con.refl.left) (fun t ht => ?_) hz e
  by_cases t1:t = x
  ·subst t1; rw [c2]; exact .refl
  ·by_cases t2:t = a x
   ·subst t2; rw [c3]; exact .refl
   ·rw [tr_ne t1 t2]; exact Con.refl.right
 have cxy:Con rot a x (a x):=Con.refl.right
 have k1:¬ Con rot (tr a x (a x)) x u:=fun e => n1 (up hx e)
 have k2:¬ Con rot (tr a x (a x)) (a x) u:=fun e => n1 (cxy.trans (up hy e))
 -- v's face does not come to x
 have ho2:Orb (phi rot (tr a x (a x))) v u:=by
  have cv:Con rot a v u:=orb_phi_con ho
  obtain ⟨k,hk⟩:=ho
  have run:∀ j,it (phi rot (tr a x (a x))) j v = it (phi rot a) j v:=by
   intro j
   induction j with
   | zero => rfl
   | succ j ih =>
     show phi rot (tr a x (a x)) (it (phi rot (tr a x (a x))) j v) = phi rot a (it (phi rot a) j v)
     rw [ih]
     have hz:=m.hm.pb.it j v hv
     have ov':Con rot a v (it (phi rot a) j v):=orb_phi_con ⟨j,rfl⟩
     have z1:it (phi rot a) j v ≠ x:=fun e => n1 (by rw [e] at ov'; exact (m.hm.con_symm hv ov').trans cv)
     have z2:it (phi rot a) j v ≠ a x:=fun e => n1 (by rw [e] at ov'; exact cxy.trans ((m.hm.con_symm hv ov').trans cv))
     show rot (tr a x (a x) (it (phi rot a) j v)) = rot (a (it (phi rot a) j v))
     rw [tr_ne z1 z2]
  exact ⟨k,by rw [run]; exact hk⟩
 have hg:Gen (fun h => h < 4 * M) rot (tr (tr a x (a x)) x (a x)) 0:=by rw [tr_tr]; exact m.fl
 exact Gen.detour c1 hx hy hu hv (Ne.symm nx) huv c2 c3 fu1 fv1 k1 k2 ho2 hg
theorem MS.push (m:MS M o l a) {y c e p:Nat} (hy:y < 4 * M) (hc:c < 4 * M) (he:e < 4 * M) (ce:c ≠ e) (ny:a y ≠ y) (fc:a c = c) (fe:a e = e) (oc:o c = !o y) (oe:o e = o y)
 (e1:phi rot a e = p) (e2:phi rot a p = c) (py:p ≠ y) (pc:p ≠ c) (pyy:p ≠ a y) (hn:Orb (phi rot a) c y ∨ ¬ Con rot a c y):MS M o (jl (jl l y c) e (a y)) (tr (tr (tr a y (a y)) y c) e (a y)) := by
 refine m.two hy hc he ce ny fc fe oc oe ?_
 obtain ⟨c1,c2,c3⟩:=Hm.cut m.hm hy ny
 have hy':a y < 4 * M:=m.hm.ab.maps y hy
 have yc:y ≠ c:=fun h => ny (by rw [h]; exact fc)
 have ye:y ≠ e:=fun h => ny (by rw [h]; exact fe)
 have yyc:a y ≠ c:=fun h => by have := m.hm.inv y hy; rw [h,fc] at this; exact yc this.symm
 have yye:a y ≠ e:=fun h => by have := m.hm.inv y hy; rw [h,fe] at this; exact ye this.symm
 refine Flat.push c1 (p := p) hy hy' hc he (Ne.symm ny) yc ye ce yyc yye c2 c3 (by rw [tr_ne (Ne.symm yc) (Ne.symm yyc),fc]) (by rw [tr_ne (Ne.symm ye) (Ne.symm yye),fe]) ?_ ?_ py pc ?_ ?_
 ·unfold phi; rw [tr_ne (Ne.symm ye) (Ne.symm yye)]; exact e1
 ·unfold phi; rw [tr_ne py pyy]; exact e2
 ·rw [tr_tr]; exact hn
 ·rw [tr_tr]; exact m.fl
end
theorem MS.valid {d':Dg} {a:Nat → Nat} (m:MS d'.n (out d') d'.mt a) (few:d'.n ≤ 64) (lp:d'.lp ≤ 64) (sign:∀ c,c < d'.n → d'.s c = 1 ∨ d'.s c = -1) (nf:∀ z,z < 4 * d'.n → a z ≠ z):Valid d' := by
 have e:∀ z,z < 4 * d'.n → d'.m z = a z:=fun z hz => by
  rw [← m.at_ z hz (nf z hz)]
  unfold Dg.m
  rw [List.getD_eq_getElem?_getD,List.getD_eq_getElem?_getD,List.getElem?_eq_getElem (by rw [m.len]; exact hz)]
  rfl
 refine Valid.iff.2 ⟨wf_by few m.len lp sign fun z hz => ?_,?_⟩
 ·have h2:=m.hm.ab.maps z hz
  rw [e z hz,e _ h2]
  refine ⟨h2,m.hm.inv z hz,?_⟩
  rw [m.wy z hz (nf z hz)]
  cases out d' z <;> decide
 ·exact Gen.congr m.hm (fun _ _ => rfl) (fun z hz => (e z hz).symm) m.fl
end Go.Proofs.YtghdiolnonejaaaGreatDoor.Pl
end
section
namespace Go.Proofs.YtghdiolnonejaaaGreatDoor.Pl
theorem jl_comm {l:List Nat} {a b c e:Nat} (ac:a ≠ c) (ae:a ≠ e) (bc:b ≠ c) (be:b ≠ e):jl (jl l a b) c e = jl (jl l c e) a b := by
 unfold jl
 rw [List.set_comm a e bc,List.set_comm b e ac,List.set_comm a c be,List.set_comm b c ae]
section
variable {M:Nat} {o:Nat → Bool} {l:List Nat} {a:Nat → Nat}
theorem two_at (m:MS M o l a) {x u v:Nat} (hx:x < 4 * M) (huv:u ≠ v) (nx:a x ≠ x) (fu:a u = u) (fv:a v = v) :
 tr (tr (tr a x (a x)) x u) v (a x) x = u ∧ tr (tr (tr a x (a x)) x u) v (a x) u = x ∧ tr (tr (tr a x (a x)) x u) v (a x) v = a x ∧ tr (tr (tr a x (a x)) x u) v (a x) (a x) = v ∧
 ∀ z,z ≠ x → z ≠ u → z ≠ v → z ≠ a x → tr (tr (tr a x (a x)) x u) v (a x) z = a z := by
 obtain ⟨c1,c2,c3⟩:=Hm.cut m.hm hx nx
 have xu:x ≠ u:=fun e => nx (by rw [e]; exact fu)
 have xv:x ≠ v:=fun e => nx (by rw [e]; exact fv)
 have yu:a x ≠ u:=fun e => by have := m.hm.inv x hx; rw [e,fu] at this; exact xu this.symm
 have yv:a x ≠ v:=fun e => by have := m.hm.inv x hx; rw [e,fv] at this; exact xv this.symm
 have fu1:tr a x (a x) u = u:=by rw [tr_ne (Ne.symm xu) (Ne.symm yu),fu]
 have fv1:tr a x (a x) v = v:=by rw [tr_ne (Ne.symm xv) (Ne.symm yv),fv]
 have fv2:tr (tr a x (a x)) x u v = v:=by rw [tr_ne (Ne.symm xv) (Ne.symm huv),fv1]
 have fy2:tr (tr a x (a x)) x u (a x) = a x:=by rw [tr_ne nx yu,c3]
 exact ⟨by rw [tr_ne xv (Ne.symm nx),tr_a,fu1],by rw [tr_ne huv (Ne.symm yu),tr_b,c2],by rw [tr_a,fy2],by rw [tr_b,fv2],fun z z1 z2 z3 z4 => by rw [tr_ne z3 z4,tr_ne z1 z2,tr_ne z1 z4]⟩
end
def pp (n f t:Nat):Nat := 4 * n + (t + f) % 4
theorem rot_pp (n f t:Nat):rot (pp n f t) = pp n f (t + 3) := by unfold rot tn pp; omega
theorem pp_mod (n f t:Nat):pp n f (t + 4) = pp n f t := by unfold pp; omega
theorem pp_bd (n f t:Nat):4 * n ≤ pp n f t ∧ pp n f t < 4 * n + 4 := by unfold pp; omega
theorem pp_ne {n f s t:Nat} (h:s % 4 ≠ t % 4):pp n f s ≠ pp n f t := by unfold pp; omega
theorem pp_nq {n f g s t:Nat}:pp n f s ≠ pp (n + 1) g t := by unfold pp; omega
theorem pp_cover {n f z:Nat} (h:4 * n ≤ z ∧ z < 4 * n + 4):z = pp n f 0 ∨ z = pp n f 1 ∨ z = pp n f 2 ∨ z = pp n f 3 := by unfold pp; omega
structure Pd (d d':Dg) (f g:Nat) (fx fy:Bool):Prop where
 few:d.n + 2 ≤ 64
 n:d'.n = d.n + 2
 lp:d'.lp ≤ 64
 old:∀ c,c < d.n → d'.s c = d.s c
 s0:d'.s d.n = 1 ∨ d'.s d.n = -1
 s1:d'.s (d.n + 1) = 1 ∨ d'.s (d.n + 1) = -1
 p0:out d' (pp d.n f 0) = !fy
 p1:out d' (pp d.n f 1) = fx
 p2:out d' (pp d.n f 2) = fy
 p3:out d' (pp d.n f 3) = !fx
 q0:out d' (pp (d.n + 1) g 0) = !fy
 q1:out d' (pp (d.n + 1) g 1) = !fx
 q2:out d' (pp (d.n + 1) g 2) = fy
 q3:out d' (pp (d.n + 1) g 3) = fx
section
variable {d d':Dg} {f g:Nat} {fx fy:Bool}
def pkL0 (d:Dg) (f g:Nat):List Nat := jl (jl (d.mt ++ List.replicate 8 0) (pp d.n f 1) (pp (d.n + 1) g 1)) (pp (d.n + 1) g 2) (pp d.n f 0)
def pkB (d:Dg) (f g:Nat):Nat → Nat := tr (tr (ex d.n d.m) (pp d.n f 1) (pp (d.n + 1) g 1)) (pp (d.n + 1) g 2) (pp d.n f 0)
theorem Pd.ext (hd:Valid d) (K:Pd d d' f g fx fy):MS (d.n + 2) (out d') (d.mt ++ List.replicate 8 0) (ex d.n d.m) := by
 have hv:=Valid.iff.1 hd
 have hw:=hv.1
 refine ⟨ext_hm (by omega) hw.hm,ext_gen (by omega) hw.hm hv.2,fun z hz e => ?_,by rw [List.length_append,hw.len]; simp; omega,fun z hz e => ?_⟩
 ·have hz2:z < 4 * d.n:=Nat.lt_of_not_le fun h => e (ex_new h)
  have hm:=hw.lt z hz2
  rw [ex_old hz2,out_old (d := d) (K.old _ (by omega)),out_old (d := d) (K.old _ (by omega)),out_way hw hz2]
 ·have hz2:z < 4 * d.n:=Nat.lt_of_not_le fun h => e (ex_new h)
  rw [ex_old hz2,← dg_m hw hz2,List.getD_eq_getElem?_getD,List.getD_eq_getElem?_getD,List.getElem?_append_left (by rw [hw.len]; exact hz2)]
structure Bs (d d':Dg) (f g:Nat) (b:Nat → Nat):Prop where
 ms:MS (d.n + 2) (out d') (pkL0 d f g) b
 old:∀ z,z < 4 * d.n → b z = d.m z
 b1:b (pp d.n f 1) = pp (d.n + 1) g 1
 b2:b (pp (d.n + 1) g 1) = pp d.n f 1
 b3:b (pp (d.n + 1) g 2) = pp d.n f 0
 b4:b (pp d.n f 0) = pp (d.n + 1) g 2
 f1:b (pp d.n f 2) = pp d.n f 2
 f2:b (pp d.n f 3) = pp d.n f 3
 f3:b (pp (d.n + 1) g 0) = pp (d.n + 1) g 0
 f4:b (pp (d.n + 1) g 3) = pp (d.n + 1) g 3
theorem Pd.base (hd:Valid d) (K:Pd d d' f g fx fy):Bs d d' f g (pkB d f g) := by
 have m0:=K.ext hd
 have P:∀ t,4 * d.n ≤ pp d.n f t ∧ pp d.n f t < 4 * d.n + 4:=pp_bd d.n f
 have Q:∀ t,4 * (d.n + 1) ≤ pp (d.n + 1) g t ∧ pp (d.n + 1) g t < 4 * (d.n + 1) + 4:=pp_bd (d.n + 1) g
 have fP:∀ t,ex d.n d.m (pp d.n f t) = pp d.n f t:=fun t => ex_new (P t).1
 have fQ:∀ t,ex d.n d.m (pp (d.n + 1) g t) = pp (d.n + 1) g t:=fun t => ex_new (by have := (Q t).1; omega)
 have pl:∀ t,pp d.n f t < 4 * (d.n + 2):=fun t => by have := (P t).2; omega
 have ql:∀ t,pp (d.n + 1) g t < 4 * (d.n + 2):=fun t => by have := (Q t).2; omega
 have m1:=m0.join (pl 1) (ql 1) pp_nq (fP 1) (fQ 1) (by rw [K.q1,K.p1]) (.inr (.inr fun e => by
  have:∀ w,Con rot (ex d.n d.m) (pp d.n f 1) w → w / 4 = d.n:=by
   intro w e
   induction e with
   | refl => have := P 1; omega
   | left _ ih => show tn _ 3 / 4 = d.n; rw [tn_div]; exact ih
   | right _ ih => rw [ex_new (by omega)]; exact ih
  have h1:=this _ e
  have:=Q 1
  omega))
 have g1:∀ z,z ≠ pp d.n f 1 → z ≠ pp (d.n + 1) g 1 → tr (ex d.n d.m) (pp d.n f 1) (pp (d.n + 1) g 1) z = ex d.n d.m z:=fun z z1 z2 => tr_ne z1 z2
 have m2:=m1.join (ql 2) (pl 0) (Ne.symm pp_nq) (by rw [g1 _ (Ne.symm pp_nq) (pp_ne (by omega)),fQ]) (by rw [g1 _ (pp_ne (by omega)) pp_nq,fP]) (by rw [K.q2,K.p0]) (.inl ⟨2,by
  show phi rot _ (phi rot _ (pp (d.n + 1) g 2)) = _
  have s1:phi rot (tr (ex d.n d.m) (pp d.n f 1) (pp (d.n + 1) g 1)) (pp (d.n + 1) g 2) = pp (d.n + 1) g 1:=by
   unfold phi; rw [g1 _ (Ne.symm pp_nq) (pp_ne (by omega)),fQ,rot_pp,show 2 + 3 = 1 + 4 from rfl,pp_mod]
  have s2:phi rot (tr (ex d.n d.m) (pp d.n f 1) (pp (d.n + 1) g 1)) (pp (d.n + 1) g 1) = pp d.n f 0:=by
   unfold phi; rw [tr_b,fP,rot_pp,show 1 + 3 = 0 + 4 from rfl,pp_mod]
  rw [s1,s2]⟩)
 have g2:∀ z,z ≠ pp (d.n + 1) g 2 → z ≠ pp d.n f 0 → z ≠ pp d.n f 1 → z ≠ pp (d.n + 1) g 1 → pkB d f g z = ex d.n d.m z:=fun z z1 z2 z3 z4 => by unfold pkB; rw [tr_ne z1 z2,tr_ne z3 z4]
 refine ⟨m2,fun z hz => ?_,?_,?_,?_,?_,?_,?_,?_,?_⟩
 ·have:=P 0; have := P 1; have := Q 1; have := Q 2
  rw [g2 z (by omega) (by omega) (by omega) (by omega),ex_old hz]
 ·unfold pkB; rw [tr_ne pp_nq (pp_ne (by omega)),tr_a,fQ]
 ·unfold pkB; rw [tr_ne (pp_ne (by omega)) (Ne.symm pp_nq),tr_b,fP]
 ·unfold pkB; rw [tr_a,tr_ne (pp_ne (by omega)) pp_nq,fP]
 ·unfold pkB; rw [tr_b,tr_ne (Ne.symm pp_nq) (pp_ne (by omega)),fQ]
 ·rw [g2 _ pp_nq (pp_ne (by omega)) (pp_ne (by omega)) pp_nq,fP]
 ·rw [g2 _ pp_nq (pp_ne (by omega)) (pp_ne (by omega)) pp_nq,fP]
 ·rw [g2 _ (pp_ne (by omega)) (Ne.symm pp_nq) (Ne.symm pp_nq) (pp_ne (by omega)),fQ]
 ·rw [g2 _ (pp_ne (by omega)) (Ne.symm pp_nq) (Ne.symm pp_nq) (pp_ne (by omega)),fQ]
theorem Bs.far {b:Nat → Nat} (hd:Valid d) (B:Bs d d' f g b) {x w:Nat} (hx:x < 4 * d.n) (hw:4 * d.n ≤ w):¬ Con rot b x w := fun e => by
 have:=con_old (n := d.n) (b := b) (fun z hz => by rw [B.old z hz]; exact (Valid.iff.1 hd).1.lt z hz) hx e
 omega
theorem Bs.fix {b:Nat → Nat} (hd:Valid d) (B:Bs d d' f g b) {z:Nat} (hz:z < 4 * (d.n + 2)) (e:b z = z):z = pp d.n f 2 ∨ z = pp d.n f 3 ∨ z = pp (d.n + 1) g 0 ∨ z = pp (d.n + 1) g 3 := by
 rcases Nat.lt_or_ge z (4 * d.n) with h | h
 ·rw [B.old z h] at e; exact absurd e ((Valid.iff.1 hd).1.ne z h)
 ·rcases Nat.lt_or_ge z (4 * d.n + 4) with h2 | h2
  ·rcases pp_cover (f := f) ⟨h,h2⟩ with rfl | rfl | rfl | rfl
   ·rw [B.b4] at e; exact absurd e (Ne.symm pp_nq)
   ·rw [B.b1] at e; exact absurd e (Ne.symm pp_nq)
   ·exact .inl rfl
   ·exact .inr (.inl rfl)
  ·rcases pp_cover (n := d.n + 1) (f := g) (z := z) ⟨by omega,by omega⟩ with rfl | rfl | rfl | rfl
   ·exact .inr (.inr (.inl rfl))
   ·rw [B.b2] at e; exact absurd e pp_nq
   ·rw [B.b3] at e; exact absurd e pp_nq
   ·exact .inr (.inr (.inr rfl))
variable {b:Nat → Nat}
theorem stp {r b:Nat → Nat} {x y z:Nat} (e:b x = y) (h:r y = z):phi r b x = z := by unfold phi; rw [e,h]
theorem Bs.pq (hd:Valid d) (B:Bs d d' f g b):(∀ t,pp d.n f t < 4 * (d.n + 2)) ∧ (∀ t,pp (d.n + 1) g t < 4 * (d.n + 2)) ∧ (∀ t z,z < 4 * d.n → pp d.n f t ≠ z) ∧ (∀ t z,z < 4 * d.n → pp (d.n + 1) g t ≠ z) :=
 ⟨fun t => by have := pp_bd d.n f t; omega,fun t => by have := pp_bd (d.n + 1) g t; omega,fun t z hz => by have := pp_bd d.n f t; omega,fun t z hz => by have := pp_bd (d.n + 1) g t; omega⟩
theorem rp (n f:Nat):rot (pp n f 0) = pp n f 3 ∧ rot (pp n f 1) = pp n f 0 ∧ rot (pp n f 2) = pp n f 1 ∧ rot (pp n f 3) = pp n f 2 :=
 ⟨rot_pp n f 0,by rw [rot_pp,show 1 + 3 = 0 + 4 from rfl,pp_mod],by rw [rot_pp,show 2 + 3 = 1 + 4 from rfl,pp_mod],by rw [rot_pp,show 3 + 3 = 2 + 4 from rfl,pp_mod]⟩
theorem Pd.fin (hd:Valid d) (K:Pd d d' f g fx fy) {l:List Nat} (m:MS (d.n + 2) (out d') l b) (hl:d'.mt = l) (nf:∀ z,z < 4 * (d.n + 2) → b z ≠ z):Valid d' := by
 have hw:=(Valid.iff.1 hd).1
 refine MS.valid (a := b) (by rw [K.n,hl]; exact m) (by rw [K.n]; exact K.few) K.lp (fun c hc => ?_) (by rw [K.n]; exact nf)
 rw [K.n] at hc
 rcases Nat.lt_or_ge c d.n with h | h
 ·rw [K.old c h]; exact hw.sign c h
 ·rcases Nat.lt_or_ge d.n c with h2 | h2
  ·rw [show c = d.n + 1 by omega]; exact K.s1
  ·rw [show c = d.n by omega]; exact K.s0
theorem Pd.self0 (hd:Valid d) (K:Pd d d' f g fx fx) (hl:d'.mt = jl (jl (pkL0 d f g) (pp (d.n + 1) g 3) (pp (d.n + 1) g 0)) (pp d.n f 2) (pp d.n f 3)):Valid d' := by
 have B:=K.base hd
 obtain ⟨pl,ql,po,qo⟩:=B.pq hd
 obtain ⟨r0,r1,r2,r3⟩:=rp d.n f
 obtain ⟨t0,t1,t2,t3⟩:=rp (d.n + 1) g
 have m1:=B.ms.join (ql 3) (ql 0) (pp_ne (by omega)) B.f4 B.f3 (by rw [K.q0,K.q3]) (.inr (.inl ⟨1,stp B.f3 t0⟩))
 have e1:∀ z,z ≠ pp (d.n + 1) g 3 → z ≠ pp (d.n + 1) g 0 → tr (pkB d f g) (pp (d.n + 1) g 3) (pp (d.n + 1) g 0) z = pkB d f g z:=fun z z1 z2 => tr_ne z1 z2
 have f2:=(e1 _ pp_nq pp_nq).trans B.f1
 have f3:=(e1 _ pp_nq pp_nq).trans B.f2
 have m2:=m1.join (pl 2) (pl 3) (pp_ne (by omega)) f2 f3 (by rw [K.p2,K.p3]) (.inr (.inl ⟨1,stp f3 r3⟩))
 refine K.fin hd m2 hl fun z hz e => ?_
 obtain ⟨g1,g2,g3⟩:=tr_fix (pp_ne (by omega)) f2 f3 e
 obtain ⟨g4,g5,g6⟩:=tr_fix (pp_ne (by omega)) B.f4 B.f3 g1
 rcases B.fix hd hz g4 with h | h | h | h
 ·exact g2 h
 ·exact g3 h
 ·exact g6 h
 ·exact g5 h
theorem Pd.self1 (hd:Valid d) (K:Pd d d' f g fx fx) {x:Nat} (hx:x < 4 * d.n) (ho:out d x = fx) (hl:d'.mt = jl (jl (jl (pkL0 d f g) x (pp d.n f 3)) (pp (d.n + 1) g 3) (pp (d.n + 1) g 0)) (pp d.n f 2) (d.m x)):Valid d' := by
 have hw:=(Valid.iff.1 hd).1
 have B:=K.base hd
 obtain ⟨pl,ql,po,qo⟩:=B.pq hd
 obtain ⟨r0,r1,r2,r3⟩:=rp d.n f
 obtain ⟨t0,t1,t2,t3⟩:=rp (d.n + 1) g
 have hmx:=hw.lt x hx
 have m1:=B.ms.join (ql 3) (ql 0) (pp_ne (by omega)) B.f4 B.f3 (by rw [K.q0,K.q3]) (.inr (.inl ⟨1,stp B.f3 t0⟩))
 obtain ⟨b1,hb1⟩:∃ b1,b1 = tr (pkB d f g) (pp (d.n + 1) g 3) (pp (d.n + 1) g 0) := ⟨_,rfl⟩
 rw [← hb1] at m1
 have e1:∀ z,z ≠ pp (d.n + 1) g 3 → z ≠ pp (d.n + 1) g 0 → b1 z = pkB d f g z:=fun z z1 z2 => by rw [hb1]; exact tr_ne z1 z2
 have f2:b1 (pp d.n f 2) = pp d.n f 2:=(e1 _ pp_nq pp_nq).trans B.f1
 have f3:b1 (pp d.n f 3) = pp d.n f 3:=(e1 _ pp_nq pp_nq).trans B.f2
 have v0:b1 (pp (d.n + 1) g 0) = pp (d.n + 1) g 3:=by rw [hb1,tr_b,B.f4]
 have v1:b1 (pp d.n f 1) = pp (d.n + 1) g 1:=(e1 _ pp_nq pp_nq).trans B.b1
 have v2:b1 (pp (d.n + 1) g 2) = pp d.n f 0:=(e1 _ (pp_ne (by omega)) (pp_ne (by omega))).trans B.b3
 have old:∀ z,z < 4 * d.n → b1 z = d.m z:=fun z hz => (e1 z (Ne.symm (qo 3 z hz)) (Ne.symm (qo 0 z hz))).trans (B.old z hz)
 have hx2:x < 4 * (d.n + 2):=by omega
 have wx:out d' x = fx:=by rw [out_old (d := d) (K.old _ (by omega)),ho]
 have nx:b1 x ≠ x:=by rw [old x hx]; exact hw.ne x hx
 have m2:=m1.detour hx2 (pl 3) (pl 2) (pp_ne (by omega)) nx f3 f2 (by rw [K.p3,wx]) (by rw [K.p2,wx])
  (fun e => by have := con_old (n := d.n) (b := b1) (fun z hz => by rw [old z hz]; exact hw.lt z hz) hx e; exact po 3 _ this rfl)
  ⟨4, by
    show phi rot b1 (phi rot b1 (phi rot b1 (phi rot b1 (pp d.n f 2)))) = _
    rw [stp f2 r2,stp v1 t1,stp v0 t3,stp v2 r0]⟩
 refine K.fin hd m2 ?_ fun z hz e => ?_
 ·rw [hl,old x hx,jl_comm (a := x) (b := pp d.n f 3) (Ne.symm (qo 3 x hx)) (Ne.symm (qo 0 x hx)) pp_nq pp_nq]
 ·obtain ⟨g1,g2,g3⟩:=two_fix m1 hx2 (pl 3) (pl 2) (pp_ne (by omega)) nx f3 f2 e
  rw [hb1] at g1
  obtain ⟨g4,g5,g6⟩:=tr_fix (pp_ne (by omega)) B.f4 B.f3 g1
  rcases B.fix hd hz g4 with h | h | h | h
  ·exact g3 h
  ·exact g2 h
  ·exact g6 h
  ·exact g5 h
theorem Pd.self2 (hd:Valid d) (K:Pd d d' f g fx fx) {x:Nat} (hx:x < 4 * d.n) (ho:out d x = fx) (hl:d'.mt = jl (jl (jl (pkL0 d f g) x (pp (d.n + 1) g 0)) (pp d.n f 2) (pp d.n f 3)) (pp (d.n + 1) g 3) (d.m x)):Valid d' := by
 have hw:=(Valid.iff.1 hd).1
 have B:=K.base hd
 obtain ⟨pl,ql,po,qo⟩:=B.pq hd
 obtain ⟨r0,r1,r2,r3⟩:=rp d.n f
 obtain ⟨t0,t1,t2,t3⟩:=rp (d.n + 1) g
 have hmx:=hw.lt x hx
 have m1:=B.ms.join (pl 2) (pl 3) (pp_ne (by omega)) B.f1 B.f2 (by rw [K.p2,K.p3]) (.inr (.inl ⟨1,stp B.f2 r3⟩))
 obtain ⟨b1,hb1⟩:∃ b1,b1 = tr (pkB d f g) (pp d.n f 2) (pp d.n f 3) := ⟨_,rfl⟩
 rw [← hb1] at m1
 have e1:∀ z,z ≠ pp d.n f 2 → z ≠ pp d.n f 3 → b1 z = pkB d f g z:=fun z z1 z2 => by rw [hb1]; exact tr_ne z1 z2
 have f0:b1 (pp (d.n + 1) g 0) = pp (d.n + 1) g 0:=(e1 _ (Ne.symm pp_nq) (Ne.symm pp_nq)).trans B.f3
 have f3:b1 (pp (d.n + 1) g 3) = pp (d.n + 1) g 3:=(e1 _ (Ne.symm pp_nq) (Ne.symm pp_nq)).trans B.f4
 have v1:b1 (pp d.n f 1) = pp (d.n + 1) g 1:=(e1 _ (pp_ne (by omega)) (pp_ne (by omega))).trans B.b1
 have v2:b1 (pp (d.n + 1) g 2) = pp d.n f 0:=(e1 _ (Ne.symm pp_nq) (Ne.symm pp_nq)).trans B.b3
 have v3:b1 (pp d.n f 3) = pp d.n f 2:=by rw [hb1,tr_b,B.f1]
 have old:∀ z,z < 4 * d.n → b1 z = d.m z:=fun z hz => (e1 z (Ne.symm (po 2 z hz)) (Ne.symm (po 3 z hz))).trans (B.old z hz)
 have hx2:x < 4 * (d.n + 2):=by omega
 have wx:out d' x = fx:=by rw [out_old (d := d) (K.old _ (by omega)),ho]
 have nx:b1 x ≠ x:=by rw [old x hx]; exact hw.ne x hx
 have m2:=m1.detour hx2 (ql 0) (ql 3) (pp_ne (by omega)) nx f0 f3 (by rw [K.q0,wx]) (by rw [K.q3,wx])
  (fun e => by have := con_old (n := d.n) (b := b1) (fun z hz => by rw [old z hz]; exact hw.lt z hz) hx e; exact qo 0 _ this rfl)
  ⟨4, by
    show phi rot b1 (phi rot b1 (phi rot b1 (phi rot b1 (pp (d.n + 1) g 3)))) = _
    rw [stp f3 t3,stp v2 r0,stp v3 r2,stp v1 t1]⟩
 refine K.fin hd m2 ?_ fun z hz e => ?_
 ·rw [hl,old x hx,jl_comm (a := x) (b := pp (d.n + 1) g 0) (Ne.symm (po 2 x hx)) (Ne.symm (po 3 x hx)) (Ne.symm pp_nq) (Ne.symm pp_nq)]
 ·obtain ⟨g1,g2,g3⟩:=two_fix m1 hx2 (ql 0) (ql 3) (pp_ne (by omega)) nx f0 f3 e
  rw [hb1] at g1
  obtain ⟨g4,g5,g6⟩:=tr_fix (pp_ne (by omega)) B.f1 B.f2 g1
  rcases B.fix hd hz g4 with h | h | h | h
  ·exact g5 h
  ·exact g6 h
  ·exact g2 h
  ·exact g3 h
structure Ys (d d':Dg) (f g:Nat) (l:List Nat) (b:Nat → Nat):Prop where
 ms:MS (d.n + 2) (out d') l b
 v0:b (pp d.n f 1) = pp (d.n + 1) g 1
 v2:b (pp (d.n + 1) g 2) = pp d.n f 0
 f3:b (pp d.n f 3) = pp d.n f 3
 f4:b (pp (d.n + 1) g 3) = pp (d.n + 1) g 3
 fix:∀ z,z < 4 * (d.n + 2) → b z = z → z = pp d.n f 3 ∨ z = pp (d.n + 1) g 3
theorem Ys.orb {l:List Nat} (Y:Ys d d' f g l b):Orb (phi rot b) (pp (d.n + 1) g 3) (pp d.n f 3) := by
 obtain ⟨r0,r1,r2,r3⟩:=rp d.n f
 obtain ⟨t0,t1,t2,t3⟩:=rp (d.n + 1) g
 refine ⟨2,?_⟩
 show phi rot b (phi rot b (pp (d.n + 1) g 3)) = _
 rw [stp Y.f4 t3,stp Y.v2 r0]
theorem Pd.yloop (hd:Valid d) (K:Pd d d' f g fx fy):Ys d d' f g (jl (pkL0 d f g) (pp (d.n + 1) g 0) (pp d.n f 2)) (tr (pkB d f g) (pp (d.n + 1) g 0) (pp d.n f 2)) ∧ ∀ z,z < 4 * d.n → tr (pkB d f g) (pp (d.n + 1) g 0) (pp d.n f 2) z = d.m z := by
 have B:=K.base hd
 obtain ⟨pl,ql,po,qo⟩:=B.pq hd
 obtain ⟨r0,r1,r2,r3⟩:=rp d.n f
 obtain ⟨t0,t1,t2,t3⟩:=rp (d.n + 1) g
 have e1:∀ z,z ≠ pp (d.n + 1) g 0 → z ≠ pp d.n f 2 → tr (pkB d f g) (pp (d.n + 1) g 0) (pp d.n f 2) z = pkB d f g z:=fun z z1 z2 => tr_ne z1 z2
 refine ⟨⟨B.ms.join (ql 0) (pl 2) (Ne.symm pp_nq) B.f3 B.f1 (by rw [K.p2,K.q0,Bool.not_not]) (.inr (.inl ⟨2,by
  show phi rot _ (phi rot _ (pp d.n f 2)) = _
  rw [stp B.f1 r2,stp B.b1 t1]⟩)),?_,?_,?_,?_,fun z hz e => ?_⟩,fun z hz => ?_⟩
 ·rw [e1 _ pp_nq (pp_ne (by omega)),B.b1]
 ·rw [e1 _ (pp_ne (by omega)) (Ne.symm pp_nq),B.b3]
 ·rw [e1 _ pp_nq (pp_ne (by omega)),B.f2]
 ·rw [e1 _ (pp_ne (by omega)) (Ne.symm pp_nq),B.f4]
 ·obtain ⟨g1,g2,g3⟩:=tr_fix (Ne.symm pp_nq) B.f3 B.f1 e
  rcases B.fix hd hz g1 with h | h | h | h
  ·exact absurd h g3
  ·exact .inl h
  ·exact absurd h g2
  ·exact .inr h
 ·rw [e1 z (Ne.symm (qo 0 z hz)) (Ne.symm (po 2 z hz)),B.old z hz]
theorem Pd.yedge (hd:Valid d) (K:Pd d d' f g fx fy) {y:Nat} (hy:y < 4 * d.n) (ho:out d y = fy) :
 ∃ b, Ys d d' f g (jl (jl (pkL0 d f g) y (pp (d.n + 1) g 0)) (pp d.n f 2) (d.m y)) b ∧ (∀ z, z < 4 * d.n → z ≠ y → z ≠ d.m y → b z = d.m z) ∧ b y = pp (d.n + 1) g 0 ∧ b (pp (d.n + 1) g 0) = y ∧ b (pp d.n f 2) = d.m y ∧ b (d.m y) = pp d.n f 2 ∧
   b (pp (d.n + 1) g 1) = pp d.n f 1 ∧ b (pp d.n f 0) = pp (d.n + 1) g 2 := by
 have hw:=(Valid.iff.1 hd).1
 have B:=K.base hd
 obtain ⟨pl,ql,po,qo⟩:=B.pq hd
 obtain ⟨r0,r1,r2,r3⟩:=rp d.n f
 obtain ⟨t0,t1,t2,t3⟩:=rp (d.n + 1) g
 have hmy:=hw.lt y hy
 have hy2:y < 4 * (d.n + 2):=by omega
 have wy:out d' y = fy:=by rw [out_old (d := d) (K.old _ (by omega)),ho]
 have ny:pkB d f g y ≠ y:=by rw [B.old y hy]; exact hw.ne y hy
 have m2:=B.ms.detour hy2 (ql 0) (pl 2) (Ne.symm pp_nq) ny B.f3 B.f1 (by rw [K.q0,wy]) (by rw [K.p2,wy]) (B.far hd hy (by have := pp_bd (d.n + 1) g 0; omega)) ⟨2,by
  show phi rot _ (phi rot _ (pp d.n f 2)) = _
  rw [stp B.f1 r2,stp B.b1 t1]⟩
 obtain ⟨a1,a2,a3,a4,a5⟩:=two_at B.ms hy2 (u := pp (d.n + 1) g 0) (v := pp d.n f 2) (Ne.symm pp_nq) ny B.f3 B.f1
 have fx:=fun z => two_fix (z := z) B.ms hy2 (ql 0) (pl 2) (Ne.symm pp_nq) ny B.f3 B.f1
 rw [B.old y hy] at m2 a1 a2 a3 a4 a5 fx
 refine ⟨_,⟨m2,?_,?_,?_,?_,fun z hz e => ?_⟩,fun z hz z1 z2 => ?_,a1,a2,a3,a4,?_,?_⟩
 ·rw [a5 _ (po 1 y hy) pp_nq (pp_ne (by omega)) (po 1 _ hmy),B.b1]
 ·rw [a5 _ (qo 2 y hy) (pp_ne (by omega)) (Ne.symm pp_nq) (qo 2 _ hmy),B.b3]
 ·rw [a5 _ (po 3 y hy) pp_nq (pp_ne (by omega)) (po 3 _ hmy),B.f2]
 ·rw [a5 _ (qo 3 y hy) (pp_ne (by omega)) (Ne.symm pp_nq) (qo 3 _ hmy),B.f4]
 ·obtain ⟨g1,g2,g3⟩:=fx z e
  rcases B.fix hd hz g1 with h | h | h | h
  ·exact absurd h g3
  ·exact .inl h
  ·exact absurd h g2
  ·exact .inr h
 ·rw [a5 z z1 (Ne.symm (qo 0 z hz)) (Ne.symm (po 2 z hz)) z2,B.old z hz]
 ·rw [a5 _ (qo 1 y hy) (pp_ne (by omega)) (Ne.symm pp_nq) (qo 1 _ hmy),B.b2]
 ·rw [a5 _ (po 0 y hy) pp_nq (pp_ne (by omega)) (po 0 _ hmy),B.b4]
theorem Ys.xloop (hd:Valid d) (K:Pd d d' f g fx fy) {l:List Nat} (Y:Ys d d' f g l b) (hl:d'.mt = jl l (pp d.n f 3) (pp (d.n + 1) g 3)):Valid d' := by
 have B:=K.base hd
 obtain ⟨pl,ql,po,qo⟩:=B.pq hd
 have m2:=Y.ms.join (pl 3) (ql 3) pp_nq Y.f3 Y.f4 (by rw [K.q3,K.p3,Bool.not_not]) (.inr (.inl Y.orb))
 refine K.fin hd m2 hl fun z hz e => ?_
 obtain ⟨g1,g2,g3⟩:=tr_fix pp_nq Y.f3 Y.f4 e
 rcases Y.fix z hz g1 with h | h
 ·exact g2 h
 ·exact g3 h
theorem Ys.end_ (hd:Valid d) (K:Pd d d' f g fx fy) {l:List Nat} (Y:Ys d d' f g l b) {x:Nat} (hx:x < 4 * d.n) (hb:b x = d.m x) (m2:MS (d.n + 2) (out d') (jl (jl l x (pp d.n f 3)) (pp (d.n + 1) g 3) (b x)) (tr (tr (tr b x (b x)) x (pp d.n f 3)) (pp (d.n + 1) g 3) (b x))) (hl:d'.mt = jl (jl l x (pp d.n f 3)) (pp (d.n + 1) g 3) (d.m x)):Valid d' := by
 have B:=K.base hd
 obtain ⟨pl,ql,po,qo⟩:=B.pq hd
 have nx:b x ≠ x:=by rw [hb]; exact (Valid.iff.1 hd).1.ne x hx
 refine K.fin hd m2 (by rw [hb]; exact hl) fun z hz e => ?_
 obtain ⟨g1,g2,g3⟩:=two_fix Y.ms (by omega) (pl 3) (ql 3) pp_nq nx Y.f3 Y.f4 e
 rcases Y.fix z hz g1 with h | h
 ·exact g2 h
 ·exact g3 h
theorem Ys.xedge0 (hd:Valid d) (K:Pd d d' f g fx fy) {l:List Nat} (Y:Ys d d' f g l b) (old:∀ z,z < 4 * d.n → b z = d.m z) {x:Nat} (hx:x < 4 * d.n) (ho:out d x = fx) (hl:d'.mt = jl (jl l x (pp d.n f 3)) (pp (d.n + 1) g 3) (d.m x)):Valid d' := by
 have hw:=(Valid.iff.1 hd).1
 have B:=K.base hd
 obtain ⟨pl,ql,po,qo⟩:=B.pq hd
 have nx:b x ≠ x:=by rw [old x hx]; exact hw.ne x hx
 have wx:out d' x = fx:=by rw [out_old (d := d) (K.old _ (by omega)),ho]
 exact Y.end_ hd K hx (old x hx) (Y.ms.detour (by omega) (pl 3) (ql 3) pp_nq nx Y.f3 Y.f4 (by rw [K.p3,wx]) (by rw [K.q3,wx]) (fun e => by
  have:=con_old (n := d.n) (b := b) (fun z hz => by rw [old z hz]; exact hw.lt z hz) hx e
  exact po 3 _ this rfl) Y.orb) hl
theorem Pd.edges (hd:Valid d) (K:Pd d d' f g fx fy) {x y:Nat} (hx:x < 4 * d.n) (hy:y < 4 * d.n) (ox:out d x = fx) (oy:out d y = fy) (hxy:x ≠ y) (hm:d.m x ≠ y) (hn:Orb (nx d) x y ∨ ¬ Comp d (x / 4) (y / 4))
 (hl:d'.mt = jl (jl (jl (jl (pkL0 d f g) y (pp (d.n + 1) g 0)) (pp d.n f 2) (d.m y)) x (pp d.n f 3)) (pp (d.n + 1) g 3) (d.m x)):Valid d' := by
 have hw:=(Valid.iff.1 hd).1
 have B:=K.base hd
 obtain ⟨pl,ql,po,qo⟩:=B.pq hd
 obtain ⟨r0,r1,r2,r3⟩:=rp d.n f
 obtain ⟨t0,t1,t2,t3⟩:=rp (d.n + 1) g
 obtain ⟨b,Y,old,e1,e2,e3,e4,e5,e6⟩:=K.yedge hd hy oy
 have hmy:=hw.lt y hy
 have hmx:=hw.lt x hx
 have xmy:x ≠ d.m y:=fun e => hm (by rw [e,hw.inv y hy])
 have hb:b x = d.m x:=old x hx hxy xmy
 have nx':b x ≠ x:=by rw [hb]; exact hw.ne x hx
 have wx:out d' x = fx:=by rw [out_old (d := d) (K.old _ (by omega)),ox]
 refine Y.end_ hd K hx hb (Y.ms.push (y := x) (c := pp d.n f 3) (e := pp (d.n + 1) g 3) (p := pp (d.n + 1) g 2) (by omega) (pl 3) (ql 3) pp_nq nx' Y.f3 Y.f4 (by rw [K.p3,wx]) (by rw [K.q3,wx]) (stp Y.f4 t3) (stp Y.v2 r0) (qo 2 x hx) (Ne.symm pp_nq) (by rw [hb]; exact qo 2 _ hmx) ?_) hl
 -- the faces of the old diagram,in the new one
 have sim:∀ z,z < 4 * d.n → Orb (phi rot b) z (nx d z):=fun z hz => by
  by_cases z1:z = y
  ·subst z1
   refine ⟨5,?_⟩
   show phi rot b (phi rot b (phi rot b (phi rot b (phi rot b z)))) = _
   rw [stp e1 t0,stp Y.f4 t3,stp Y.v2 r0,stp Y.f3 r3,stp e3 rfl]
   rfl
  ·by_cases z2:z = d.m y
   ·subst z2
    refine ⟨3,?_⟩
    show phi rot b (phi rot b (phi rot b (d.m y))) = _
    rw [stp e4 r2,stp Y.v0 t1,stp e2 rfl]
    show _ = rot (d.m (d.m y))
    rw [hw.inv y hy]
   ·exact ⟨1,by show rot (b z) = rot (d.m z); rw [old z hz z1 z2]⟩
 have yp:Orb (phi rot b) y (pp d.n f 3):=⟨3,by
  show phi rot b (phi rot b (phi rot b y)) = _
  rw [stp e1 t0,stp Y.f4 t3,stp Y.v2 r0]⟩
 have hM:∀ {z},z < 4 * d.n → z < 4 * (d.n + 2):=fun h => by omega
 have sym:∀ {u v},u < 4 * (d.n + 2) → Orb (phi rot b) u v → Orb (phi rot b) v u:=fun hu e => Y.ms.hm.pb.symm hu e
 rcases hn with h | h
 ·left
  have hyx:Orb (nx d) y x:=hw.hm.pb.symm (x := x) (y := y) hx h
  have:Orb (phi rot b) y x:=by
   obtain ⟨k,hk⟩:=hyx
   have run:∀ j,Orb (phi rot b) y (it (nx d) j y) ∧ it (nx d) j y < 4 * d.n:=by
    intro j
    induction j with
    | zero => exact ⟨Orb.refl _ _,hy⟩
    | succ j ih => exact ⟨ih.1.trans (sim _ ih.2),tn_lt (hw.lt _ ih.2)⟩
   rw [← hk]
   exact (run k).1
  exact (sym (hM hy) yp).trans this
 ·right
  intro e
  have:∀ w,Con rot b (pp d.n f 3) w → w < 4 * d.n → Con rot d.m y w:=by
   have key:∀ w,Con rot b (pp d.n f 3) w → w < 4 * (d.n + 2) ∧ (4 * d.n ≤ w ∨ (w < 4 * d.n ∧ Con rot d.m y w)):=by
    intro w e
    induction e with
    | refl => exact ⟨pl 3,.inl (pp_bd _ _ _).1⟩
    | left _ ih =>
      refine ⟨rot_lt ih.1,?_⟩
      rcases ih.2 with h | ⟨h1,h2⟩
      ·exact .inl (rot_ge h)
      ·exact .inr ⟨rot_lt h1,h2.left⟩
    | @right w _ ih =>
      have hbw:=Y.ms.hm.ab.maps w ih.1
      refine ⟨hbw,?_⟩
      rcases Nat.lt_or_ge (b w) (4 * d.n) with h3 | h3
      ·refine .inr ⟨h3,?_⟩
       have hinv:=Y.ms.hm.inv w ih.1
       by_cases z1:b w = y
       ·rw [z1]; exact .refl
       ·by_cases z2:b w = d.m y
        ·rw [z2]; exact Con.refl.right
        ·rw [old _ h3 z1 z2] at hinv
         have hw2:w < 4 * d.n:=by rw [← hinv]; exact hw.lt _ h3
         rcases ih.2 with h | ⟨_,h2⟩
         ·omega
         ·have:b w = d.m w:=by have h5 := hw.inv _ h3; rw [hinv] at h5; exact h5.symm
          rw [this]; exact h2.right
      ·exact .inl h3
   intro w e hwl
   rcases (key w e).2 with h | h
   ·omega
   ·exact h.2
  have:=this x e hx
  exact h ((con_comp hw hx hy).1 (hw.hm.con_symm hy this))
end
end Go.Proofs.YtghdiolnonejaaaGreatDoor.Pl
end
section
namespace Go.Proofs.YtghdiolnonejaaaGreatDoor.Pl
def op (h:Nat):Nat := tn h 2
theorem op_op (h:Nat):op (op h) = h := by unfold op; rw [tn_tn]; exact tn_four h
theorem op_bij (k:Nat):Bij (4 * k) (fun h => h < 4 * k) op := ⟨fun _ h => h,fun _ h => tn_lt h,fun _ _ _ _ e => tn_inj e⟩
theorem Hm.op {n:Nat} {b:Nat → Nat} (h:Hm (4 * n) (fun h => h < 4 * n) rot b):Hm (4 * n) (fun h => h < 4 * n) Pl.op b := ⟨op_bij n,h.ab,h.inv⟩
theorem Cls.one {S:Nat → Prop} {R:Nat → Nat → Prop} {a:Nat} (hE:Eqv S R) (ha:S a) (h:∀ x,S x → R a x):Cls S R 1 :=
 ⟨fun _ => 0,fun _ _ => Nat.zero_lt_one,fun x y hx hy => ⟨fun _ => hE.trans _ _ _ hx ha hy (hE.symm _ _ ha hx (h x hx)) (h y hy),fun _ => rfl⟩,fun i hi => ⟨a,ha,(by omega:(0:Nat) = i)⟩⟩
def grp (h u z:Nat):Prop := z = h ∨ z = u ∨ z = tn h 2 ∨ z = tn u 2
structure Gp (n:Nat) (b:Nat → Nat) (h u:Nat):Prop where
 hm:Hm (4 * n) (fun h => h < 4 * n) rot b
 hh:h < 4 * n
 hu:u < 4 * n
 e0:b h = u
 n1:h ≠ u
 n2:h ≠ tn u 2
 n3:u ≠ tn h 2
section
variable {n:Nat} {b:Nat → Nat} {h u:Nat}
theorem Gp.e2 (G:Gp n b h u):b u = h := by rw [← G.e0,G.hm.inv _ G.hh]
theorem Gp.mem (G:Gp n b h u) {z:Nat} (hz:grp h u z):z < 4 * n := by
 rcases hz with rfl | rfl | rfl | rfl
 ·exact G.hh
 ·exact G.hu
 ·exact tn_lt G.hh
 ·exact tn_lt G.hu
theorem Gp.nAB (G:Gp n b h u):tn h 2 ≠ tn u 2 := fun e => G.n1 (tn_inj e)
theorem tt2 (h:Nat):tn (tn h 2) 2 = h := op_op h
theorem Gp.free (G:Gp n b h u) (fA:b (tn h 2) = tn h 2) (fB:b (tn u 2) = tn u 2) :
 Cls (grp h u) (Orb (phi op b)) 1 ∧ (∀ z,grp h u z → grp h u (phi op b z)) ∧ Orb (phi op b) (tn h 2) (tn u 2) := by
 have p1:phi op b h = tn u 2:=by show tn (b h) 2 = _; rw [G.e0]
 have p2:phi op b u = tn h 2:=by show tn (b u) 2 = _; rw [G.e2]
 have p3:phi op b (tn h 2) = h:=by show tn (b (tn h 2)) 2 = _; rw [fA,tt2]
 have p4:phi op b (tn u 2) = u:=by show tn (b (tn u 2)) 2 = _; rw [fB,tt2]
 have cl:∀ z,grp h u z → grp h u (phi op b z):=by
  rintro z (rfl | rfl | rfl | rfl)
  ·rw [p1]; exact .inr (.inr (.inr rfl))
  ·rw [p2]; exact .inr (.inr (.inl rfl))
  ·rw [p3]; exact .inl rfl
  ·rw [p4]; exact .inr (.inl rfl)
 have hE:=(G.hm.op).pb.eqv
 have s1:Orb (phi op b) h (tn u 2):=⟨1,p1⟩
 have s2:Orb (phi op b) h u:=s1.trans ⟨1,p4⟩
 have s3:Orb (phi op b) h (tn h 2):=s2.trans ⟨1,p2⟩
 refine ⟨Cls.one ⟨fun x hx => hE.refl x (G.mem hx),fun x y hx hy => hE.symm x y (G.mem hx) (G.mem hy),fun x y z hx hy hz => hE.trans x y z (G.mem hx) (G.mem hy) (G.mem hz)⟩ (a := h) (.inl rfl) ?_,cl,(show Orb (phi op b) (tn h 2) h from ⟨1,p3⟩).trans s1⟩
 rintro x (rfl | rfl | rfl | rfl)
 ·exact Orb.refl _ _
 ·exact s2
 ·exact s3
 ·exact s1
theorem Gp.closed (G:Gp n b h u) (fA:b (tn h 2) = tn u 2):Cls (grp h u) (Orb (phi op b)) 2 ∧ ∀ z,grp h u z → grp h u (phi op b z) := by
 have fB:b (tn u 2) = tn h 2:=by rw [← fA,G.hm.inv _ (tn_lt G.hh)]
 have p1:phi op b h = tn u 2:=by show tn (b h) 2 = _; rw [G.e0]
 have p2:phi op b u = tn h 2:=by show tn (b u) 2 = _; rw [G.e2]
 have p3:phi op b (tn h 2) = u:=by show tn (b (tn h 2)) 2 = _; rw [fA,tt2]
 have p4:phi op b (tn u 2) = h:=by show tn (b (tn u 2)) 2 = _; rw [fB,tt2]
 have hE:=(G.hm.op).pb.eqv
 have cl:∀ z,grp h u z → grp h u (phi op b z):=by
  rintro z (rfl | rfl | rfl | rfl)
  ·rw [p1]; exact .inr (.inr (.inr rfl))
  ·rw [p2]; exact .inr (.inr (.inl rfl))
  ·rw [p3]; exact .inr (.inl rfl)
  ·rw [p4]; exact .inl rfl
 refine ⟨?_,cl⟩
 have c1:Cls (fun z => z = h ∨ z = tn u 2) (Orb (phi op b)) 1:=by
  refine Cls.one ⟨fun x hx => Orb.refl _ _,fun x y hx hy e => hE.symm x y ?_ ?_ e,fun x y z _ _ _ e e' => e.trans e'⟩ (a := h) (.inl rfl) ?_
  ·rcases hx with rfl | rfl; exact G.hh; exact tn_lt G.hu
  ·rcases hy with rfl | rfl; exact G.hh; exact tn_lt G.hu
  ·rintro x (rfl | rfl); exact Orb.refl _ _; exact ⟨1,p1⟩
 have c2:Cls (fun z => z = u ∨ z = tn h 2) (Orb (phi op b)) 1:=by
  refine Cls.one ⟨fun x hx => Orb.refl _ _,fun x y hx hy e => hE.symm x y ?_ ?_ e,fun x y z _ _ _ e e' => e.trans e'⟩ (a := u) (.inl rfl) ?_
  ·rcases hx with rfl | rfl; exact G.hu; exact tn_lt G.hh
  ·rcases hy with rfl | rfl; exact G.hu; exact tn_lt G.hh
  ·rintro x (rfl | rfl); exact Orb.refl _ _; exact ⟨1,p2⟩
 have k1:∀ z,(z = h ∨ z = tn u 2) → (phi op b z = h ∨ phi op b z = tn u 2):=by rintro z (rfl | rfl); exact .inr p1; exact .inl p4
 have k2:∀ z,(z = u ∨ z = tn h 2) → (phi op b z = u ∨ phi op b z = tn h 2):=by rintro z (rfl | rfl); exact .inr p2; exact .inl p3
 have dis:∀ x,(x = h ∨ x = tn u 2) → ¬ (x = u ∨ x = tn h 2):=by
  rintro x (rfl | rfl) (e | e)
  ·exact G.n1 e
  ·unfold tn at e; omega
  ·unfold tn at e; omega
  ·exact G.nAB e.symm
 have:=Cls.add c1 c2 (fun x y hx hy e => dis _ (orb_closed (P := fun z => z = h ∨ z = tn u 2) k1 hx e) hy) (fun x y hx hy e => dis _ hx (orb_closed (P := fun z => z = u ∨ z = tn h 2) k2 hy e)) dis
 refine Cls.congr this (fun x => ?_) (fun _ _ _ _ => Iff.rfl)
 unfold grp
 constructor
 ·rintro ((e | e) | (e | e))
  ·exact .inl e
  ·exact .inr (.inr (.inr e))
  ·exact .inr (.inl e)
  ·exact .inr (.inr (.inl e))
 ·rintro (e | e | e | e)
  ·exact .inl (.inl e)
  ·exact .inr (.inl e)
  ·exact .inr (.inr e)
  ·exact .inl (.inr e)
end
section
variable {N:Nat} {S:Nat → Prop} {r a:Nat → Nat}
theorem byp_cls (h:Hm N S r a) {u v:Nat} (hu:S u) (hv:S v) (huv:u ≠ v) (nu:a u ≠ u) (nv:a v ≠ v) (nuv:a u ≠ v) (ho:Orb (phi r (cut2 a u v)) u v) (nx:¬ Orb (phi r (cut2 a u v)) u (a u)) (ny:¬ Orb (phi r (cut2 a u v)) u (a v)) {k:Nat} (hk:Cls S (Orb (phi r a)) k) :
 Cls S (Orb (phi r (byp a u v))) (k + 1) := by
 obtain ⟨c0,c1,c2,c3,c4,c5,c6,c7⟩:=cut2_hm h hu hv huv nu nv nuv
 have hx:=h.ab.maps u hu
 have hy:=h.ab.maps v hv
 obtain ⟨c,hc⟩:∃ c,c = cut2 a u v := ⟨_,rfl⟩
 unfold byp
 rw [← hc] at ho nx ny c0 c1 c2 c3 c4 c5
 rw [← hc]
 obtain ⟨k0,hk0⟩:=Cls.exists_ N S _ c0.pb.lt c0.pb.eqv
 have hpos:=hk0.pos hu
 obtain ⟨k1,rfl⟩:∃ k1,k0 = k1 + 1 := ⟨k0 - 1,by omega⟩
 have e1:=Cls.merge c0.pb hu hx nx hk0
 have hb1:=c0.pb.tr hu hx
 have sym:=fun {x y} (hx:S x) (e:Orb (phi r c) x y) => c0.pb.symm hx e
 have mg:=fun {x y} (hx':S x) => c0.pb.merge hu hx nx (x := x) (y := y) hx'
 have nvu:=sym hu ho
 rw [phi_tr]
 have hphi:phi r a = tr (tr (phi r c) u (a u)) v (a v):=by
  have:phi r a = phi r (tr (tr c u (a u)) v (a v)):=by rw [← c5]
  rw [this,phi_tr,phi_tr]
 rw [hphi] at hk
 by_cases hxy:Orb (phi r c) (a u) (a v)
 ·-- parted,twice
  have hvy:Orb (tr (phi r c) u (a u)) v (a v):=(mg hv).2 (.inr (.inl ⟨nvu,hxy⟩))
  have e2:=Cls.part hb1 hv hy (Ne.symm nv) hvy e1
  have e3:=Cls.part c0.pb hx hy c6 hxy hk0
  rw [hk.unique e2]
  exact e3
 ·have nvy : ¬ Orb (tr (phi r c) u (a u)) v (a v) := fun e => by
   rcases (mg hv).1 e with e | ⟨_,e⟩ | ⟨e,_⟩
   ·exact ny (ho.trans e)
   ·exact hxy e
   ·exact nx (ho.trans e)
  have hp1:=e1.pos hv
  obtain ⟨k2,rfl⟩:∃ k2,k1 = k2 + 1 := ⟨k1 - 1,by omega⟩
  have e2:=Cls.merge hb1 hv hy nvy e1
  have e3:=Cls.merge c0.pb hx hy hxy hk0
  rw [hk.unique e2]
  exact e3
end
section
variable {n:Nat} {b:Nat → Nat} {h u:Nat}
theorem Gp.cls (G:Gp n b h u) (nA:b (tn h 2) ≠ tn h 2) (nB:b (tn u 2) ≠ tn u 2) {k:Nat} (hk:Cls (fun h => h < 4 * n) (Orb (phi op b)) k) :
 Cls (fun h => h < 4 * n) (Orb (phi op (Pl.cls b (tn h 2) (tn u 2)))) (k + if b (tn h 2) = tn u 2 then 0 else 1) := by
 unfold Pl.cls
 by_cases hc:b (tn h 2) = tn u 2
 ·rw [if_pos hc,if_pos hc]; exact hk
 rw [if_neg hc,if_neg hc]
 have hA:tn h 2 < 4 * n:=tn_lt G.hh
 have hB:tn u 2 < 4 * n:=tn_lt G.hu
 have m:=G.hm.op
 have e2:=G.e2
 have c0:Hm (4 * n) (fun h => h < 4 * n) rot (cut2 b (tn h 2) (tn u 2)) ∧ _:=cut2_hm G.hm hA hB G.nAB nA nB hc
 obtain ⟨c0,c1,c2,c3,c4,c5,c6,c7⟩:=c0
 have hhA:h ≠ b (tn h 2):=fun e => by have := G.hm.inv _ hA; rw [← e,G.e0] at this; exact G.n3 this
 have hhB:h ≠ b (tn u 2):=fun e => by have := G.hm.inv _ hB; rw [← e,G.e0] at this; unfold tn at this; omega
 have huA:u ≠ b (tn h 2):=fun e => by have := G.hm.inv _ hA; rw [← e,e2] at this; unfold tn at this; omega
 have huB:u ≠ b (tn u 2):=fun e => by have := G.hm.inv _ hB; rw [← e,e2] at this; exact G.n2 this
 have hA0:h ≠ tn h 2:=by unfold tn; omega
 have hu0:u ≠ tn u 2:=by unfold tn; omega
 have G':Gp n (cut2 b (tn h 2) (tn u 2)) h u:=⟨c0,G.hh,G.hu,by rw [cut2_at _ _ hA0 G.n2 hhA hhB,G.e0],G.n1,G.n2,G.n3⟩
 obtain ⟨g1,g2,g3⟩:=G'.free c1 c2
 have no:∀ z,Orb (phi op (cut2 b (tn h 2) (tn u 2))) (tn h 2) z → grp h u z:=fun z e => orb_closed (P := grp h u) g2 (.inr (.inr (.inl rfl))) e
 refine byp_cls m hA hB G.nAB nA nB hc g3 (fun e => ?_) (fun e => ?_) hk
 ·rcases no _ e with e | e | e | e
  ·exact hhA e.symm
  ·exact huA e.symm
  ·exact nA e
  ·exact hc e
 ·rcases no _ e with e | e | e | e
  ·exact hhB e.symm
  ·exact huB e.symm
  ·exact c7 e
  ·exact nB e
end
def Str (d:Dg) (s:Nat):Prop := Cls (fun h => h < 4 * d.n ∧ out d h = true) (Orb (st d)) s
section
variable {d:Dg}
theorem st_phi (d:Dg):st d = phi op d.m := rfl
theorem out_orb (hd:Wf d) {x y:Nat} (hx:x < 4 * d.n) (e:Orb (st d) x y):out d y = out d x := by
 obtain ⟨k,rfl⟩:=e
 exact out_it hd hx k
theorem st_back (hd:Wf d) {x y:Nat} (hx:x < 4 * d.n) (e:Orb (st d) x y):Orb (st d) (d.m y) (d.m x) := by
 obtain ⟨k,rfl⟩:=e
 induction k with
 | zero => exact Orb.refl _ _
 | succ k ih =>
   have hz:=(st_bij hd).it k x hx
   refine Orb.trans ⟨1,?_⟩ ih
   show st d (d.m (st d (it (st d) k x))) = d.m (it (st d) k x)
   unfold st at hz ⊢
   rw [hd.inv _ (tn_lt (hd.lt _ hz)),tt2]
theorem Str.all (hd:Wf d) {s:Nat} (h:Str d s):Cls (dart d) (Orb (st d)) (2 * s) := by
 have h2:Cls (fun h => h < 4 * d.n ∧ out d h = false) (Orb (st d)) s:=by
  refine Cls.map h d.m (fun x hx => ⟨hd.lt x hx.1,by rw [out_way hd hx.1,hx.2]; rfl⟩) (fun y hy => ⟨d.m y,⟨hd.lt y hy.1,by rw [out_way hd hy.1,hy.2]; rfl⟩,hd.inv y hy.1⟩) (fun x y hx hy => ⟨fun e => (st_bij hd).symm (hd.lt _ hy.1) (st_back hd hx.1 e),fun e => ?_⟩)
  have:=st_back hd (hd.lt _ hx.1) e
  rw [hd.inv _ hx.1,hd.inv _ hy.1] at this
  exact (st_bij hd).symm hy.1 this
 have:=Cls.add h h2 (fun x y hx hy e => by have := out_orb hd hx.1 e; rw [hx.2,hy.2] at this; exact absurd this (by decide)) (fun x y hx hy e => by have := out_orb hd hy.1 e; rw [hx.2,hy.2] at this; exact absurd this (by decide)) (fun x hx hy => by rw [hx.2] at hy; exact absurd hy.2 (by decide))
 rw [show 2 * s = s + s by omega]
 refine Cls.congr this (fun x => ?_) (fun _ _ _ _ => Iff.rfl)
 unfold dart
 constructor
 ·rintro (e | e) <;> exact e.1
 ·intro e
  cases ho:out d x with
  | true => exact .inl ⟨e,rfl⟩
  | false => exact .inr ⟨e,rfl⟩
theorem Str.iff (hd:Wf d) {s k:Nat} (h:Str d s) (hk:Cls (dart d) (Orb (st d)) k):k = 2 * s := hk.unique (h.all hd)
theorem Rs.cls {gs:List Nat} {mt:List Nat} {lp:Nat} {b:Nat → Nat} (R:Rs d gs mt lp b) {k g:Nat} (hk:Cls (dart d) (Orb (phi op b)) k) (hg:Cls (gone d gs) (Orb (phi op b)) g) :
 ∃ ks,k = ks + g ∧ Cls (Pl.stay d gs) (Orb (phi op b)) ks ∧ Cls (dart (rsD d gs mt lp)) (Orb (st (rsD d gs mt lp))) ks := by
 have hE:=R.hm.op.pb.eqv
 have s1:∀ x,Pl.stay d gs x → Pl.stay d gs (phi op b x):=fun x hx => tn_stay (R.stay hx)
 have g1:∀ x,gone d gs x → gone d gs (phi op b x):=fun x hx => ⟨tn_lt (R.hm.ab.maps x hx.1),by show tn (b x) 2 / 4 ∈ gs; rw [tn_div]; exact R.cl x hx⟩
 obtain ⟨ks,hks⟩:=Cls.exists_ (4 * d.n) (Pl.stay d gs) (Orb (phi op b)) (fun x hx => hx.1) ⟨fun x hx => Orb.refl _ _,fun x y hx hy e => hE.symm x y hx.1 hy.1 e,fun x y z _ _ _ e e' => e.trans e'⟩
 have ha:=Cls.add hks hg (fun x y hx hy e => (orb_closed (P := Pl.stay d gs) s1 hx e).2 hy.2) (fun x y hx hy e => hx.2 (orb_closed (P := gone d gs) g1 hy e).2) (fun x hx hy => hx.2 hy.2)
 have ha2:Cls (dart d) (Orb (phi op b)) (ks + g):=Cls.congr ha (fun x => ⟨fun h => h.elim (·.1) (·.1),fun h => (Classical.em (x / 4 ∈ gs)).elim (fun e => .inr ⟨h,e⟩) (fun e => .inl ⟨h,e⟩)⟩) (fun _ _ _ _ => Iff.rfl)
 refine ⟨ks,hk.unique ha2,hks,?_⟩
 refine Cls.map hks (shf gs) (fun x hx => shf_lt R.nd R.few mt lp hx) (fun y hy => shf_onto R.nd R.few mt lp hy) (fun x y hx hy => orb_map (S := Pl.stay d gs) (t := shf gs) s1 (fun x hx => ?_) (fun x y hx hy e => shf_inj R.nd R.few hx.2 hy.2 e) hx hy)
 show tn ((rsD d gs mt lp).m (shf gs x)) 2 = shf gs (tn (b x) 2)
 rw [R.m hx,shf_tn R.few]
end
end Go.Proofs.YtghdiolnonejaaaGreatDoor.Pl
end
section
namespace Go.Proofs.YtghdiolnonejaaaGreatDoor.Pl
variable {d:Dg}
def Same (d d':Dg):Prop := ∀ s s',Str d s → Str d' s' → s + d.lp = s' + d'.lp
theorem kink_gp (hd:Valid d) {o:Nat} (ho:o < 4 * d.n) (hk:d.m o / 4 = o / 4):Gp d.n d.m o (d.m o) := by
 have hw:=(Valid.iff.1 hd).1
 have hi:=hw.lt o ho
 have four:=kink_four hd ho hk
 exact ⟨hw.hm,ho,hi,rfl,fun e => hw.ne o ho e.symm,fun e => by rcases four with h | h <;> rw [h] at e <;> (unfold tn at e; omega),fun e => no_opp hd ho e⟩
theorem kink_gone (hd:Valid d) {o:Nat} (ho:o < 4 * d.n) (hk:d.m o / 4 = o / 4) (z:Nat):grp o (d.m o) z ↔ gone d [o / 4] z := by
 have four:=kink_four hd ho hk
 unfold grp gone
 rw [List.mem_singleton]
 constructor
 ·rintro (rfl | rfl | rfl | rfl)
  ·exact ⟨ho,rfl⟩
  ·exact ⟨(Valid.iff.1 hd).1.lt _ ho,hk⟩
  ·exact ⟨tn_lt ho,tn_div _ _⟩
  ·exact ⟨tn_lt ((Valid.iff.1 hd).1.lt _ ho),by rw [tn_div,hk]⟩
 ·rintro ⟨_,hc⟩
  rcases four with h | h <;> rw [h] <;> unfold tn at * <;> omega
theorem kink_cls (hd:Valid d) {o:Nat} (ho:o < 4 * d.n) (hk:d.m o / 4 = o / 4) (hn:d.m (tn o 2) ≠ tn (d.m o) 2) {k:Nat} (hk2:Cls (dart d) (Orb (st d)) k) :
 Cls (dart d) (Orb (phi op (byp d.m (tn (d.m o) 2) (tn o 2)))) (k + 1) ∧ Cls (gone d [o / 4]) (Orb (phi op (byp d.m (tn (d.m o) 2) (tn o 2)))) 1 := by
 have hw:=(Valid.iff.1 hd).1
 have hi:=hw.lt o ho
 have hA:tn o 2 < 4 * d.n:=tn_lt ho
 have hB:tn (d.m o) 2 < 4 * d.n:=tn_lt hi
 have hBA:tn (d.m o) 2 ≠ tn o 2:=fun e => hw.ne o ho (tn_inj e)
 have hmBA:d.m (tn (d.m o) 2) ≠ tn o 2:=fun e => hn (by rw [← e,hw.inv _ hB])
 have inv:=hw.inv o ho
 have hmi:d.m (d.m o) / 4 = d.m o / 4:=by rw [inv,hk]
 have G:Gp d.n d.m (d.m o) o:=by have := kink_gp hd hi hmi; rwa [inv] at this
 have h1:=G.cls (hw.ne _ hB) (hw.ne _ hA) hk2
 unfold cls at h1
 rw [if_neg hmBA,if_neg hmBA] at h1
 obtain ⟨b1,b2,b3,b4,b5⟩:=byp_at hw.hm hB hA hBA (hw.ne _ hB) (hw.ne _ hA) hmBA
 obtain ⟨q1,q2⟩:=kink_byp hd ho hk hn
 have R:=kink_rs hd ho hk hn (lp := 0) (by omega) (mt := List.ofFn (n := 4 * d.n) (fun h => if h.1 = d.m (tn o 2) then d.m (tn (d.m o) 2) else if h.1 = d.m (tn (d.m o) 2) then d.m (tn o 2) else d.m h.1)) (fun h hh => by
  rw [List.getD_eq_getElem?_getD,List.getElem?_ofFn,dif_pos hh]; rfl)
 have e0:byp d.m (tn (d.m o) 2) (tn o 2) (d.m o) = o:=by
  have n1:d.m o ≠ tn (d.m o) 2:=by unfold tn; omega
  have n2:d.m o ≠ tn o 2:=no_opp hd ho
  have n3:d.m o ≠ d.m (tn (d.m o) 2):=fun e => by have := hw.bij.inj _ _ ho hB e; rcases kink_four hd ho hk with h | h <;> rw [h] at this <;> (unfold tn at this; omega)
  have n4:d.m o ≠ d.m (tn o 2):=fun e => by have := hw.bij.inj _ _ ho hA e; unfold tn at this; omega
  rw [b5 _ n1 n2 n3 n4,inv]
 have G2:Gp d.n (byp d.m (tn (d.m o) 2) (tn o 2)) (d.m o) o:=⟨q1,hi,ho,e0,G.n1,G.n2,G.n3⟩
 refine ⟨h1,Cls.congr (G2.free b1 b2).1 (fun z => ?_) (fun _ _ _ _ => Iff.rfl)⟩
 rw [← kink_gone hd ho hk z]
 unfold grp
 constructor
 ·rintro (h | h | h | h)
  ·exact .inr (.inl h)
  ·exact .inl h
  ·exact .inr (.inr (.inr h))
  ·exact .inr (.inr (.inl h))
 ·rintro (h | h | h | h)
  ·exact .inr (.inl h)
  ·exact .inl h
  ·exact .inr (.inr (.inr h))
  ·exact .inr (.inr (.inl h))
theorem kink_cls0 (hd:Valid d) {o:Nat} (ho:o < 4 * d.n) (hk:d.m o / 4 = o / 4) (hn:d.m (tn o 2) = tn (d.m o) 2):Cls (gone d [o / 4]) (Orb (phi op d.m)) 2 :=
 Cls.congr ((kink_gp hd ho hk).closed hn).1 (kink_gone hd ho hk) (fun _ _ _ _ => Iff.rfl)
theorem kink_same (hd:Valid d) {o:Nat} (ho:o < 4 * d.n) (hk:d.m o / 4 = o / 4) (hn:d.m (tn o 2) ≠ tn (d.m o) 2) {mt:List Nat} {lp:Nat} (hl:lp ≤ 64) (hlp:lp = d.lp)
 (hmt:∀ h,h < 4 * d.n → mt.getD h 0 = if h = d.m (tn o 2) then d.m (tn (d.m o) 2) else if h = d.m (tn (d.m o) 2) then d.m (tn o 2) else d.m h):Same d (rsD d [o / 4] mt lp) := by
 intro s s' h h'
 have hw:=(Valid.iff.1 hd).1
 have R:=kink_rs hd ho hk hn hl hmt
 obtain ⟨c1,c2⟩:=kink_cls hd ho hk hn (h.all hw)
 obtain ⟨ks,e1,_,e2⟩:=R.cls c1 c2
 have:=h'.iff (R.wf hw) e2
 show s + d.lp = s' + lp
 omega
theorem kink_same0 (hd:Valid d) {o:Nat} (ho:o < 4 * d.n) (hk:d.m o / 4 = o / 4) (hn:d.m (tn o 2) = tn (d.m o) 2) {lp:Nat} (hl:lp ≤ 64) (hlp:lp = d.lp + 1):Same d (rsD d [o / 4] d.mt lp) := by
 intro s s' h h'
 have hw:=(Valid.iff.1 hd).1
 have R:=kink_rs0 hd ho hk hn hl
 obtain ⟨ks,e1,_,e2⟩:=R.cls (h.all hw) (kink_cls0 hd ho hk hn)
 have:=h'.iff (R.wf hw) e2
 show s + d.lp = s' + lp
 omega
theorem in_same {d':Dg} (hd:Wf d) (hd':Wf d') {gs mt:List Nat} {lp:Nat} {b:Nat → Nat} (R:Rs d' gs mt lp b) (hs:∀ z,stay d' gs z ↔ z < 4 * d.n) (hb:∀ z,z < 4 * d.n → b z = d.m z) {k g s:Nat}
 (hk:Cls (dart d') (Orb (phi op b)) k) (hg:Cls (gone d' gs) (Orb (phi op b)) g) (h:Str d s):k = 2 * s + g := by
 obtain ⟨ks,e1,e2,_⟩:=R.cls hk hg
 have:Cls (dart d) (Orb (st d)) ks:=Cls.congr e2 hs fun x y hx hy => by
  rw [st_phi]
  refine Orb.congr (S := fun z => z < 4 * d.n) (fun z hz => ?_) (fun z hz => ?_) ((hs x).1 hx)
  ·show tn (b z) 2 < 4 * d.n; rw [hb z hz]; exact tn_lt (hd.lt z hz)
  ·show tn (b z) 2 = tn (d.m z) 2; rw [hb z hz]
 have:=h.iff hd this
 omega
section
variable {h u:Nat}
theorem Lens.g1 {b:Nat → Nat} (hw:Wf d) (L:Lens d h u) (hm:Hm (4 * d.n) (dart d) rot b) (e0:b h = u):Gp d.n b h u :=
 ⟨hm,L.hh,L.hu hw,e0,ap L.ne,pm1 L.ne,Ne.symm (pm0 L.ne)⟩
theorem Lens.g2 {b:Nat → Nat} (hw:Wf d) (L:Lens d h u) (hm:Hm (4 * d.n) (dart d) rot b) (e1:b (tn h 1) = tn u 3):Gp d.n b (tn h 1) (tn u 3) :=
 ⟨hm,tn_lt L.hh,tn_lt (L.hu hw),e1,pm L.ne,by rw [tn_tn]; exact pm L.ne,by rw [tn_tn]; exact Ne.symm (pm L.ne)⟩
theorem tn12 (h:Nat):tn (tn h 1) 2 = tn h 3 := tn_tn h 1 2
theorem tn32 (u:Nat):tn (tn u 3) 2 = tn u 1 := by rw [tn_tn]; unfold tn; omega
theorem Lens.cls (hd:Valid d) (L:Lens d h u) {k:Nat} (hk:Cls (dart d) (Orb (st d)) k) :
 Cls (dart d) (Orb (phi op (lB d h u))) (k + (if d.m (tn h 2) = tn u 2 then 0 else 1) + (if lA d h u (tn h 3) = tn u 1 then 0 else 1)) := by
 have hw:=(Valid.iff.1 hd).1
 have hu:=L.hu hw
 have A:=L.la hd
 have h1:=(L.g1 hw hw.hm L.m0).cls (hw.ne _ (tn_lt L.hh)) (hw.ne _ (tn_lt hu)) hk
 have h2:=(L.g2 hw A.hm A.e1).cls (by rw [tn12]; exact A.nf _ (tn_lt L.hh) (tn_ne (by omega)) (pm L.ne)) (by rw [tn32]; exact A.nf _ (tn_lt hu) (Ne.symm (pm L.ne)) (tn_ne (by omega))) h1
 rw [tn12,tn32] at h2
 exact h2
theorem Lens.gone (hd:Valid d) (L:Lens d h u) {x y:Nat} (hx:(x = h / 4 ∧ y = u / 4) ∨ (x = u / 4 ∧ y = h / 4)) :
 Cls (Pl.gone d [x,y]) (Orb (phi op (lB d h u))) ((if d.m (tn h 2) = tn u 2 then 2 else 1) + (if lA d h u (tn h 3) = tn u 1 then 2 else 1)) := by
 have hw:=(Valid.iff.1 hd).1
 have hu:=L.hu hw
 have hh:=L.hh
 have E:=L.ne
 have A:=L.la hd
 have B:=L.lb hd
 have G1:=L.g1 hw B.hm B.e0
 have G2:=L.g2 hw B.hm B.e1
 -- which ends are joined
 have j1:(d.m (tn h 2) = tn u 2 → lB d h u (tn h 2) = tn u 2) ∧ (d.m (tn h 2) ≠ tn u 2 → lB d h u (tn h 2) = tn h 2 ∧ lB d h u (tn u 2) = tn u 2):=by
  have k1:(d.m (tn h 2) = tn u 2 → lA d h u (tn h 2) = tn u 2) ∧ (d.m (tn h 2) ≠ tn u 2 → lA d h u (tn h 2) = tn h 2 ∧ lA d h u (tn u 2) = tn u 2):=by
   unfold lA Pl.cls
   constructor
   ·intro e; rw [if_pos e]; exact e
   ·intro e; rw [if_neg e]
    obtain ⟨b1,b2,_⟩:=byp_at hw.hm (tn_lt hh) (tn_lt hu) (pm E) (hw.ne _ (tn_lt (k := 2) hh)) (hw.ne _ (tn_lt (k := 2) hu)) e
    exact ⟨b1,b2⟩
  have e2:∀ z,(z = tn h 2 ∨ z = tn u 2) → lB d h u z = lA d h u z:=by
   intro z hz
   unfold lB Pl.cls
   by_cases hc:lA d h u (tn h 3) = tn u 1
   ·rw [if_pos hc]
   ·rw [if_neg hc]
    have n3:=A.nf _ (tn_lt (k := 3) hh) (tn_ne (by omega)) (pm E)
    have n1:=A.nf _ (tn_lt (k := 1) hu) (Ne.symm (pm E)) (tn_ne (by omega))
    obtain ⟨b1,b2,b3,b4,b5⟩:=byp_at A.hm (tn_lt hh) (tn_lt hu) (pm E) n3 n1 hc
    have az:lA d h u z = tn h 2 ∨ lA d h u z = tn u 2:=by
     rcases hz with rfl | rfl <;> rcases A.c with ⟨a1,a2⟩ | ⟨a1,a2⟩
     ·exact .inr a1
     ·exact .inl a1
     ·exact .inl a2
     ·exact .inr a2
    have zl:z < 4 * d.n:=by rcases hz with rfl | rfl; exact tn_lt hh; exact tn_lt hu
    refine b5 z ?_ ?_ (fun e => ?_) (fun e => ?_)
    ·rcases hz with rfl | rfl; exact tn_ne (by omega); exact Ne.symm (pm E)
    ·rcases hz with rfl | rfl; exact pm E; exact tn_ne (by omega)
    ·have:=A.hm.inv _ (tn_lt (k := 3) hh); rw [← e] at this
     rcases az with e2 | e2 <;> rw [e2] at this
     ·exact tn_ne (by omega) this
     ·exact pm E this.symm
    ·have:=A.hm.inv _ (tn_lt (k := 1) hu); rw [← e] at this
     rcases az with e2 | e2 <;> rw [e2] at this
     ·exact pm E this
     ·exact tn_ne (by omega) this
  rw [e2 _ (.inl rfl),e2 _ (.inr rfl)]
  exact k1
 have j2:(lA d h u (tn h 3) = tn u 1 → lB d h u (tn h 3) = tn u 1) ∧ (lA d h u (tn h 3) ≠ tn u 1 → lB d h u (tn h 3) = tn h 3 ∧ lB d h u (tn u 1) = tn u 1):=by
  unfold lB Pl.cls
  constructor
  ·intro e; rw [if_pos e]; exact e
  ·intro e; rw [if_neg e]
   obtain ⟨b1,b2,_⟩:=byp_at A.hm (tn_lt hh) (tn_lt hu) (pm E) (A.nf _ (tn_lt (k := 3) hh) (tn_ne (by omega)) (pm E)) (A.nf _ (tn_lt (k := 1) hu) (Ne.symm (pm E)) (tn_ne (by omega))) e
   exact ⟨b1,b2⟩
 have c1:Cls (grp h u) (Orb (phi op (lB d h u))) (if d.m (tn h 2) = tn u 2 then 2 else 1) ∧ ∀ z,grp h u z → grp h u (phi op (lB d h u) z):=by
  by_cases e:d.m (tn h 2) = tn u 2
  ·rw [if_pos e]; exact G1.closed (j1.1 e)
  ·rw [if_neg e]; have := G1.free (j1.2 e).1 (j1.2 e).2; exact ⟨this.1,this.2.1⟩
 have c2:Cls (grp (tn h 1) (tn u 3)) (Orb (phi op (lB d h u))) (if lA d h u (tn h 3) = tn u 1 then 2 else 1) ∧ ∀ z,grp (tn h 1) (tn u 3) z → grp (tn h 1) (tn u 3) (phi op (lB d h u) z):=by
  by_cases e:lA d h u (tn h 3) = tn u 1
  ·rw [if_pos e]; exact G2.closed (by rw [tn12,tn32]; exact j2.1 e)
  ·rw [if_neg e]; have := G2.free (by rw [tn12]; exact (j2.2 e).1) (by rw [tn32]; exact (j2.2 e).2); exact ⟨this.1,this.2.1⟩
 have dis:∀ z,grp h u z → ¬ grp (tn h 1) (tn u 3) z:=by
  unfold grp
  rw [tn12,tn32]
  rintro z (rfl | rfl | rfl | rfl) (e | e | e | e)
  ·exact pmz (by omega) e
  ·exact pm1 E e
  ·exact pmz (by omega) e
  ·exact pm1 E e
  ·exact pm0 E e.symm
  ·exact pmz (by omega) e
  ·exact pm0 E e.symm
  ·exact pmz (by omega) e
  ·exact tn_ne (by omega) e
  ·exact pm E e
  ·exact tn_ne (by omega) e
  ·exact pm E e
  ·exact pm E e.symm
  ·exact tn_ne (by omega) e
  ·exact pm E e.symm
  ·exact tn_ne (by omega) e
 have ha:=Cls.add c1.1 c2.1 (fun x y hx hy e => dis _ (orb_closed (P := grp h u) c1.2 hx e) hy) (fun x y hx hy e => dis _ hx (orb_closed (P := grp (tn h 1) (tn u 3)) c2.2 hy e)) dis
 refine Cls.congr ha (fun z => ?_) (fun _ _ _ _ => Iff.rfl)
 unfold grp Pl.gone
 rw [tn12,tn32,List.mem_cons,List.mem_singleton]
 have hin:(z / 4 = x ∨ z / 4 = y) ↔ z / 4 = h / 4 ∨ z / 4 = u / 4:=by
  rcases hx with ⟨rfl,rfl⟩ | ⟨rfl,rfl⟩
  ·exact Iff.rfl
  ·exact Or.comm
 rw [hin]
 have d0:∀ k,tn h k / 4 = h / 4:=tn_div h
 have d1:∀ k,tn u k / 4 = u / 4:=tn_div u
 constructor
 ·rintro ((rfl | rfl | rfl | rfl) | (rfl | rfl | rfl | rfl))
  ·exact ⟨hh,.inl rfl⟩
  ·exact ⟨hu,.inr rfl⟩
  ·exact ⟨tn_lt hh,.inl (d0 _)⟩
  ·exact ⟨tn_lt hu,.inr (d1 _)⟩
  ·exact ⟨tn_lt hh,.inl (d0 _)⟩
  ·exact ⟨tn_lt hu,.inr (d1 _)⟩
  ·exact ⟨tn_lt hh,.inl (d0 _)⟩
  ·exact ⟨tn_lt hu,.inr (d1 _)⟩
 ·rintro ⟨_,h2 | h2⟩
  ·have:z = h ∨ z = tn h 1 ∨ z = tn h 2 ∨ z = tn h 3:=by unfold tn; omega
   rcases this with e | e | e | e
   ·exact .inl (.inl e)
   ·exact .inr (.inl e)
   ·exact .inl (.inr (.inr (.inl e)))
   ·exact .inr (.inr (.inr (.inl e)))
  ·have:z = u ∨ z = tn u 1 ∨ z = tn u 2 ∨ z = tn u 3:=by unfold tn; omega
   rcases this with e | e | e | e
   ·exact .inl (.inr (.inl e))
   ·exact .inr (.inr (.inr (.inr e)))
   ·exact .inl (.inr (.inr (.inr e)))
   ·exact .inr (.inr (.inl e))
theorem Lens.same (hd:Valid d) (L:Lens d h u) {x y:Nat} (hxy:x < y) (hx:(x = h / 4 ∧ y = u / 4) ∨ (x = u / 4 ∧ y = h / 4)) {mt:List Nat} {lp:Nat} (hl:lp ≤ 64)
 (hlp:lp = d.lp + (if d.m (tn h 2) = tn u 2 then 1 else 0) + (if lA d h u (tn h 3) = tn u 1 then 1 else 0)) (hmt:∀ z,Pl.stay d [x,y] z → mt.getD z 0 = lB d h u z):Same d (rsD d [x,y] mt lp) := by
 intro s s' h1 h2
 have hw:=(Valid.iff.1 hd).1
 have R:=(L.lb hd).rs hw L hxy hx hl hmt
 obtain ⟨ks,e1,_,e2⟩:=R.cls (L.cls hd (h1.all hw)) (L.gone hd hx)
 have:=h2.iff (R.wf hw) e2
 show s + d.lp = s' + lp
 by_cases a1:d.m (tn h 2) = tn u 2 <;> by_cases a2:lA d h u (tn h 3) = tn u 1 <;> simp only [a1,a2,if_true,if_false] at e1 hlp <;> omega
end
end Go.Proofs.YtghdiolnonejaaaGreatDoor.Pl
end
section
namespace Go.Proofs.YtghdiolnonejaaaGreatDoor.Pl
def up (y c:Nat):Nat := if c < y then c else c + 1
end Go.Proofs.YtghdiolnonejaaaGreatDoor.Pl
end
