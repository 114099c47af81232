/-
 The texts Slt, Sgn, Pke, Drp.
-/
import Derived.Test.YtghdiolnonejaaaS01
set_option linter.unusedVariables false
set_option linter.unusedSimpArgs false
section
namespace Go.Proofs.Ytghdiolnonejaaa.Pl
section
variable {S:Nat → Prop} {r a t:Nat → Nat} {h0 h1 h2 p0 p1 p2 u0 u1 u2 v0 v1 v2:Nat}
theorem perm_flip:[u0,u1,u2,v0,v1,v2,h0,h1,h2,p0,p1,p2].Perm [h0,h1,h2,p0,p1,p2,u0,u1,u2,v0,v1,v2] :=
 List.perm_append_comm (l₁ := [u0,u1,u2,v0,v1,v2]) (l₂ := [h0,h1,h2,p0,p1,p2])
theorem Tri.flip (T:Tri S r a t h0 h1 h2 p0 p1 p2 u0 u1 u2 v0 v1 v2):Tri S r (cj t a) t u0 u1 u2 v0 v1 v2 h0 h1 h2 p0 p1 p2 := by
 refine ⟨fun x hx => T.mem x (perm_flip.mem_iff.1 hx),T.rp0,T.rp1,T.rp2,T.rh0,T.rh1,T.rh2,T.rv0,T.rv1,T.rv2,T.ru0,T.ru1,T.ru2,?_,?_,?_,?_,?_,?_,?_,T.th0,T.th1,T.th2,T.tv1,T.tv2,T.tv0,T.tp0,T.tp1,T.tp2,T.tu2,T.tu0,T.tu1,fun x hx => T.tx x (fun h => hx (perm_flip.mem_iff.2 h))⟩
 ·unfold cj; rw [T.tu0,T.ap1,T.th0]
 ·unfold cj; rw [T.tu1,T.ap2,T.th1]
 ·unfold cj; rw [T.tu2,T.ap0,T.th2]
 ·unfold cj; rw [T.tv1,T.ah0,T.tp1]
 ·unfold cj; rw [T.tv2,T.ah1,T.tp2]
 ·unfold cj; rw [T.tv0,T.ah2,T.tp0]
 ·exact perm_flip.nodup_iff.2 T.nd
end
structure Sj (N:Nat) (m f:Nat → Nat) (Ou In:Nat → Prop):Prop where
 lt:∀ x,x < N → m x < N
 inv:∀ x,x < N → m (m x) = x
 fl:∀ x,x < N → f x < N
 ff:∀ x,f (f x) = x
 fO:∀ x,Ou x → In (f x)
 fx:∀ x,¬ Ou x → ¬ In x → f x = x
 fI:∀ x,In x → Ou (f x)
 mI:∀ x,In x → In (m x)
 no:∀ x,Ou x → ¬ In x
variable {N:Nat} {m f:Nat → Nat} {Ou In:Nat → Prop}
theorem Sj.far (h:Sj N m f Ou In) {u:Nat} (hu:u < N) (ho:Ou u) (hm:¬ Ou (m u)):f (m u) = m u :=
 h.fx _ hm (fun hi => h.no u ho (by have := h.mI _ hi; rwa [h.inv u hu] at this))
theorem Sj.step (h:Sj N m f Ou In) {l:List Nat} {k:Nat} (hl:Half N m (cj f m) (fun x => ∃ u,u < k ∧ Ou u ∧ (x = f u ∨ x = f (m u))) l) (hk:k < N) (ho:Ou k) :
 Half N m (cj f m) (fun x => ∃ u,u < k + 1 ∧ Ou u ∧ (x = f u ∨ x = f (m u))) ((l.set (f k) (f (m k))).set (f (m k)) (f k)) := by
 refine (hl.join (h.fl _ hk) (h.fl _ (h.lt _ hk)) (by unfold cj; rw [h.ff]) (by unfold cj; rw [h.ff,h.inv k hk])).mono ?_
 rintro x ⟨u,hu,hou,hx⟩
 by_cases e:u = k
 ·subst e
  exact hx.elim (fun h => .inr (.inl h)) (fun h => .inr (.inr h))
 ·exact .inl ⟨u,by omega,hou,hx⟩
theorem Sj.skip {l:List Nat} {k:Nat} (hl:Half N m (cj f m) (fun x => ∃ u,u < k ∧ Ou u ∧ (x = f u ∨ x = f (m u))) l) (ho:¬ Ou k) :
 Half N m (cj f m) (fun x => ∃ u,u < k + 1 ∧ Ou u ∧ (x = f u ∨ x = f (m u))) l := by
 refine hl.mono ?_
 rintro x ⟨u,hu,hou,hx⟩
 by_cases e:u = k
 ·subst e; exact absurd hou ho
 ·exact ⟨u,by omega,hou,hx⟩
theorem Sj.all (h:Sj N m f Ou In) {l:List Nat} {W:Nat → Prop} (hl:Half N m (cj f m) W l) (hw:∀ u,u < N → Ou u → W (f u) ∧ W (f (m u)) ∧ W u):∀ x,x < N → l.getD x 0 = cj f m x := by
 refine hl.all (fun x hx => ?_)
 by_cases h1:Ou x
 ·exact .inl (hw x hx h1).2.2
 ·by_cases h2:In x
  ·have:=(hw (f x) (h.fl x hx) (h.fI x h2)).1
   rw [h.ff] at this
   exact .inl this
  ·have e:=h.fx x h1 h2
   by_cases h3:Ou (m x)
   ·have:=(hw (m x) (h.lt x hx) h3).2.1
    rw [h.inv x hx,e] at this
    exact .inl this
   ·have h4:¬ In (m x):=fun hi => h2 (by have := h.mI _ hi; rwa [h.inv x hx] at this)
    refine .inr ?_
    unfold cj
    rw [e,h.fx _ h3 h4]
end Go.Proofs.Ytghdiolnonejaaa.Pl
end
section
namespace Go.Proofs.Ytghdiolnonejaaa.Pl
def sm (f:Nat → Int):Nat → Int
 | 0 => 0
 | k + 1 => sm f k + f k
theorem sum_append' (l r:List Int):(l ++ r).sum = l.sum + r.sum := by simp
theorem sum_one (x:Int):[x].sum = x := by simp
theorem left_sum_one (f:Nat → Int) (c:Nat):∀ k,((left k [c]).map f).sum = sm f k - if c < k then f c else 0
 | 0 => by simp [left_zero,sm]
 | k + 1 => by
   rw [left_succ,List.map_append,sum_append',left_sum_one f c k]
   show _ = sm f k + f k - _
   by_cases h:k = c
   ·subst h; simp; try omega
   ·have:([c].contains k) = false:=by simp [h]
    rw [this]
    simp only [Bool.false_eq_true,if_false,List.map_cons,List.map_nil,sum_one]
    by_cases h2:c < k
    ·rw [if_pos h2,if_pos (by omega)]; omega
    ·rw [if_neg h2,if_neg (by omega)]; omega
theorem left_sum_two (f:Nat → Int) {x y:Nat} (hxy:x < y):∀ k,((left k [x,y]).map f).sum = sm f k - (if x < k then f x else 0) - if y < k then f y else 0
 | 0 => by simp [left_zero,sm]
 | k + 1 => by
   rw [left_succ,List.map_append,sum_append',left_sum_two f hxy k]
   show _ = sm f k + f k - _ - _
   by_cases h:k = x
   ·subst h
    have:([k,y].contains k) = true:=by simp
    rw [this]
    simp only [if_true,List.map_nil,List.sum_nil]
    rw [if_neg (Nat.lt_irrefl _),if_pos (Nat.lt_succ_self _),if_neg (by omega),if_neg (by omega)]
    omega
   ·by_cases h3:k = y
    ·subst h3
     have:([x,k].contains k) = true:=by simp
     rw [this]
     simp only [if_true,List.map_nil,List.sum_nil]
     rw [if_pos hxy,if_neg (Nat.lt_irrefl k),if_pos (show x < k + 1 by omega),if_pos (Nat.lt_succ_self k)]
     omega
    ·have:([x,y].contains k) = false:=by simp [h,h3]
     rw [this]
     simp only [Bool.false_eq_true,if_false,List.map_cons,List.map_nil,sum_one]
     by_cases h2:x < k <;> by_cases h4:y < k
     ·rw [if_pos h2,if_pos (show x < k + 1 by omega),if_pos h4,if_pos (show y < k + 1 by omega)]; omega
     ·rw [if_pos h2,if_pos (show x < k + 1 by omega),if_neg h4,if_neg (show ¬ y < k + 1 by omega)]; omega
     ·omega
     ·rw [if_neg h2,if_neg (show ¬ x < k + 1 by omega),if_neg h4,if_neg (show ¬ y < k + 1 by omega)]; omega
theorem sm_list (l:List Int):sm (fun c => l.getD c 0) l.length = l.sum := by
 have key:∀ (l:List Int) (k:Nat),k ≤ l.length → sm (fun c => l.getD c 0) k = (l.take k).sum:=by
  intro l k
  induction k with
  | zero => intro _; rfl
  | succ k ih =>
    intro h
    show sm _ k + l.getD k 0 = _
    rw [ih (by omega),List.take_add_one,List.getElem?_eq_getElem (by omega),sum_append',List.getD_eq_getElem?_getD,List.getElem?_eq_getElem (by omega)]
    simp
 rw [key l l.length (Nat.le_refl _),List.take_length]
theorem shrS_one (sg:List Int) {c:Nat} (h:c < sg.length):(shrS [c] sg).sum = sg.sum - sg.getD c 0 := by
 unfold shrS
 rw [left_sum_one,if_pos h,sm_list]
theorem shrS_two (sg:List Int) {x y:Nat} (hxy:x < y) (h:y < sg.length):(shrS [x,y] sg).sum = sg.sum - sg.getD x 0 - sg.getD y 0 := by
 unfold shrS
 rw [left_sum_two _ hxy,if_pos (by omega),if_pos h,sm_list]
theorem lens_signs {d:Dg} (hd:Wf d) {h:Nat} (hh:h < 4 * d.n) (hg:nx d (nx d h) = h) (hp:h % 2 = d.m h % 2):d.s (h / 4) + d.s (nx d h / 4) = 0 := by
 have hm:=hd.lt h hh
 have w1:=hd.way h hh
 have hgl:nx d h < 4 * d.n:=tn_lt hm
 have w2:=hd.way (nx d h) hgl
 have s1:=hd.sign (h / 4) (by omega)
 have s2:=hd.sign (d.m h / 4) (by omega)
 have e1:d.m (nx d h) / 4 = h / 4:=by
  have:=congrArg (· / 4) hg
  simp only [nx,tn_div] at this
  exact this
 have e2:d.m (nx d h) % 4 = (h % 4 + 1) % 4:=by
  have:=congrArg (· % 4) hg
  unfold nx at this
  simp only [tn_mod] at this
  rw [← this]
  unfold nx
  omega
 have e3:nx d h / 4 = d.m h / 4:=by unfold nx; rw [tn_div]
 have e4:nx d h % 4 = (d.m h % 4 + 3) % 4:=by unfold nx; rw [tn_mod]
 rw [e3]
 unfold out at w1 w2
 rw [e1,e2,e3,e4] at w2
 generalize d.s (h / 4) = s at *
 generalize d.s (d.m h / 4) = t at *
 have ha:h % 4 = 0 ∨ h % 4 = 1 ∨ h % 4 = 2 ∨ h % 4 = 3:=by omega
 have hb:d.m h % 4 = 0 ∨ d.m h % 4 = 1 ∨ d.m h % 4 = 2 ∨ d.m h % 4 = 3:=by omega
 rcases ha with a | a | a | a <;> rcases hb with b | b | b | b <;> (first | (exfalso; omega) | skip) <;> rw [a,b] at w1 w2 <;> rcases s1 with rfl | rfl <;> rcases s2 with rfl | rfl <;> simp at w1 w2 ⊢
end Go.Proofs.Ytghdiolnonejaaa.Pl
end
section
namespace Go.Proofs.Ytghdiolnonejaaa.Pl
section
variable {d d':Dg} {f g:Nat} {fx fy:Bool}
theorem Pd.l0 (hd:Valid d) (K:Pd d d' f g fx fy):(pkL0 d f g).length = 4 * (d.n + 2) ∧ (pkL0 d f g).getD (pp d.n f 0) 0 = pp (d.n + 1) g 2 ∧ (pkL0 d f g).getD (pp d.n f 1) 0 = pp (d.n + 1) g 1 ∧ ∀ z,z < 4 * d.n → (pkL0 d f g).getD z 0 = d.m z := by
 have B:=K.base hd
 have hw:=(Valid.iff.1 hd).1
 refine ⟨B.ms.len,?_,?_,fun z hz => ?_⟩
 ·rw [B.ms.at_ _ (by unfold pp; omega) (by rw [B.b4]; unfold pp; omega),B.b4]
 ·rw [B.ms.at_ _ (by unfold pp; omega) (by rw [B.b1]; unfold pp; omega),B.b1]
 ·rw [B.ms.at_ z (by omega) (by rw [B.old z hz]; exact hw.ne z hz),B.old z hz]
theorem Pd.out_loops (hd:Valid d) (K:Pd d d' f g fx fy) (hv:Valid d') (hl:d'.mt = jl (jl (pkL0 d f g) (pp (d.n + 1) g 0) (pp d.n f 2)) (pp d.n f 3) (pp (d.n + 1) g 3)):Out d d' f g 1 1 := by
 have hw:=(Valid.iff.1 hd).1
 have hw':=(Valid.iff.1 hv).1
 obtain ⟨ln,l0,l1,lo⟩:=K.l0 hd
 have e:∀ z,z < 4 * (d.n + 2) → d'.m z = if z = (pp (d.n + 1) g 3) then (pp d.n f 3) else if z = (pp d.n f 3) then (pp (d.n + 1) g 3) else if z = (pp d.n f 2) then (pp (d.n + 1) g 0) else if z = (pp (d.n + 1) g 0) then (pp d.n f 2) else (pkL0 d f g).getD z 0:=fun z hz => by
  rw [← dg_m hw' (by rw [K.n]; exact hz),hl,jl_at (by simp only [jl_len,ln,pp]; omega) (by simp only [jl_len,ln,pp]; omega),jl_at (by simp only [jl_len,ln,pp]; omega) (by simp only [jl_len,ln,pp]; omega)]
 have m0:d'.m (pp d.n f 0) = (pp (d.n + 1) g 2):=by rw [e _ (by unfold pp; omega),if_neg (by unfold pp; omega),if_neg (by unfold pp; omega),if_neg (by unfold pp; omega),if_neg (by unfold pp; omega),l0]
 have m1:d'.m (pp d.n f 1) = (pp (d.n + 1) g 1):=by rw [e _ (by unfold pp; omega),if_neg (by unfold pp; omega),if_neg (by unfold pp; omega),if_neg (by unfold pp; omega),if_neg (by unfold pp; omega),l1]
 have v2:d'.m (pp d.n f 2) = (pp (d.n + 1) g 0):=by rw [e _ (by unfold pp; omega),if_neg (by unfold pp; omega),if_neg (by unfold pp; omega),if_pos rfl]
 have v0:d'.m (pp (d.n + 1) g 0) = (pp d.n f 2):=by rw [e _ (by unfold pp; omega),if_neg (by unfold pp; omega),if_neg (by unfold pp; omega),if_neg (by unfold pp; omega),if_pos rfl]
 have v3:d'.m (pp d.n f 3) = (pp (d.n + 1) g 3):=by rw [e _ (by unfold pp; omega),if_neg (by unfold pp; omega),if_pos rfl]
 have w3:d'.m (pp (d.n + 1) g 3) = (pp d.n f 3):=by rw [e _ (by unfold pp; omega),if_pos rfl]
 have old:∀ z,z < 4 * d.n → d'.m z = d.m z:=fun z hz => by rw [e z (by omega),if_neg (by unfold pp; omega),if_neg (by unfold pp; omega),if_neg (by unfold pp; omega),if_neg (by unfold pp; omega),lo z hz]
 exact (show In d d' f g from ⟨K.n,hv,m0,m1⟩).loops v2 v3 old
theorem Pd.out_xedge (hd:Valid d) (K:Pd d d' f g fx fy) (hv:Valid d') {x:Nat} (hx:x < 4 * d.n) (hl:d'.mt = jl (jl (jl (pkL0 d f g) (pp (d.n + 1) g 0) (pp d.n f 2)) x (pp d.n f 3)) (pp (d.n + 1) g 3) (d.m x)):Out d d' f g 1 0 := by
 have hw:=(Valid.iff.1 hd).1
 have hw':=(Valid.iff.1 hv).1
 obtain ⟨ln,l0,l1,lo⟩:=K.l0 hd
 have hmx:=hw.lt x hx
 have hnex:=hw.ne x hx
 have e:∀ z,z < 4 * (d.n + 2) → d'.m z = if z = (d.m x) then (pp (d.n + 1) g 3) else if z = (pp (d.n + 1) g 3) then (d.m x) else if z = (pp d.n f 3) then x else if z = x then (pp d.n f 3) else if z = (pp d.n f 2) then (pp (d.n + 1) g 0) else if z = (pp (d.n + 1) g 0) then (pp d.n f 2) else (pkL0 d f g).getD z 0:=fun z hz => by
  rw [← dg_m hw' (by rw [K.n]; exact hz),hl,jl_at (by simp only [jl_len,ln,pp]; omega) (by simp only [jl_len,ln,pp]; omega),jl_at (by simp only [jl_len,ln,pp]; omega) (by simp only [jl_len,ln,pp]; omega),jl_at (by simp only [jl_len,ln,pp]; omega) (by simp only [jl_len,ln,pp]; omega)]
 have m0:d'.m (pp d.n f 0) = (pp (d.n + 1) g 2):=by rw [e _ (by unfold pp; omega),if_neg (by unfold pp; omega),if_neg (by unfold pp; omega),if_neg (by unfold pp; omega),if_neg (by unfold pp; omega),if_neg (by unfold pp; omega),if_neg (by unfold pp; omega),l0]
 have m1:d'.m (pp d.n f 1) = (pp (d.n + 1) g 1):=by rw [e _ (by unfold pp; omega),if_neg (by unfold pp; omega),if_neg (by unfold pp; omega),if_neg (by unfold pp; omega),if_neg (by unfold pp; omega),if_neg (by unfold pp; omega),if_neg (by unfold pp; omega),l1]
 have v2:d'.m (pp d.n f 2) = (pp (d.n + 1) g 0):=by rw [e _ (by unfold pp; omega),if_neg (by unfold pp; omega),if_neg (by unfold pp; omega),if_neg (by unfold pp; omega),if_neg (by unfold pp; omega),if_pos rfl]
 have v0:d'.m (pp (d.n + 1) g 0) = (pp d.n f 2):=by rw [e _ (by unfold pp; omega),if_neg (by unfold pp; omega),if_neg (by unfold pp; omega),if_neg (by unfold pp; omega),if_neg (by unfold pp; omega),if_neg (by unfold pp; omega),if_pos rfl]
 have v3:d'.m (pp d.n f 3) = x:=by rw [e _ (by unfold pp; omega),if_neg (by unfold pp; omega),if_neg (by unfold pp; omega),if_pos rfl]
 have w3:d'.m (pp (d.n + 1) g 3) = (d.m x):=by rw [e _ (by unfold pp; omega),if_neg (by unfold pp; omega),if_pos rfl]
 have old:∀ z,z < 4 * d.n → z ≠ x → z ≠ d.m x → d'.m z = d.m z:=fun z hz z1 z2 => by rw [e z (by omega),if_neg z2,if_neg (by unfold pp; omega),if_neg (by unfold pp; omega),if_neg z1,if_neg (by unfold pp; omega),if_neg (by unfold pp; omega),lo z hz]
 exact (show In d d' f g from ⟨K.n,hv,m0,m1⟩).xedge hw hx v2 v3 w3 old
theorem Pd.out_yedge (hd:Valid d) (K:Pd d d' f g fx fy) (hv:Valid d') {y:Nat} (hy:y < 4 * d.n) (hl:d'.mt = jl (jl (jl (pkL0 d f g) y (pp (d.n + 1) g 0)) (pp d.n f 2) (d.m y)) (pp d.n f 3) (pp (d.n + 1) g 3)):Out d d' f g 0 1 := by
 have hw:=(Valid.iff.1 hd).1
 have hw':=(Valid.iff.1 hv).1
 obtain ⟨ln,l0,l1,lo⟩:=K.l0 hd
 have hmy:=hw.lt y hy
 have hney:=hw.ne y hy
 have e:∀ z,z < 4 * (d.n + 2) → d'.m z = if z = (pp (d.n + 1) g 3) then (pp d.n f 3) else if z = (pp d.n f 3) then (pp (d.n + 1) g 3) else if z = (d.m y) then (pp d.n f 2) else if z = (pp d.n f 2) then (d.m y) else if z = (pp (d.n + 1) g 0) then y else if z = y then (pp (d.n + 1) g 0) else (pkL0 d f g).getD z 0:=fun z hz => by
  rw [← dg_m hw' (by rw [K.n]; exact hz),hl,jl_at (by simp only [jl_len,ln,pp]; omega) (by simp only [jl_len,ln,pp]; omega),jl_at (by simp only [jl_len,ln,pp]; omega) (by simp only [jl_len,ln,pp]; omega),jl_at (by simp only [jl_len,ln,pp]; omega) (by simp only [jl_len,ln,pp]; omega)]
 have m0:d'.m (pp d.n f 0) = (pp (d.n + 1) g 2):=by rw [e _ (by unfold pp; omega),if_neg (by unfold pp; omega),if_neg (by unfold pp; omega),if_neg (by unfold pp; omega),if_neg (by unfold pp; omega),if_neg (by unfold pp; omega),if_neg (by unfold pp; omega),l0]
 have m1:d'.m (pp d.n f 1) = (pp (d.n + 1) g 1):=by rw [e _ (by unfold pp; omega),if_neg (by unfold pp; omega),if_neg (by unfold pp; omega),if_neg (by unfold pp; omega),if_neg (by unfold pp; omega),if_neg (by unfold pp; omega),if_neg (by unfold pp; omega),l1]
 have v2:d'.m (pp d.n f 2) = (d.m y):=by rw [e _ (by unfold pp; omega),if_neg (by unfold pp; omega),if_neg (by unfold pp; omega),if_neg (by unfold pp; omega),if_pos rfl]
 have v0:d'.m (pp (d.n + 1) g 0) = y:=by rw [e _ (by unfold pp; omega),if_neg (by unfold pp; omega),if_neg (by unfold pp; omega),if_neg (by unfold pp; omega),if_neg (by unfold pp; omega),if_pos rfl]
 have v3:d'.m (pp d.n f 3) = (pp (d.n + 1) g 3):=by rw [e _ (by unfold pp; omega),if_neg (by unfold pp; omega),if_pos rfl]
 have w3:d'.m (pp (d.n + 1) g 3) = (pp d.n f 3):=by rw [e _ (by unfold pp; omega),if_pos rfl]
 have old:∀ z,z < 4 * d.n → z ≠ y → z ≠ d.m y → d'.m z = d.m z:=fun z hz z1 z2 => by rw [e z (by omega),if_neg (by unfold pp; omega),if_neg (by unfold pp; omega),if_neg z2,if_neg (by unfold pp; omega),if_neg (by unfold pp; omega),if_neg z1,lo z hz]
 exact (show In d d' f g from ⟨K.n,hv,m0,m1⟩).yedge hw hy v2 v0 v3 old
theorem Pd.out_edges (hd:Valid d) (K:Pd d d' f g fx fy) (hv:Valid d') {x:Nat} (hx:x < 4 * d.n) {y:Nat} (hy:y < 4 * d.n) (xy:x ≠ y) (xm:d.m x ≠ y) (hl:d'.mt = jl (jl (jl (jl (pkL0 d f g) y (pp (d.n + 1) g 0)) (pp d.n f 2) (d.m y)) x (pp d.n f 3)) (pp (d.n + 1) g 3) (d.m x)):Out d d' f g 0 0 := by
 have hw:=(Valid.iff.1 hd).1
 have hw':=(Valid.iff.1 hv).1
 obtain ⟨ln,l0,l1,lo⟩:=K.l0 hd
 have hmx:=hw.lt x hx
 have hnex:=hw.ne x hx
 have hmy:=hw.lt y hy
 have hney:=hw.ne y hy
 have ym:d.m y ≠ x:=fun e => xm (by rw [← e,hw.inv y hy])
 have mm:d.m x ≠ d.m y:=fun e => xy (hw.bij.inj _ _ hx hy e)
 have e:∀ z,z < 4 * (d.n + 2) → d'.m z = if z = (d.m x) then (pp (d.n + 1) g 3) else if z = (pp (d.n + 1) g 3) then (d.m x) else if z = (pp d.n f 3) then x else if z = x then (pp d.n f 3) else if z = (d.m y) then (pp d.n f 2) else if z = (pp d.n f 2) then (d.m y) else if z = (pp (d.n + 1) g 0) then y else if z = y then (pp (d.n + 1) g 0) else (pkL0 d f g).getD z 0:=fun z hz => by
  rw [← dg_m hw' (by rw [K.n]; exact hz),hl,jl_at (by simp only [jl_len,ln,pp]; omega) (by simp only [jl_len,ln,pp]; omega),jl_at (by simp only [jl_len,ln,pp]; omega) (by simp only [jl_len,ln,pp]; omega),jl_at (by simp only [jl_len,ln,pp]; omega) (by simp only [jl_len,ln,pp]; omega),jl_at (by simp only [jl_len,ln,pp]; omega) (by simp only [jl_len,ln,pp]; omega)]
 have m0:d'.m (pp d.n f 0) = (pp (d.n + 1) g 2):=by rw [e _ (by unfold pp; omega),if_neg (by unfold pp; omega),if_neg (by unfold pp; omega),if_neg (by unfold pp; omega),if_neg (by unfold pp; omega),if_neg (by unfold pp; omega),if_neg (by unfold pp; omega),if_neg (by unfold pp; omega),if_neg (by unfold pp; omega),l0]
 have m1:d'.m (pp d.n f 1) = (pp (d.n + 1) g 1):=by rw [e _ (by unfold pp; omega),if_neg (by unfold pp; omega),if_neg (by unfold pp; omega),if_neg (by unfold pp; omega),if_neg (by unfold pp; omega),if_neg (by unfold pp; omega),if_neg (by unfold pp; omega),if_neg (by unfold pp; omega),if_neg (by unfold pp; omega),l1]
 have v2:d'.m (pp d.n f 2) = (d.m y):=by rw [e _ (by unfold pp; omega),if_neg (by unfold pp; omega),if_neg (by unfold pp; omega),if_neg (by unfold pp; omega),if_neg (by unfold pp; omega),if_neg (by unfold pp; omega),if_pos rfl]
 have v0:d'.m (pp (d.n + 1) g 0) = y:=by rw [e _ (by unfold pp; omega),if_neg (by unfold pp; omega),if_neg (by unfold pp; omega),if_neg (by unfold pp; omega),if_neg (by unfold pp; omega),if_neg (by unfold pp; omega),if_neg (by unfold pp; omega),if_pos rfl]
 have v3:d'.m (pp d.n f 3) = x:=by rw [e _ (by unfold pp; omega),if_neg (by unfold pp; omega),if_neg (by unfold pp; omega),if_pos rfl]
 have w3:d'.m (pp (d.n + 1) g 3) = (d.m x):=by rw [e _ (by unfold pp; omega),if_neg (by unfold pp; omega),if_pos rfl]
 have old:∀ z,z < 4 * d.n → z ≠ x → z ≠ d.m x → z ≠ y → z ≠ d.m y → d'.m z = d.m z:=fun z hz z1 z2 z3 z4 => by rw [e z (by omega),if_neg z2,if_neg (by unfold pp; omega),if_neg (by unfold pp; omega),if_neg z1,if_neg z4,if_neg (by unfold pp; omega),if_neg (by unfold pp; omega),if_neg z3,lo z hz]
 exact (show In d d' f g from ⟨K.n,hv,m0,m1⟩).edges hw hx hy xy xm v2 v0 v3 w3 old
theorem Pd.out_self0 (hd:Valid d) (K:Pd d d' f g fx fy) (hv:Valid d') (hl:d'.mt = jl (jl (pkL0 d f g) (pp (d.n + 1) g 3) (pp (d.n + 1) g 0)) (pp d.n f 2) (pp d.n f 3)):Out d d' f g 0 1 := by
 have hw:=(Valid.iff.1 hd).1
 have hw':=(Valid.iff.1 hv).1
 obtain ⟨ln,l0,l1,lo⟩:=K.l0 hd
 have e:∀ z,z < 4 * (d.n + 2) → d'.m z = if z = (pp d.n f 3) then (pp d.n f 2) else if z = (pp d.n f 2) then (pp d.n f 3) else if z = (pp (d.n + 1) g 0) then (pp (d.n + 1) g 3) else if z = (pp (d.n + 1) g 3) then (pp (d.n + 1) g 0) else (pkL0 d f g).getD z 0:=fun z hz => by
  rw [← dg_m hw' (by rw [K.n]; exact hz),hl,jl_at (by simp only [jl_len,ln,pp]; omega) (by simp only [jl_len,ln,pp]; omega),jl_at (by simp only [jl_len,ln,pp]; omega) (by simp only [jl_len,ln,pp]; omega)]
 have m0:d'.m (pp d.n f 0) = (pp (d.n + 1) g 2):=by rw [e _ (by unfold pp; omega),if_neg (by unfold pp; omega),if_neg (by unfold pp; omega),if_neg (by unfold pp; omega),if_neg (by unfold pp; omega),l0]
 have m1:d'.m (pp d.n f 1) = (pp (d.n + 1) g 1):=by rw [e _ (by unfold pp; omega),if_neg (by unfold pp; omega),if_neg (by unfold pp; omega),if_neg (by unfold pp; omega),if_neg (by unfold pp; omega),l1]
 have v2:d'.m (pp d.n f 2) = (pp d.n f 3):=by rw [e _ (by unfold pp; omega),if_neg (by unfold pp; omega),if_pos rfl]
 have v0:d'.m (pp (d.n + 1) g 0) = (pp (d.n + 1) g 3):=by rw [e _ (by unfold pp; omega),if_neg (by unfold pp; omega),if_neg (by unfold pp; omega),if_pos rfl]
 have v3:d'.m (pp d.n f 3) = (pp d.n f 2):=by rw [e _ (by unfold pp; omega),if_pos rfl]
 have w3:d'.m (pp (d.n + 1) g 3) = (pp (d.n + 1) g 0):=by rw [e _ (by unfold pp; omega),if_neg (by unfold pp; omega),if_neg (by unfold pp; omega),if_neg (by unfold pp; omega),if_pos rfl]
 have old:∀ z,z < 4 * d.n → d'.m z = d.m z:=fun z hz => by rw [e z (by omega),if_neg (by unfold pp; omega),if_neg (by unfold pp; omega),if_neg (by unfold pp; omega),if_neg (by unfold pp; omega),lo z hz]
 exact (show In d d' f g from ⟨K.n,hv,m0,m1⟩).self0 v2 v0 old
theorem Pd.out_self1 (hd:Valid d) (K:Pd d d' f g fx fy) (hv:Valid d') {x:Nat} (hx:x < 4 * d.n) (hl:d'.mt = jl (jl (jl (pkL0 d f g) x (pp d.n f 3)) (pp (d.n + 1) g 3) (pp (d.n + 1) g 0)) (pp d.n f 2) (d.m x)):Out d d' f g 0 0 := by
 have hw:=(Valid.iff.1 hd).1
 have hw':=(Valid.iff.1 hv).1
 obtain ⟨ln,l0,l1,lo⟩:=K.l0 hd
 have hmx:=hw.lt x hx
 have hnex:=hw.ne x hx
 have e:∀ z,z < 4 * (d.n + 2) → d'.m z = if z = (d.m x) then (pp d.n f 2) else if z = (pp d.n f 2) then (d.m x) else if z = (pp (d.n + 1) g 0) then (pp (d.n + 1) g 3) else if z = (pp (d.n + 1) g 3) then (pp (d.n + 1) g 0) else if z = (pp d.n f 3) then x else if z = x then (pp d.n f 3) else (pkL0 d f g).getD z 0:=fun z hz => by
  rw [← dg_m hw' (by rw [K.n]; exact hz),hl,jl_at (by simp only [jl_len,ln,pp]; omega) (by simp only [jl_len,ln,pp]; omega),jl_at (by simp only [jl_len,ln,pp]; omega) (by simp only [jl_len,ln,pp]; omega),jl_at (by simp only [jl_len,ln,pp]; omega) (by simp only [jl_len,ln,pp]; omega)]
 have m0:d'.m (pp d.n f 0) = (pp (d.n + 1) g 2):=by rw [e _ (by unfold pp; omega),if_neg (by unfold pp; omega),if_neg (by unfold pp; omega),if_neg (by unfold pp; omega),if_neg (by unfold pp; omega),if_neg (by unfold pp; omega),if_neg (by unfold pp; omega),l0]
 have m1:d'.m (pp d.n f 1) = (pp (d.n + 1) g 1):=by rw [e _ (by unfold pp; omega),if_neg (by unfold pp; omega),if_neg (by unfold pp; omega),if_neg (by unfold pp; omega),if_neg (by unfold pp; omega),if_neg (by unfold pp; omega),if_neg (by unfold pp; omega),l1]
 have v2:d'.m (pp d.n f 2) = (d.m x):=by rw [e _ (by unfold pp; omega),if_neg (by unfold pp; omega),if_pos rfl]
 have v0:d'.m (pp (d.n + 1) g 0) = (pp (d.n + 1) g 3):=by rw [e _ (by unfold pp; omega),if_neg (by unfold pp; omega),if_neg (by unfold pp; omega),if_pos rfl]
 have v3:d'.m (pp d.n f 3) = x:=by rw [e _ (by unfold pp; omega),if_neg (by unfold pp; omega),if_neg (by unfold pp; omega),if_neg (by unfold pp; omega),if_neg (by unfold pp; omega),if_pos rfl]
 have w3:d'.m (pp (d.n + 1) g 3) = (pp (d.n + 1) g 0):=by rw [e _ (by unfold pp; omega),if_neg (by unfold pp; omega),if_neg (by unfold pp; omega),if_neg (by unfold pp; omega),if_pos rfl]
 have old:∀ z,z < 4 * d.n → z ≠ x → z ≠ d.m x → d'.m z = d.m z:=fun z hz z1 z2 => by rw [e z (by omega),if_neg z2,if_neg (by unfold pp; omega),if_neg (by unfold pp; omega),if_neg (by unfold pp; omega),if_neg (by unfold pp; omega),if_neg z1,lo z hz]
 exact (show In d d' f g from ⟨K.n,hv,m0,m1⟩).self1 hw hx v2 v0 v3 old
theorem Pd.out_self2 (hd:Valid d) (K:Pd d d' f g fx fy) (hv:Valid d') {x:Nat} (hx:x < 4 * d.n) (hl:d'.mt = jl (jl (jl (pkL0 d f g) x (pp (d.n + 1) g 0)) (pp d.n f 2) (pp d.n f 3)) (pp (d.n + 1) g 3) (d.m x)):Out d d' f g 0 0 := by
 have hw:=(Valid.iff.1 hd).1
 have hw':=(Valid.iff.1 hv).1
 obtain ⟨ln,l0,l1,lo⟩:=K.l0 hd
 have hmx:=hw.lt x hx
 have hnex:=hw.ne x hx
 have e:∀ z,z < 4 * (d.n + 2) → d'.m z = if z = (d.m x) then (pp (d.n + 1) g 3) else if z = (pp (d.n + 1) g 3) then (d.m x) else if z = (pp d.n f 3) then (pp d.n f 2) else if z = (pp d.n f 2) then (pp d.n f 3) else if z = (pp (d.n + 1) g 0) then x else if z = x then (pp (d.n + 1) g 0) else (pkL0 d f g).getD z 0:=fun z hz => by
  rw [← dg_m hw' (by rw [K.n]; exact hz),hl,jl_at (by simp only [jl_len,ln,pp]; omega) (by simp only [jl_len,ln,pp]; omega),jl_at (by simp only [jl_len,ln,pp]; omega) (by simp only [jl_len,ln,pp]; omega),jl_at (by simp only [jl_len,ln,pp]; omega) (by simp only [jl_len,ln,pp]; omega)]
 have m0:d'.m (pp d.n f 0) = (pp (d.n + 1) g 2):=by rw [e _ (by unfold pp; omega),if_neg (by unfold pp; omega),if_neg (by unfold pp; omega),if_neg (by unfold pp; omega),if_neg (by unfold pp; omega),if_neg (by unfold pp; omega),if_neg (by unfold pp; omega),l0]
 have m1:d'.m (pp d.n f 1) = (pp (d.n + 1) g 1):=by rw [e _ (by unfold pp; omega),if_neg (by unfold pp; omega),if_neg (by unfold pp; omega),if_neg (by unfold pp; omega),if_neg (by unfold pp; omega),if_neg (by unfold pp; omega),if_neg (by unfold pp; omega),l1]
 have v2:d'.m (pp d.n f 2) = (pp d.n f 3):=by rw [e _ (by unfold pp; omega),if_neg (by unfold pp; omega),if_neg (by unfold pp; omega),if_neg (by unfold pp; omega),if_pos rfl]
 have v0:d'.m (pp (d.n + 1) g 0) = x:=by rw [e _ (by unfold pp; omega),if_neg (by unfold pp; omega),if_neg (by unfold pp; omega),if_neg (by unfold pp; omega),if_neg (by unfold pp; omega),if_pos rfl]
 have v3:d'.m (pp d.n f 3) = (pp d.n f 2):=by rw [e _ (by unfold pp; omega),if_neg (by unfold pp; omega),if_neg (by unfold pp; omega),if_pos rfl]
 have w3:d'.m (pp (d.n + 1) g 3) = (d.m x):=by rw [e _ (by unfold pp; omega),if_neg (by unfold pp; omega),if_pos rfl]
 have old:∀ z,z < 4 * d.n → z ≠ x → z ≠ d.m x → d'.m z = d.m z:=fun z hz z1 z2 => by rw [e z (by omega),if_neg z2,if_neg (by unfold pp; omega),if_neg (by unfold pp; omega),if_neg (by unfold pp; omega),if_neg (by unfold pp; omega),if_neg z1,lo z hz]
 exact (show In d d' f g from ⟨K.n,hv,m0,m1⟩).self2 hw hx v2 v0 w3 old
end
end Go.Proofs.Ytghdiolnonejaaa.Pl
end
section
namespace Go.Proofs.Ytghdiolnonejaaa.Pl
theorem shf_two {x y h:Nat} (hxy:x < y):shf [x] (shf [y] h) = shf [x,y] h := by
 rw [shf_one,shf_one]
 unfold shf
 by_cases a:x < h / 4 <;> by_cases b:y < h / 4 <;> simp [List.filter_cons,a,b] <;> (try split) <;> omega
def up (y c:Nat):Nat := if c < y then c else c + 1
theorem mem_left {n c:Nat} {gs:List Nat} (h:c ∈ left n gs):c < n := by
 unfold left at h
 exact List.mem_range.1 (List.mem_filter.1 h).1
theorem map_up_lt {l:List Nat} {y:Nat} (h:∀ c,c ∈ l → c < y):l.map (up y) = l := by
 conv => rhs; rw [← List.map_id l]
 exact List.map_congr_left fun c hc => by unfold up; rw [if_pos (h c hc)]; rfl
theorem left_up {y:Nat}:∀ n,y ≤ n → left (n + 1) [y] = (List.range n).map (up y)
 | 0, h => by
   obtain rfl:y = 0 := by omega
   rfl
 | n + 1, h => by
   rcases Nat.lt_or_ge n y with q | q
   ·obtain rfl:y = n + 1 := by omega
    rw [left_succ,map_up_lt (fun c hc => List.mem_range.1 hc),left_none (fun k hk => by simp; omega)]
    simp
   ·rw [left_succ,left_up n q,List.range_succ (n := n),List.map_append]
    have e:([y]:List Nat).contains (n + 1) = false:=by simp; omega
    rw [e]
    simp only [Bool.false_eq_true,if_false,List.map_cons,List.map_nil]
    unfold up
    rw [if_neg (by omega)]
theorem left_up2 {x y:Nat} (hxy:x < y):∀ n,y ≤ n → left (n + 1) [x,y] = (left n [x]).map (up y)
 | 0,h => by omega
 | n + 1, h => by
   rcases Nat.lt_or_ge n y with q | q
   ·obtain rfl:y = n + 1 := by omega
    rw [left_succ,map_up_lt (fun c hc => mem_left hc)]
    have e:([x,n + 1]:List Nat).contains (n + 1) = true:=by simp
    rw [e]
    simp only [if_true,List.append_nil]
    unfold left
    exact List.filter_congr fun c hc => by
     have:=List.mem_range.1 hc
     have e2:([x,n + 1]:List Nat).contains c = ([x]:List Nat).contains c:=by
      rw [Bool.eq_iff_iff]; simp; omega
     rw [e2]
   ·rw [left_succ,left_up2 hxy n q,left_succ (n := n),List.map_append]
    have e:([x,y]:List Nat).contains (n + 1) = false:=by simp; omega
    have e2:([x]:List Nat).contains n = false:=by simp; omega
    rw [e,e2]
    simp only [Bool.false_eq_true,if_false,List.map_cons,List.map_nil]
    unfold up
    rw [if_neg (show ¬ n < y by omega)]
theorem flat_get (f:Nat → Nat):∀ (l:List Nat) (c i:Nat),i < 4 → (h:c < l.length) → (l.flatMap (four f)).getD (4 * c + i) 0 = f (4 * l[c] + i)
 | [],c,i,_,h => absurd h (Nat.not_lt_zero c)
 | a :: l, 0, i, hi, h => by
   rw [List.flatMap_cons,List.getD_eq_getElem?_getD,List.getElem?_append_left (by simp [four]; omega)]
   have:i = 0 ∨ i = 1 ∨ i = 2 ∨ i = 3:=by omega
   rcases this with rfl | rfl | rfl | rfl <;> simp [four]
 | a :: l, c + 1, i, hi, h => by
   have ih:=flat_get f l c i hi (by simpa using h)
   rw [List.getD_eq_getElem?_getD] at ih
   rw [List.flatMap_cons,List.getD_eq_getElem?_getD,List.getElem?_append_right (by simp [four]; omega)]
   rw [show 4 * (c + 1) + i - (four f a).length = 4 * c + i by simp [four]; omega,ih]
   simp
theorem drop2_S {sg:List Int} {x y:Nat} (hxy:x < y) (hy:y < sg.length):shrS [x] (shrS [y] sg) = shrS [x,y] sg := by
 obtain ⟨n,hn⟩:∃ n,sg.length = n + 1 := ⟨sg.length - 1,by omega⟩
 have e1:shrS [y] sg = (List.range n).map (fun c => sg.getD (up y c) 0):=by
  unfold shrS
  rw [hn,left_up n (by omega),List.map_map]; rfl
 rw [e1]
 unfold shrS
 rw [hn,left_up2 hxy n (by omega),List.map_map,List.length_map,List.length_range]
 refine List.map_congr_left fun c hc => ?_
 have:=mem_left hc
 show ((List.range n).map (fun c => sg.getD (up y c) 0)).getD c 0 = sg.getD (up y c) 0
 rw [List.getD_eq_getElem?_getD,List.getElem?_map,List.getElem?_range this]
 rfl
theorem drop2_M {mt:List Nat} {n x y:Nat} (hxy:x < y) (hy:y ≤ n):shrM [x] n (shrM [y] (n + 1) mt) = shrM [x,y] (n + 1) mt := by
 obtain ⟨M,hM⟩:∃ M,M = shrM [y] (n + 1) mt := ⟨_,rfl⟩
 have g:∀ c,c < n → ∀ i,i < 4 → shf [x] (M.getD (4 * c + i) 0) = shf [x,y] (mt.getD (4 * up y c + i) 0):=fun c hc i hi => by
  rw [hM]
  unfold shrM
  rw [left_up n hy,flat_get _ _ c i hi (by simpa using hc),shf_two hxy]
  simp
 rw [← hM]
 unfold shrM
 rw [left_up2 hxy n hy]
 have key:∀ l:List Nat,(∀ c,c ∈ l → c < n) → l.flatMap (four (fun h => shf [x] (M.getD h 0))) = (l.map (up y)).flatMap (four (fun h => shf [x,y] (mt.getD h 0))):=by
  intro l
  induction l with
  | nil => intro _; rfl
  | cons c l ih =>
    intro h
    have hc:=h c (by simp)
    rw [List.map_cons,List.flatMap_cons,List.flatMap_cons,ih (fun c hc => h c (by simp [hc]))]
    congr 1
    have g0:=g c hc 0 (by omega)
    rw [Nat.add_zero,Nat.add_zero] at g0
    show [shf [x] (M.getD (4 * c) 0),shf [x] (M.getD (4 * c + 1) 0),shf [x] (M.getD (4 * c + 2) 0),shf [x] (M.getD (4 * c + 3) 0)] = [shf [x,y] (mt.getD (4 * up y c) 0),shf [x,y] (mt.getD (4 * up y c + 1) 0),shf [x,y] (mt.getD (4 * up y c + 2) 0),shf [x,y] (mt.getD (4 * up y c + 3) 0)]
    rw [g0,g c hc 1 (by omega),g c hc 2 (by omega),g c hc 3 (by omega)]
 exact key _ (fun c hc => mem_left hc)
end Go.Proofs.Ytghdiolnonejaaa.Pl
end
