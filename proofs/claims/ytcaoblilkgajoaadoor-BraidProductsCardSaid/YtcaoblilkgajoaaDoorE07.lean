/-
 The texts Brp, Brq, Bd in one.
-/
import Derived.Test.YtcaoblilkgajoaaDoorE06
import Derived.Test.YtcaoblilkgajoaaDoorE03
import Derived.Deep.DeepCutAuto
import Derived.StillTailTactics
set_option linter.unusedVariables false
set_option linter.unusedSimpArgs false
section
namespace Go.Proofs.YtcaoblilkgajoaaDoor.Pl
theorem trk_append (p : Nat) (a b : List Int) : trk p (a ++ b) = trk (trk p a) b := by unfold trk; rw [List.foldl_append]
theorem exW_append (a b : List Int) : exW (a ++ b) = exW a + exW b := by
 have key : ∀ (b : List Int) (z : Int), b.foldl ex1 z = z + b.foldl ex1 0 := by
  intro b
  induction b with
  | nil => intro z; simp
  | cons x b ih =>
    intro z
    rw [List.foldl_cons, List.foldl_cons, ih, ih (ex1 0 x)]
    have : ex1 z x = z + ex1 0 x := by unfold ex1; split <;> omega
    omega
 unfold exW
 rw [List.foldl_append, key]
theorem pmR_get {n p : Nat} (ws : List Int) (hp : p < n) : (pmR n ws).getD p 0 = trk p ws := by
 unfold pmR
 rw [List.getD_eq_getElem?_getD, List.getElem?_map, List.getElem?_range hp]
 rfl
theorem trk_lt {n : Nat} {ws : List Int} (hok : ∀ x, x ∈ ws → LetOk n x) {p : Nat} (hp : p < n) : trk p ws < n := ((pm_fit n _ ws rfl hok).1 p hp).1
theorem pmR_mul {n p : Nat} {a b : List Int} (ha : ∀ x, x ∈ a → LetOk n x) (hp : p < n) : (pmR n (a ++ b)).getD p 0 = (pmR n b).getD ((pmR n a).getD p 0) 0 := by
 rw [pmR_get _ hp, pmR_get _ hp, pmR_get _ (trk_lt ha hp), trk_append]
def Rdd : List Int → Prop
 | [] => True
 | [_] => True
 | x :: y :: l => y ≠ -x ∧ Rdd (y :: l)
theorem Rdd.init : ∀ {l : List Int} {x : Int}, Rdd (l ++ [x]) → Rdd l
 | [], _, _ => trivial
 | [_], _, _ => trivial
 | a :: b :: l, x, h => ⟨h.1, Rdd.init (l := b :: l) h.2⟩
theorem Rdd.snoc : ∀ {l : List Int} {x : Int}, Rdd l → l.getLast? ≠ some (-x) → Rdd (l ++ [x])
 | [], _, _, _ => trivial
 | [a], x, _, h => ⟨fun e => h (by simp; omega), trivial⟩
 | a :: b :: l, x, h, hn => ⟨h.1, Rdd.snoc (l := b :: l) h.2 (by simpa using hn)⟩
theorem Rdd.last : ∀ {l : List Int} {y x : Int}, Rdd (l ++ [y]) → l.getLast? = some x → x ≠ -y
 | [], _, _, _, h => by simp at h
 | [a], y, x, h, e => by
   have e : a = x := by simpa using e
   have h1 : y ≠ -a := h.1
   omega
 | a :: b :: l, y, x, h, e => Rdd.last (l := b :: l) h.2 (by simpa using e)
theorem rdP_rdd {st : List Int} {x : Int} (h : Rdd st) : Rdd (rdP st x) := by
 unfold rdP
 split
 ·rename_i e
  have hne : st ≠ [] := by intro c; rw [c] at e; simp at e
  rw [← List.dropLast_concat_getLast hne] at h
  exact h.init
 ·rename_i e
  exact h.snoc e
theorem rdP_back {st : List Int} {x : Int} (h : Rdd st) : rdP (rdP st x) (-x) = st := by
 by_cases e : st.getLast? = some (-x)
 ·have hne : st ≠ [] := by intro c; rw [c] at e; simp at e
  have hs := List.dropLast_concat_getLast hne
  have hl : st.getLast hne = -x := by
   rw [List.getLast?_eq_some_getLast hne] at e
   exact Option.some.inj e
  rw [hl] at hs
  have h1 : rdP st x = st.dropLast := by unfold rdP; rw [if_pos e]
  rw [h1]
  rw [← hs] at h
  unfold rdP
  rw [if_neg (fun c => h.last c (by omega))]
  exact hs
 ·have h1 : rdP st x = st ++ [x] := by unfold rdP; rw [if_neg e]
  rw [h1]
  unfold rdP
  rw [if_pos (by simp)]
  simp
def ivW (ws : List Int) : List Int := ws.reverse.map (fun x => -x)
theorem rd_inv : ∀ (ws st : List Int), Rdd st → (ws ++ ivW ws).foldl rdP st = st := by
 intro ws
 induction ws with
 | nil => intro st _; rfl
 | cons x ws ih =>
   intro st h
   have e : (x :: ws) ++ ivW (x :: ws) = x :: ((ws ++ ivW ws) ++ [-x]) := by simp [ivW]
   rw [e, List.foldl_cons, List.foldl_append, ih _ (rdP_rdd h)]
   exact rdP_back h
theorem rdW_inv (ws : List Int) : rdW (ws ++ ivW ws) = [] := rd_inv ws [] trivial
theorem BV.mul {s : Int} {a b : List Int} (ha : BV s a) (hb : BV s b) (hl : a.length + b.length ≤ 200) : BV s (a ++ b) :=
 ⟨ha.1, ha.2.1, by simpa using hl, fun x hx => (List.mem_append.1 hx).elim (ha.2.2.2 x) (hb.2.2.2 x)⟩
theorem ivW_len (ws : List Int) : (ivW ws).length = ws.length := by simp [ivW]
theorem BV.inv {s : Int} {a : List Int} (ha : BV s a) : BV s (ivW a) :=
 ⟨ha.1, ha.2.1, by rw [ivW_len]; exact ha.2.2.1, fun x hx => by
   unfold ivW at hx
   obtain ⟨y, hy, rfl⟩ := List.mem_map.1 hx
   have := ha.2.2.2 y (List.mem_reverse.1 hy)
   omega⟩
theorem trk_bij (n : Nat) (ws : List Int) (hok : ∀ x, x ∈ ws → LetOk n x) : Bij n (fun i => i < n) (fun i => trk i ws) := by
 obtain ⟨h1, h2⟩ := pm_fit n _ ws rfl hok
 exact ⟨fun _ h => h, fun x hx => (h1 x hx).1, fun x y hx hy e => by
  have e' : trk x ws = trk y ws := e
  rw [← (h1 x hx).2, ← (h1 y hy).2, e']⟩
theorem trk_tr {n : Nat} {x : Int} (hx : LetOk n x) (ws : List Int) : (fun i => trk i (x :: ws)) = tr (fun i => trk i ws) (x.natAbs - 1) x.natAbs := by
 funext i
 have h1 := hx.1
 show trk (tr1 i x) ws = tr (fun i => trk i ws) (x.natAbs - 1) x.natAbs i
 unfold tr1 tr
 split
 ·rfl
 ·split <;> rfl
theorem cyc_par (n : Nat) : ∀ (ws : List Int), (∀ x, x ∈ ws → LetOk n x) → ∃ k, Cls (fun i => i < n) (Orb (fun i => trk i ws)) k ∧ (n + k + ws.length) % 2 = 0 := by
 intro ws
 induction ws with
 | nil =>
   intro _
   refine ⟨n, ?_, by simp; omega⟩
   have hid : ∀ (k x : Nat), it (fun i => trk i []) k x = x := by
    intro k
    induction k with
    | zero => intro x; rfl
    | succ k ih => intro x; rw [it_succ']; exact ih _
   have hE : Eqv (fun i => i < n) (Orb (fun i => trk i ([] : List Int))) := (trk_bij n [] (by simp)).eqv
   obtain ⟨k, hk⟩ := Cls.exists_ n (fun i => i < n) _ (fun x hx => hx) hE
   have e : ∀ x y, Orb (fun i => trk i ([] : List Int)) x y → x = y := by
    rintro x y ⟨k, e⟩
    rw [hid] at e
    exact e
   have hn : Cls (fun i => i < n) (fun x y => x = y) n := ⟨fun i => i, fun i hi => hi, fun i j hi hj => Iff.rfl, fun x hx => ⟨x, hx, rfl⟩⟩
   exact hn.congr (fun _ => Iff.rfl) (fun x y _ _ => ⟨fun h => h ▸ Orb.refl _ _, e x y⟩)
 | cons x ws ih =>
   intro hok
   have hx := hok x (by simp)
   have hok' := fun y hy => hok y (List.mem_cons_of_mem _ hy)
   obtain ⟨k, hk, hp⟩ := ih hok'
   have hb := trk_bij n ws hok'
   have h1 := hx.1
   have h2 := hx.2
   have ha : x.natAbs - 1 < n := by omega
   have hne : x.natAbs - 1 ≠ x.natAbs := by omega
   rw [trk_tr hx]
   by_cases ho : Orb (fun i => trk i ws) (x.natAbs - 1) x.natAbs
   ·exact ⟨k + 1, Cls.part hb ha h2 hne ho hk, by simp only [List.length_cons]; omega⟩
   ·have := hk.two ha h2 ho
    obtain ⟨m, rfl⟩ : ∃ m, k = m + 1 := ⟨k - 1, by omega⟩
    exact ⟨m, Cls.merge hb ha h2 ho hk, by simp only [List.length_cons]; omega⟩
end Go.Proofs.YtcaoblilkgajoaaDoor.Pl
end
section
namespace Go.Proofs.YtcaoblilkgajoaaDoor.Pl
variable {N : Nat} {S : Nat → Prop} {f : Nat → Nat}
def tlF (fs : List (List Nat)) : Nat := (fs.map List.length).sum
theorem tlF_snoc (fs : List (List Nat)) (l : List Nat) : tlF (fs ++ [l]) = tlF fs + l.length := by simp [tlF]
def cntB (bs : List Bool) : Nat := bs.count true
theorem cntB_set : ∀ {bs : List Bool} {x : Nat}, x < bs.length → gb bs x = false → cntB (bs.set x true) = cntB bs + 1
 | [], x, h, _ => by simp at h
 | b :: bs, 0, _, h => by
   have h : b = false := h
   subst h
   simp [cntB]
 | b :: bs, x + 1, hx, h => by
   have h : gb bs x = false := h
   have := cntB_set (bs := bs) (x := x) (by simpa using hx) h
   unfold cntB at this ⊢
   rw [List.set_cons_succ, List.count_cons, List.count_cons, this]
   omega
theorem mark_cnt : ∀ (l : List Nat) (bs : List Bool), l.Nodup → (∀ x, x ∈ l → x < bs.length ∧ gb bs x = false) → cntB (mark bs l) = cntB bs + l.length
 | [], bs, _, _ => rfl
 | x :: l, bs, hn, h => by
   have h0 := h x List.mem_cons_self
   have hn' := List.nodup_cons.1 hn
   show cntB (mark (bs.set x true) l) = _
   rw [mark_cnt l (bs.set x true) hn'.2 (fun y hy => ?_), cntB_set h0.1 h0.2, List.length_cons]
   ·omega
   ·have hy1 := h y (List.mem_cons_of_mem _ hy)
    refine ⟨by rw [List.length_set]; exact hy1.1, ?_⟩
    rw [gb_set h0.1 true y, if_neg (fun e => hn'.1 (by rw [← e]; exact hy))]
    exact hy1.2
theorem cyc_nodup {x p : Nat} (hp : Per f x p) : (cyc f x p).Nodup := by
 unfold cyc
 rw [List.nodup_iff_pairwise_ne, List.pairwise_map]
 refine List.Pairwise.imp_of_mem ?_ List.pairwise_lt_range
 intro i j hi hj hlt e
 rw [List.mem_range] at hi hj
 have h1 : it f (p - j + j) x = it f (p - j) (it f j x) := it_add f _ _ _
 have h2 : it f (p - j + i) x = it f (p - j) (it f i x) := it_add f _ _ _
 rw [e, ← h1, show p - j + j = p by omega, hp.2.1] at h2
 exact hp.2.2 (p - j + i) (by omega) (by omega) h2
theorem cntB_all : ∀ {bs : List Bool}, (∀ x, x < bs.length → gb bs x = true) → cntB bs = bs.length
 | [], _ => rfl
 | b :: bs, h => by
   have h0 : b = true := h 0 (by simp)
   have := cntB_all (bs := bs) (fun x hx => h (x + 1) (by simpa using hx))
   subst h0
   unfold cntB at this ⊢
   simp [this]
theorem Fcs.clsN {W : Nat → Prop} (hb : Bij N (fun i => i < N) f) {fs : List (List Nat)} {bs : List Bool} (h : Fcs f W N N fs bs) (hW : ∀ x, x < N → W x) : Cls (fun i => i < N) (Orb f) fs.length := by
 have hw : ∀ x : Nat, ∃ i : Nat, x < N → ∃ l, fs[i]? = some l ∧ x ∈ l := fun x => by
  by_cases hx : x < N
  ·obtain ⟨l, h1, h2⟩ := (h.seen x hx).1 (h.all x hx (hW x hx))
   obtain ⟨i, hi⟩ := List.getElem?_of_mem h1
   exact ⟨i, fun _ => ⟨l, hi, h2⟩⟩
  ·exact ⟨0, fun c => absurd c hx⟩
 have hF : ∀ (i : Nat) (l : List Nat) (x : Nat), fs[i]? = some l → x ∈ l → Classical.choose (hw x) = i := by
  intro i l x hi hx
  have hN : x < N := by
   obtain ⟨g, p, h1, h2, h3, rfl⟩ := h.is l (List.mem_of_getElem? hi)
   exact hb.orb_mem h1 ((mem_cyc h3).1 hx)
  obtain ⟨m, h1, h2⟩ := Classical.choose_spec (hw x) hN
  exact h.one _ _ m l x h1 hi h2 hx
 refine ⟨fun x => Classical.choose (hw x), fun x hx => ?_, fun x y hx hy => h.label hb (fun _ h => h) hW hF hx hy, fun i hi => ?_⟩
 ·obtain ⟨m, h1, h2⟩ := Classical.choose_spec (hw x) hx
  exact (List.getElem?_eq_some_iff.1 h1).1
 ·have e := List.getElem?_eq_getElem hi
  obtain ⟨g, p, h1, h2, h3, h4⟩ := h.is _ (List.mem_of_getElem? e)
  have hm : g ∈ fs[i] := by rw [h4]; exact (mem_cyc h3).2 (Orb.refl f g)
  exact ⟨g, h1, hF i _ g e hm⟩
theorem Fcs.tlF_add {k p : Nat} {bs : List Bool} {fs : List (List Nat)} (ht : tlF fs = cntB bs) (hl : bs.length = N) (hp : Per f k p) (hin : ∀ x, x ∈ cyc f k p → x < N ∧ gb bs x = false) : tlF (fs ++ [cyc f k p]) = cntB (mark bs (cyc f k p)) := by
 rw [tlF_snoc, ht, mark_cnt _ _ (cyc_nodup hp) (fun x hx => by rw [hl]; exact hin x hx)]
def sg1 (s : Int) (l : List Nat) : Int := if l.length % 2 = 0 then -s else s
def sgF (fs : List (List Nat)) : Int := fs.foldl sg1 1
theorem sgF_snoc (fs : List (List Nat)) (l : List Nat) : sgF (fs ++ [l]) = sg1 (sgF fs) l := by unfold sgF; rw [List.foldl_append]; rfl
theorem sgF_eq : ∀ (k : Nat) (fs : List (List Nat)), fs.length = k → sgF fs = 1 - 2 * (((tlF fs + fs.length) % 2 : Nat) : Int)
 | 0, fs, h => by
   obtain rfl := List.eq_nil_of_length_eq_zero h
   rfl
 | k + 1, fs, h => by
   have hne : fs ≠ [] := by intro e; rw [e] at h; simp at h
   obtain ⟨gs, l, rfl⟩ : ∃ gs l, fs = gs ++ [l] := ⟨fs.dropLast, fs.getLast hne, (List.dropLast_concat_getLast hne).symm⟩
   have := sgF_eq k gs (by simpa using h)
   rw [sgF_snoc, tlF_snoc, List.length_append, List.length_singleton]
   unfold sg1
   split <;> omega
theorem sgF_word {n : Nat} {ws : List Int} (hok : ∀ x, x ∈ ws → LetOk n x) {W : Nat → Prop} {fs : List (List Nat)} {bs : List Bool} (h : Fcs (fun i => trk i ws) W n n fs bs) (hW : ∀ x, x < n → W x) (ht : tlF fs = cntB bs) :
 sgF fs = 1 - 2 * ((ws.length % 2 : Nat) : Int) := by
 obtain ⟨k, hk, hp⟩ := cyc_par n ws hok
 have e := hk.unique (h.clsN (trk_bij n ws hok) hW)
 have e2 : cntB bs = n := by rw [cntB_all (fun x hx => h.all x (by rw [← h.len]; exact hx) (hW x (by rw [← h.len]; exact hx))), h.len]
 rw [sgF_eq _ fs rfl, ht, e2, ← e]
 omega
end Go.Proofs.YtcaoblilkgajoaaDoor.Pl
end
section
namespace Go.Proofs.YtcaoblilkgajoaaDoor
open Go Go.RowKit
attribute [local go_sem ↓] Go.wp_at_zero Go.wp_at_succ
structure CBr (base : Nat) (w : World) (gd gf gl gM gF gL gj m s : Nat) (vS : Value) (sg : List Int) (q : Pl.ClS) (lp : Nat) (W : World) : Prop where
 d : Row W gd 28 [vS, .slice (some ⟨gM, 0, none⟩) m m, .int .i64 (lp : Int)]
 mr : IRow W gM (nats q.mt)
 fb : Row W gf 22 [.slice (some ⟨gF, 0, none⟩) s s]
 lb : Row W gl 22 [.slice (some ⟨gL, 0, none⟩) s s]
 fr : IRow W gF q.fi
 lr : IRow W gL q.la
 jb : Row W gj 61 [.func (.func 36) #[] #[.pointer (some ⟨gd, 0, none⟩)]]
 own : W.ownsRow base 3 1 vS sg.length (sg.map (.int .i64))
 nd : [gd, gf, gl, gM, gF, gL, gj].Nodup
 lo : ∀ g, g ∈ [gd, gf, gl, gM, gF, gL, gj] → w.heap.size ≤ g ∧ g < base
 bel : Below w.heap.size w W
 big : base ≤ W.heap.size
 lm : q.mt.length = m
 lf : q.fi.length = s
 ll : q.la.length = s
section
variable {base : Nat} {w W W' : World} {gd gf gl gM gF gL gj m s : Nat} {vS : Value} {sg : List Int} {q : Pl.ClS} {lp : Nat}
theorem CBr.below (h : CBr base w gd gf gl gM gF gL gj m s vS sg q lp W) (hb : Below W.heap.size W W') : CBr base w gd gf gl gM gF gL gj m s vS sg q lp W' :=
 ⟨h.d.below hb, Row.below h.mr hb, h.fb.below hb, h.lb.below hb, Row.below h.fr hb, Row.below h.lr hb, h.jb.below hb, own_below h.own hb, h.nd, h.lo, h.bel.trans (hb.mono h.bel.size), Nat.le_trans h.big hb.size, h.lm, h.lf, h.ll⟩
theorem CBr.setM (h : CBr base w gd gf gl gM gF gL gj m s vS sg q lp W) (i x : Nat) : CBr base w gd gf gl gM gF gL gj m s vS sg ⟨q.mt.set i x, q.fi, q.la⟩ lp (W.setCell ⟨gM, i, none⟩ (.int .i64 (x : Int))) := by
 have nd := h.nd
 simp only [List.nodup_cons, List.mem_cons, not_or, List.not_mem_nil, not_false_iff, and_true, List.nodup_nil] at nd
 obtain ⟨⟨a1, a2, a3, a4, a5, a6⟩, ⟨b2, b3, b4, b5, b6⟩, ⟨c3, c4, c5, c6⟩, ⟨d4, d5, d6⟩, ⟨e5, e6⟩, f6⟩ := nd
 have lo := h.lo gM (by simp)
 refine ⟨h.d.other (show _ ≠ gM from a3) _, ?_, h.fb.other (show _ ≠ gM from b3) _, h.lb.other (show _ ≠ gM from c3) _, Row.other h.fr (show _ ≠ gM from fun e => d4 e.symm) _, Row.other h.lr (show _ ≠ gM from fun e => d5 e.symm) _, h.jb.other (show _ ≠ gM from fun e => d6 e.symm) _, ownsRow_setCell_below h.own (by show gM < base; omega) _, h.nd, h.lo, h.bel.setCell (by show _ ≤ gM; omega) _, by simpa using h.big, by show (q.mt.set i x).length = m; rw [List.length_set]; exact h.lm, h.lf, h.ll⟩
 have := IRow.set h.mr i (x : Int)
 rw [← nats_set] at this
 exact this
theorem CBr.setF (h : CBr base w gd gf gl gM gF gL gj m s vS sg q lp W) (i : Nat) (x : Int) : CBr base w gd gf gl gM gF gL gj m s vS sg ⟨q.mt, q.fi.set i x, q.la⟩ lp (W.setCell ⟨gF, i, none⟩ (.int .i64 x)) := by
 have nd := h.nd
 simp only [List.nodup_cons, List.mem_cons, not_or, List.not_mem_nil, not_false_iff, and_true, List.nodup_nil] at nd
 obtain ⟨⟨a1, a2, a3, a4, a5, a6⟩, ⟨b2, b3, b4, b5, b6⟩, ⟨c3, c4, c5, c6⟩, ⟨d4, d5, d6⟩, ⟨e5, e6⟩, f6⟩ := nd
 have lo := h.lo gF (by simp)
 exact ⟨h.d.other (show _ ≠ gF from a4) _, Row.other h.mr (show _ ≠ gF from d4) _, h.fb.other (show _ ≠ gF from b4) _, h.lb.other (show _ ≠ gF from c4) _, IRow.set h.fr i x, Row.other h.lr (show _ ≠ gF from fun e => e5 e.symm) _, h.jb.other (show _ ≠ gF from fun e => e6 e.symm) _, ownsRow_setCell_below h.own (by show gF < base; omega) _, h.nd, h.lo, h.bel.setCell (by show _ ≤ gF; omega) _, by simpa using h.big, h.lm, by show (q.fi.set i x).length = s; rw [List.length_set]; exact h.lf, h.ll⟩
theorem CBr.setL (h : CBr base w gd gf gl gM gF gL gj m s vS sg q lp W) (i : Nat) (x : Int) : CBr base w gd gf gl gM gF gL gj m s vS sg ⟨q.mt, q.fi, q.la.set i x⟩ lp (W.setCell ⟨gL, i, none⟩ (.int .i64 x)) := by
 have nd := h.nd
 simp only [List.nodup_cons, List.mem_cons, not_or, List.not_mem_nil, not_false_iff, and_true, List.nodup_nil] at nd
 obtain ⟨⟨a1, a2, a3, a4, a5, a6⟩, ⟨b2, b3, b4, b5, b6⟩, ⟨c3, c4, c5, c6⟩, ⟨d4, d5, d6⟩, ⟨e5, e6⟩, f6⟩ := nd
 have lo := h.lo gL (by simp)
 exact ⟨h.d.other (show _ ≠ gL from a5) _, Row.other h.mr (show _ ≠ gL from d5) _, h.fb.other (show _ ≠ gL from b5) _, h.lb.other (show _ ≠ gL from c5) _, Row.other h.fr (show _ ≠ gL from e5) _, IRow.set h.lr i x, h.jb.other (show _ ≠ gL from fun e => f6 e.symm) _, ownsRow_setCell_below h.own (by show gL < base; omega) _, h.nd, h.lo, h.bel.setCell (by show _ ≤ gL; omega) _, by simpa using h.big, h.lm, h.lf, by show (q.la.set i x).length = s; rw [List.length_set]; exact h.ll⟩
theorem CBr.setD (h : CBr base w gd gf gl gM gF gL gj m s vS sg q lp W) (lp' : Nat) : CBr base w gd gf gl gM gF gL gj m s vS sg q lp' (W.setCell ⟨gd, 2, none⟩ (.int .i64 (lp' : Int))) := by
 have nd := h.nd
 simp only [List.nodup_cons, List.mem_cons, not_or, List.not_mem_nil, not_false_iff, and_true, List.nodup_nil] at nd
 obtain ⟨⟨a1, a2, a3, a4, a5, a6⟩, ⟨b2, b3, b4, b5, b6⟩, ⟨c3, c4, c5, c6⟩, ⟨d4, d5, d6⟩, ⟨e5, e6⟩, f6⟩ := nd
 have lo := h.lo gd (by simp)
 exact ⟨h.d.set 2 (.int .i64 (lp' : Int)), Row.other h.mr (show _ ≠ gd from fun e => a3 e.symm) _, h.fb.other (show _ ≠ gd from fun e => a1 e.symm) _, h.lb.other (show _ ≠ gd from fun e => a2 e.symm) _, Row.other h.fr (show _ ≠ gd from fun e => a4 e.symm) _, Row.other h.lr (show _ ≠ gd from fun e => a5 e.symm) _, h.jb.other (show _ ≠ gd from fun e => a6 e.symm) _, ownsRow_setCell_below h.own (by show gd < base; omega) _, h.nd, h.lo, h.bel.setCell (by show _ ≤ gd; omega) _, by simpa using h.big, h.lm, h.lf, h.ll⟩
def FrB (base : Nat) (W W' : World) : Prop := ∀ g, base ≤ g → W'.heap[g]? = W.heap[g]?
theorem FrB.refl (base : Nat) (W : World) : FrB base W W := fun _ _ => rfl
theorem FrB.set {base : Nat} {W W' : World} (h : FrB base W W') {g : Nat} (hg : g < base) (i : Nat) (v : Value) : FrB base W (W'.setCell ⟨g, i, none⟩ v) := fun k hk => (Below.heap_setCell W' ⟨g, i, none⟩ v k (by show k ≠ g; omega)).trans (h k hk)
theorem FrB.drew {base : Nat} {W W' : World} (h : FrB base W W') : FrB base W W'.drew := h
theorem FrB.row {base : Nat} {W W' : World} (h : FrB base W W') {g : Nat} {t : TypeId} {vs : List Value} (hr : Row W g t vs) (hg : base ≤ g) : Row W' g t vs := (h g hg).trans hr
theorem CBr.app (h : CBr base w gd gf gl gM gF gL gj m s vS sg q lp W) {g c : Nat} {x : Int} (own : W'.ownsRow base 3 1 (.slice (some ⟨g, 0, none⟩) (sg.length + 1) c) (sg.length + 1) (sg.map (.int .i64) ++ [.int .i64 x])) (gr : W.grownBy W' vS.ownBlock) :
 CBr base w gd gf gl gM gF gL gj m s (.slice (some ⟨g, 0, none⟩) (sg.length + 1) c) (sg ++ [x]) q lp (W'.setCell ⟨gd, 0, none⟩ (.slice (some ⟨g, 0, none⟩) (sg.length + 1) c)) := by
 have nd := h.nd
 simp only [List.nodup_cons, List.mem_cons, not_or, List.not_mem_nil, not_false_iff, and_true, List.nodup_nil] at nd
 obtain ⟨⟨a1, a2, a3, a4, a5, a6⟩, ⟨b2, b3, b4, b5, b6⟩, ⟨c3, c4, c5, c6⟩, ⟨d4, d5, d6⟩, ⟨e5, e6⟩, f6⟩ := nd
 have ne : ∀ k, k ∈ [gd, gf, gl, gM, gF, gL, gj] → some k ≠ vS.ownBlock := fun k hk e => by
  have h1 := (h.own.lt _ e.symm).1
  have h2 := (h.lo k hk).2
  omega
 have lo := h.lo gd (by simp)
 have hb : Below w.heap.size w W' := h.bel.grown gr h.bel.size (fun k hk => by have := (h.own.lt k hk).1; omega)
 have hbig : base ≤ W'.heap.size := Nat.le_trans h.big gr.size
 refine ⟨(h.d.grown gr (ne _ (by simp))).set 0 _, Row.other (Row.grown h.mr gr (ne _ (by simp))) (show _ ≠ gd from fun e => a3 e.symm) _, (h.fb.grown gr (ne _ (by simp))).other (show _ ≠ gd from fun e => a1 e.symm) _, (h.lb.grown gr (ne _ (by simp))).other (show _ ≠ gd from fun e => a2 e.symm) _, Row.other (Row.grown h.fr gr (ne _ (by simp))) (show _ ≠ gd from fun e => a4 e.symm) _, Row.other (Row.grown h.lr gr (ne _ (by simp))) (show _ ≠ gd from fun e => a5 e.symm) _, (h.jb.grown gr (ne _ (by simp))).other (show _ ≠ gd from fun e => a6 e.symm) _, ?_, h.nd, h.lo, hb.setCell (by show _ ≤ gd; omega) _, by simpa using hbig, h.lm, h.lf, h.ll⟩
 have e1 : (sg ++ [x]).length = sg.length + 1 := by simp
 rw [e1, List.map_append]
 exact ownsRow_setCell_below own (by show gd < base; omega) _
end
set_option maxRecDepth 100000 in
set_option maxHeartbeats 2000000 in
theorem cjoin_any {base : Nat} {w W : World} {gd gf gl gM gF gL gj m s : Nat} {vS : Value} {sg : List Int} {q : Pl.ClS} {lp : Nat} (h : CBr base w gd gf gl gM gF gL gj m s vS sg q lp W) (a b : Nat) (ha : a < m) (hb : b < m) (hm : m ≤ 1000) :
 Calls Tryd.prog 36 #[.int .i64 (a : Int), .int .i64 (b : Int), .pointer (some ⟨gd, 0, none⟩)] W fun e W' => (∃ v, e = .returned v) ∧ CBr base w gd gf gl gM gF gL gj m s vS sg ⟨Pl.jnn q.mt a b, q.fi, q.la⟩ lp W' ∧ FrB base W W' := by
 have H := hide h
 obtain ⟨d0, d1, d2, d3⟩ := box3 h.d
 have c1 := IRow.cell h.mr (i := a) (by rw [nats_len, h.lm]; exact ha)
 have c2 := IRow.cell h.mr (i := b) (by rw [nats_len, h.lm]; exact hb)
 have f1 := Row.free h.mr
 have c3 := IRow.cell (h.setM a b).mr (i := b) (by rw [nats_len, (h.setM a b).lm]; exact hb)
 have c4 := IRow.cell (h.setM b a).mr (i := a) (by rw [nats_len, (h.setM b a).lm]; exact ha)
 obtain ⟨_, e1, _, _⟩ := box3 (h.setM a b).d
 obtain ⟨_, e2, _, _⟩ := box3 (h.setM b a).d
 have a0 : (0 : Int) ≤ (a : Int) := by omega
 have a1 : (a : Int) < (m : Int) := by omega
 have b0 : (0 : Int) ≤ (b : Int) := by omega
 have b1 : (b : Int) < (m : Int) := by omega
 clear h
 go_enter Tryd.func36, Tryd.ntmps36
 go_region
 all_goals (go_wp2_with fail)
 all_goals exact bodyPost_end (by simp [results, Tryd.results36, go_sem]; rfl) rfl ⟨⟨_, rfl⟩, ((H.out.setM a b).setM b a).below (Below.refl _ _).drew, (((FrB.refl base W).set (H.out.lo gM (by simp)).2 _ _).set (H.out.lo gM (by simp)).2 _ _).drew⟩
set_option maxRecDepth 100000 in
set_option maxHeartbeats 2000000 in
theorem cpass_any {base : Nat} {w W : World} {gd gf gl gM gF gL gj m s : Nat} {vS : Value} {sg : List Int} {q : Pl.ClS} {lp : Nat} (h : CBr base w gd gf gl gM gF gL gj m s vS sg q lp W) (p i o : Nat) (hp : p < s) (hi : i < m) (ho : o < m) (hm : m ≤ 1000) (hs : s ≤ 10) (hla : q.la.getD p (-1) < (m : Int)) :
 Calls Tryd.prog 37 #[.int .i64 (p : Int), .int .i64 (i : Int), .int .i64 (o : Int), .pointer (some ⟨gl, 0, none⟩), .pointer (some ⟨gf, 0, none⟩), .pointer (some ⟨gj, 0, none⟩)] W fun e W' => (∃ v, e = .returned v) ∧ CBr base w gd gf gl gM gF gL gj m s vS sg (Pl.clPass q p i o) lp W' ∧ FrB base W W' := by
 have H := hide h
 have l0 := h.lb.cell (i := 0) (by simp)
 have f0 := h.fb.cell (i := 0) (by simp)
 have j0 := h.jb.cell (i := 0) (by simp)
 have c1 := IRow.cell h.lr (i := p) (by rw [h.ll]; exact hp)
 have c2 := IRow.cell h.fr (i := p) (by rw [h.lf]; exact hp)
 have f1 := Row.free h.lr
 have f2 := Row.free h.fr
 have p0 : (0 : Int) ≤ (p : Int) := by omega
 have p1 : (p : Int) < (s : Int) := by omega
 have HP := hide (show Pl.pv q.la p = q.la.getD p (-1) by
  unfold Pl.pv
  rw [List.getD_eq_getElem?_getD, List.getD_eq_getElem?_getD, List.getElem?_eq_getElem (by rw [h.ll]; exact hp)]
  rfl)
 rw [HP.out] at c1
 obtain ⟨x, hx⟩ : ∃ x, x = q.la.getD p (-1) := ⟨_, rfl⟩
 rw [← hx] at c1 hla
 have HX := hide hx
 clear h hx
 simp only [List.getElem_cons_zero] at l0 f0 j0
 by_cases hx0 : x < 0
 ·have HE := hide (show Pl.clPass q p i o = ⟨q.mt, q.fi.set p (i : Int), q.la.set p (o : Int)⟩ by unfold Pl.clPass; rw [if_pos (by rw [← HX.out]; exact hx0)])
  have H1 := hide (H.out.setF p (i : Int))
  have l1 := H1.out.lb.cell (i := 0) (by simp)
  have c3 := IRow.cell H1.out.lr (i := p) (by rw [H1.out.ll]; exact hp)
  have f3 := Row.free H1.out.lr
  simp only [List.getElem_cons_zero] at l1
  go_enter Tryd.func37, Tryd.ntmps37
  go_wp2_with fail
  exact bodyPost_end (by simp [results, Tryd.results37, go_sem]; rfl) rfl ⟨⟨_, rfl⟩, by rw [HE.out]; exact H1.out.setL p (o : Int), ((FrB.refl base W).set (H.out.lo gF (by simp)).2 _ _).set (H.out.lo gL (by simp)).2 _ _⟩
 ·obtain ⟨a, rfl⟩ := Int.eq_ofNat_of_zero_le (show 0 ≤ x by omega)
  have ham : a < m := by omega
  have HE := hide (show Pl.clPass q p i o = ⟨Pl.jnn q.mt a i, q.fi, q.la.set p (o : Int)⟩ by
   unfold Pl.clPass
   rw [if_neg (by rw [← HX.out]; exact hx0), ← HX.out]
   rfl)
  have HD := hide (H.out.below (Below.refl W.heap.size W).drew)
  go_enter Tryd.func37, Tryd.ntmps37
  go_upto_region 2 with fail
  go_still_tail 6, (by kernel_rfl)
  change wpList _ _ _ _ _ W.drew
  obtain ⟨W6, hW6⟩ : ∃ W6 : World, W6 = W.drew := ⟨_, rfl⟩
  rw [← hW6] at HD ⊢
  have HFR := hide (show FrB base W W6 by rw [hW6]; exact FrB.refl base W)
  clear hW6 l0 f0 j0 c1 c2 f1 f2
  go_wp2_with fail
  refine (cjoin_any HD.out a i ham hi hm).mono ?_
  rintro e W2 ⟨⟨v, rfl⟩, hc, hfr⟩
  have H2 := hide hc
  have HFR2 := hide (show FrB base W W2 from fun k hk => (hfr k hk).trans (HFR.out k hk))
  have l1 := H2.out.lb.cell (i := 0) (by simp)
  have c3 := IRow.cell H2.out.lr (i := p) (by rw [H2.out.ll]; exact hp)
  have f3 := Row.free H2.out.lr
  simp only [List.getElem_cons_zero] at l1
  clear hc hfr
  go_wp2_with fail
  exact bodyPost_end (by simp [results, Tryd.results37, go_sem]; rfl) rfl ⟨⟨_, rfl⟩, by rw [HE.out]; exact H2.out.setL p (o : Int), HFR2.out.set (H.out.lo gL (by simp)).2 _ _⟩
theorem cpass_int {base : Nat} {w W : World} {gd gf gl gM gF gL gj m s : Nat} {vS : Value} {sg : List Int} {q : Pl.ClS} {lp : Nat} (h : CBr base w gd gf gl gM gF gL gj m s vS sg q lp W) (p i o : Nat) (x y z : Int) (ex : x = (p : Int)) (ey : y = (i : Int)) (ez : z = (o : Int)) (hp : p < s) (hi : i < m) (ho : o < m) (hm : m ≤ 1000) (hs : s ≤ 10) (hla : q.la.getD p (-1) < (m : Int)) :
 Calls Tryd.prog 37 #[.int .i64 x, .int .i64 y, .int .i64 z, .pointer (some ⟨gl, 0, none⟩), .pointer (some ⟨gf, 0, none⟩), .pointer (some ⟨gj, 0, none⟩)] W fun e W' => (∃ v, e = .returned v) ∧ CBr base w gd gf gl gM gF gL gj m s vS sg (Pl.clPass q p i o) lp W' ∧ FrB base W W' := by
 subst ex ey ez
 exact cpass_any h p i o hp hi ho hm hs hla
end Go.Proofs.YtcaoblilkgajoaaDoor
end
