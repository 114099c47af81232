/-
  The texts Xv, Xx, Xw, Xy, Sa, Pke, Za in one.
-/
import Derived.Test.YtghdiolnonejaaaB20
import Derived.Deep.DeepCutAuto
import Derived.Test.YtghdiolnonejaaaB09
import Derived.Test.YtghdiolnonejaaaB04
import Derived.Test.YtghdiolnonejaaaB05
import Derived.Test.YtghdiolnonejaaaB18
import Derived.Test.YtghdiolnonejaaaB16
set_option linter.unusedVariables false
set_option linter.unusedSimpArgs false

section
namespace Go.Proofs.Ytghdiolnonejaaa
open Go Go.RowKit
attribute [local go_sem ↓] Go.wp_at_zero Go.wp_at_succ
theorem mvs_apps (ms r : List Mv) : mvs (ms ++ r) = mvs ms ++ mvs r := by unfold mvs; rw [List.flatMap_append]
/-- A diagram in its box, and a list of moves of the call's own. -/
structure AL (w : World) (dv : List Value) (b : Nat) (v : Value) (ms : List Mv) (W : World) : Prop where
  d : Row W w.heap.size 24 dv
  o : W.ownsRow b 37 5 v ms.length (mvs ms)
  bel : Below w.heap.size w W
  lo : w.heap.size < b
  lo2 : b ≤ W.heap.size
section
variable {w W W' W2 : World} {dv : List Value} {b : Nat} {v v' : Value} {ms r : List Mv}
theorem AL.below (h : AL w dv b v ms W) (hb : Below W.heap.size W W') : AL w dv b v ms W' :=
  ⟨h.d.below hb, own_below h.o hb, h.bel.trans (hb.mono h.bel.size), h.lo, Nat.le_trans h.lo2 hb.size⟩
theorem AL.far (h : AL w dv b v ms W) : some w.heap.size ≠ v.ownBlock := fun e => by have := (h.o.lt _ e.symm).1; have := h.lo; omega
theorem AL.app (h : AL w dv b v ms W) (own : W2.ownsRow b 37 5 v' (ms.length + r.length) (mvs ms ++ mvs r)) (gr : W.grownBy W2 v.ownBlock) : AL w dv b v' (ms ++ r) W2 := by
  refine ⟨h.d.grown gr h.far, ?_, h.bel.grown gr h.bel.size (fun k hk => by have := (h.o.lt k hk).1; have := h.lo; omega), h.lo, Nat.le_trans h.lo2 gr.size⟩
  rw [mvs_apps, List.length_append]
  exact own
end
theorem cu_le {d : Pl.Dg} (hn : d.n ≤ 64) : (sel d (cuC (4 * d.n + 1))).length ≤ 1028 := by
  have a := cuL_len d (4 * d.n + 1)
  rw [cu_sel d _ (Nat.le_refl _)] at a
  omega
theorem un_le {d : Pl.Dg} (hn : d.n ≤ 64) : (sel d (unC d.n)).length ≤ 64 := by
  have a := unL_len d d.n
  rw [un_sel d _ (Nat.le_refl _)] at a
  omega
theorem up_le {d : Pl.Dg} (hn : d.n ≤ 64) : (sel d (upNX d.n d.n)).length ≤ 4096 := by
  have a := upX_len hn d.n
  rw [up_sel d _] at a
  omega
theorem pk_all {d : Pl.Dg} (hn : d.n ≤ 64) {F P : List Nat} (hF : ∀ x y, x < 4 * d.n → y < 4 * d.n → (F.getD x 0 = F.getD y 0 ↔ Pl.Orb (Pl.nx d) x y)) (hP : ∀ x y, x < d.n → y < d.n → (P.getD x 0 = P.getD y 0 ↔ Pl.Comp d x y)) :
    (if 64 < d.n + 2 then [] else pkX d F P (4 * d.n + 2)) = sel d (pkNX d.n (4 * d.n + 2)) ∧ (sel d (pkNX d.n (4 * d.n + 2))).length ≤ 399384 := by
  have a := pkX_len hn F P (4 * d.n + 2)
  rw [pkX_sel hF hP _ (Nat.le_refl _)] at a
  refine ⟨?_, by omega⟩
  split
  · rename_i h
    rw [pk_full h]
  · exact pkX_sel hF hP _ (Nat.le_refl _)
set_option maxRecDepth 100000 in
set_option maxHeartbeats 8000000 in
theorem All_any (d : Pl.Dg) (hd : Pl.Valid d) (A B : Option Addr) (cp cq m : Nat) (w : World) (hm : m = 4 * d.n) (hg : DgAt w A B d) :
    Calls Try.prog 33 #[.agg #[.slice A d.n cp, .slice B m cq, .int .i64 d.lp]] w fun e w' => ∃ v, e = .returned v ∧ MovesIn w.heap.size w' v (allL d) ∧ Below w.heap.size w w' := by
  have HM := hide hm
  have HG := hide hg
  have HW := hide (Pl.Valid.iff.1 hd).1
  have hn := hd.wf.few
  clear hg hm
  have R0 := hide (row_at (W := w) (g := w.heap.size) (t := 24) (vs := [.slice A d.n cp, .slice B m cq, .int .i64 (d.lp : Int)]) rfl)
  have B0 := hide (show Below w.heap.size w (w.alloc (.cells #[.slice A d.n cp, .slice B m cq, .int .i64 (d.lp : Int)] 24)) from (Below.refl _ _).alloc (Nat.le_refl _) _)
  go_enter Try.func33, Try.ntmps33
  go_wp2_with fail
  refine (valid_yes d hd A B cp cq m _ HM.out (HG.out.keep B0.out)).mono ?_
  rintro e w1 ⟨rfl, hb1⟩
  have R1 := hide (R0.out.below hb1)
  have B1 := hide (B0.out.trans (hb1.mono B0.out.size))
  clear hb1
  obtain ⟨d0, d1, d2, d3⟩ := box3 R1.out
  go_wp2_with fail
  refine (curls_any d HW.out A B cp cq m _ HM.out (HG.out.keep B1.out)).mono ?_
  rintro e w2 ⟨v2, rfl, ⟨b, hlb, hlb2, own2⟩, hb2⟩
  have hw1 : w.heap.size < w1.heap.size := R1.out.lt
  have Q2 := hide (show AL w [.slice A d.n cp, .slice B m cq, .int .i64 (d.lp : Int)] b v2 (sel d (cuC (4 * d.n + 1))) w2 from
    ⟨R1.out.below hb2, by rw [HM.out] at own2; rw [cu_sel d _ (Nat.le_refl _)] at own2; exact own2, B1.out.trans (hb2.mono B1.out.size), by omega, hlb2⟩)
  clear hb2 own2 R1 B1 R0 B0 d0 d1 d2 d3
  obtain ⟨d0, d1, d2, d3⟩ := box3 Q2.out.d
  go_wp2_with fail
  refine (uncurls_any d HW.out A B cp cq m _ HM.out (HG.out.keep Q2.out.bel)).mono ?_
  rintro e w3 ⟨v3, rfl, hv3, hb3⟩
  rw [un_sel d _ (Nat.le_refl _)] at hv3
  obtain ⟨A3, c3, rfl, src3⟩ := hv3.at.src
  have Q3 := hide (Q2.out.below hb3)
  have S3 := hide src3
  have lcu := cu_le (d := d) hn
  have lun := un_le (d := d) hn
  have lup := up_le (d := d) hn
  have B3 : (sel d (cuC (4 * d.n + 1))).length + (sel d (unC d.n)).length ≤ maxLen := by unfold maxLen; omega
  have C3 : ((sel d (cuC (4 * d.n + 1))).length + (sel d (unC d.n)).length) * 40 ≤ 140737488355328 := by omega
  have D3 : b ≤ w3.heap.size := Q3.out.lo2
  obtain ⟨n0, hn0, hz0, hz1, hz2⟩ := info_parts moveInfo
  clear hb3 hv3 src3 d0 d1 d2 d3 Q2
  go_wp2_with (at_builtin; refine wpList_append_src _ (by rfl) _ _ 27 (by rfl) b 37 n0 (.agg #[.int .i64 0, .int .i64 0, .int .i64 0, .int .i64 0, .bool false]) 40 Try.underlying27 hn0 hz0 hz1 hz2 rfl v2 _ _ (by rfl) Q3.out.o A3 _ c3 _ (by rfl) S3.out B3 C3 D3 ?_; intro v4 w4 own4 grow4; obtain ⟨d0, d1, d2, d3⟩ := box3 (Q3.out.app own4 grow4).d; have Q4 := hide (Q3.out.app own4 grow4); clear own4 grow4)
  clear Q3 S3 B3 C3 D3
  refine (survey_any d hd A B cp cq m _ HM.out (HG.out.keep Q4.out.bel)).mono ?_
  rintro e w5 ⟨L, R, cl, cr, F, P, he, hsh, hF, hP, hb5⟩
  have Q5 := hide (Q4.out.below hb5)
  have HSH := hide hsh
  obtain ⟨pe, pl⟩ := pk_all hn hF hP
  have PE := hide pe
  rw [← HM.out] at he
  unfold sheetV at he
  subst he
  have hb5s := hb5.size
  clear hb5 hsh hF hP pe d0 d1 d2 d3 Q4
  obtain ⟨d0, d1, d2, d3⟩ := box3 Q5.out.d
  go_wp2_with fail
  refine (pokes_any d HW.out F P A B L R cp cq cl cr m _ HM.out HSH.out).mono ?_
  rintro e w6 ⟨v6, rfl, hv6, hb6⟩
  rw [HM.out, PE.out] at hv6
  obtain ⟨A6, c6, rfl, src6⟩ := hv6.at.src
  have Q6 := hide (Q5.out.below hb6)
  have S6 := hide src6
  have B6 : (sel d (cuC (4 * d.n + 1)) ++ sel d (unC d.n)).length + (sel d (pkNX d.n (4 * d.n + 2))).length ≤ maxLen := by unfold maxLen; rw [List.length_append]; omega
  have C6 : ((sel d (cuC (4 * d.n + 1)) ++ sel d (unC d.n)).length + (sel d (pkNX d.n (4 * d.n + 2))).length) * 40 ≤ 140737488355328 := by rw [List.length_append]; omega
  have D6 : b ≤ w6.heap.size := Q6.out.lo2
  clear hb6 hv6 src6 d0 d1 d2 d3 Q5 HSH PE
  go_wp2_with (at_builtin; refine wpList_append_src _ (by rfl) _ _ 27 (by rfl) b 37 n0 (.agg #[.int .i64 0, .int .i64 0, .int .i64 0, .int .i64 0, .bool false]) 40 Try.underlying27 hn0 hz0 hz1 hz2 rfl v4 _ _ (by rfl) Q6.out.o A6 _ c6 _ (by rfl) S6.out B6 C6 D6 ?_; intro v7 w7 own7 grow7; obtain ⟨d0, d1, d2, d3⟩ := box3 (Q6.out.app own7 grow7).d; have Q7 := hide (Q6.out.app own7 grow7); clear own7 grow7)
  clear Q6 S6 B6 C6 D6
  refine (unpokes_any d HW.out A B cp cq m _ HM.out (HG.out.keep Q7.out.bel)).mono ?_
  rintro e w8 ⟨v8, rfl, hv8, hb8⟩
  rw [up_sel] at hv8
  obtain ⟨A8, c8, rfl, src8⟩ := hv8.at.src
  have Q8 := hide (Q7.out.below hb8)
  have S8 := hide src8
  have B8 : (sel d (cuC (4 * d.n + 1)) ++ sel d (unC d.n) ++ sel d (pkNX d.n (4 * d.n + 2))).length + (sel d (upNX d.n d.n)).length ≤ maxLen := by unfold maxLen; simp only [List.length_append]; omega
  have C8 : ((sel d (cuC (4 * d.n + 1)) ++ sel d (unC d.n) ++ sel d (pkNX d.n (4 * d.n + 2))).length + (sel d (upNX d.n d.n)).length) * 40 ≤ 140737488355328 := by simp only [List.length_append]; omega
  have D8 : b ≤ w8.heap.size := Q8.out.lo2
  clear hb8 hv8 src8 d0 d1 d2 d3 Q7
  go_wp2_with (at_builtin; refine wpList_append_src _ (by rfl) _ _ 27 (by rfl) b 37 n0 (.agg #[.int .i64 0, .int .i64 0, .int .i64 0, .int .i64 0, .bool false]) 40 Try.underlying27 hn0 hz0 hz1 hz2 rfl v7 _ _ (by rfl) Q8.out.o A8 _ c8 _ (by rfl) S8.out B8 C8 D8 ?_; intro v9 w9 own9 grow9; obtain ⟨d0, d1, d2, d3⟩ := box3 (Q8.out.app own9 grow9).d; have Q9 := hide (Q8.out.app own9 grow9); clear own9 grow9)
  clear Q8 S8 B8 C8 D8
  refine (slides_any d HW.out A B cp cq m _ HM.out (HG.out.keep Q9.out.bel)).mono ?_
  rintro e w10 ⟨v10, rfl, hv10, hb10⟩
  rw [HM.out] at hv10
  have lsl := slL_len d (4 * d.n)
  obtain ⟨A10, c10, rfl, src10⟩ := hv10.src
  have Q10 := hide (Q9.out.below hb10)
  have S10 := hide src10
  have B10 : (sel d (cuC (4 * d.n + 1)) ++ sel d (unC d.n) ++ sel d (pkNX d.n (4 * d.n + 2)) ++ sel d (upNX d.n d.n)).length + (slL d (4 * d.n)).length ≤ maxLen := by unfold maxLen; simp only [List.length_append]; omega
  have C10 : ((sel d (cuC (4 * d.n + 1)) ++ sel d (unC d.n) ++ sel d (pkNX d.n (4 * d.n + 2)) ++ sel d (upNX d.n d.n)).length + (slL d (4 * d.n)).length) * 40 ≤ 140737488355328 := by simp only [List.length_append]; omega
  have D10 : b ≤ w10.heap.size := Q10.out.lo2
  clear hb10 hv10 src10 d0 d1 d2 d3 Q9
  go_wp2_with (at_builtin; refine wpList_append_src _ (by rfl) _ _ 27 (by rfl) b 37 n0 (.agg #[.int .i64 0, .int .i64 0, .int .i64 0, .int .i64 0, .bool false]) 40 Try.underlying27 hn0 hz0 hz1 hz2 rfl v9 _ _ (by rfl) Q10.out.o A10 _ c10 _ (by rfl) S10.out B10 C10 D10 ?_; intro v11 w11 own11 grow11; obtain ⟨d0, d1, d2, d3⟩ := box3 (Q10.out.app own11 grow11).d; have Q11 := hide (Q10.out.app own11 grow11); clear own11 grow11)
  go_ret
  exact ⟨v11, rfl, ⟨b, by have := Q11.out.lo; omega, Q11.out.lo2, Q11.out.o⟩, Q11.out.bel⟩
end Go.Proofs.Ytghdiolnonejaaa
end

section
namespace Go.Proofs.Ytghdiolnonejaaa
open Go Go.RowKit
attribute [local go_sem ↓] Go.wp_at_zero Go.wp_at_succ
theorem mv_get : ∀ (ms : List Mv) (j : Nat) (z : Mv), ms[j]? = some z → ∀ (i : Nat) (u : Value), z.cells[i]? = some u → (mvs ms)[j * 5 + i]? = some u
  | [], j, z, h, _, _, _ => by cases h
  | m :: ms, 0, z, h, i, u, hu => by
    obtain rfl : m = z := by simpa using h
    have hi : i < m.cells.length := (List.getElem?_eq_some_iff.1 hu).1
    show (m.cells ++ mvs ms)[0 * 5 + i]? = some u
    rw [Nat.zero_mul, Nat.zero_add, List.getElem?_append_left hi, hu]
  | m :: ms, j + 1, z, h, i, u, hu => by
    have ih := mv_get ms j z (by simpa using h) i u hu
    show (m.cells ++ mvs ms)[(j + 1) * 5 + i]? = some u
    have e : m.cells.length = 5 := rfl
    rw [List.getElem?_append_right (by rw [e]; omega), e, ← ih]
    congr 1
    omega
theorem mv_val {w : World} {v : Value} {ms : List Mv} (h : MovesAt w v ms) : ∃ (A : Option Addr) (c : Nat), v = .slice A ms.length c ∧ (0 < ms.length → ∃ g, A = some ⟨g, 0, none⟩ ∧ g < w.heap.size ∧ ∀ (j : Nat) (z : Mv), ms[j]? = some z → ∀ (i : Nat) (u : Value), z.cells[i]? = some u → w.cell? ⟨g, j * 5 + i, none⟩ = some u) := by
  obtain ⟨base, h⟩ := h
  obtain ⟨A, c, rfl⟩ := owns_slice h
  refine ⟨A, c, rfl, fun hp => ?_⟩
  obtain ⟨g, cap, e, _, hg⟩ := World.ownsRow.form h hp
  injection e with e1 _ _
  subst e1
  refine ⟨g, rfl, hg, fun j z hz i u hu => ?_⟩
  have hj : j < ms.length := (List.getElem?_eq_some_iff.1 hz).1
  have hi : i < 5 := (List.getElem?_eq_some_iff.1 hu).1
  rw [World.ownsRow.cellAt h (j * 5 + i) (by omega)]
  exact mv_get ms j z hz i u hu
/-- A slice of moves, by its cells. -/
def MovesV (w : World) (A : Option Addr) (n : Nat) (ms : List Mv) : Prop := n = ms.length ∧ (0 < n → ∃ g, A = some ⟨g, 0, none⟩ ∧ g < w.heap.size ∧ ∀ (j : Nat) (z : Mv), ms[j]? = some z → ∀ (i : Nat) (u : Value), z.cells[i]? = some u → w.cell? ⟨g, j * 5 + i, none⟩ = some u)
theorem MovesV.keep {w w' : World} {A : Option Addr} {n : Nat} {ms : List Mv} (h : MovesV w A n ms) (hb : Below w.heap.size w w') : MovesV w' A n ms :=
  ⟨h.1, fun hp => let ⟨g, e, hl, hc⟩ := h.2 hp; ⟨g, e, Nat.lt_of_lt_of_le hl hb.size, fun j z hz i u hu => cell_below (hc j z hz i u hu) hb⟩⟩
theorem MovesAt.mv {w : World} {v : Value} {ms : List Mv} (h : MovesAt w v ms) : ∃ (A : Option Addr) (c : Nat), v = .slice A ms.length c ∧ MovesV w A ms.length ms := by
  obtain ⟨A, c, e, h2⟩ := mv_val h
  exact ⟨A, c, e, rfl, h2⟩
theorem MovesV.nil (w : World) (A : Option Addr) : MovesV w A 0 [] := ⟨rfl, fun h => absurd h (by omega)⟩
theorem MovesV.at_ {w : World} {A : Option Addr} {n j : Nat} {ms : List Mv} (h : MovesV w A n ms) (hj : j < n) : ∃ g k x y s o, A = some ⟨g, 0, none⟩ ∧ g < w.heap.size ∧ ms[j]? = some ⟨k, x, y, s, o⟩ ∧ w.cell? ⟨g, j * 5, none⟩ = some (.int .i64 k) ∧ w.cell? ⟨g, j * 5 + 1, none⟩ = some (.int .i64 x) ∧ w.cell? ⟨g, j * 5 + 2, none⟩ = some (.int .i64 y) ∧ w.cell? ⟨g, j * 5 + 3, none⟩ = some (.int .i64 s) ∧ w.cell? ⟨g, j * 5 + 4, none⟩ = some (.bool o) := by
  obtain ⟨g, e, hl, hc⟩ := h.2 (by omega)
  obtain ⟨z, hz⟩ : ∃ z, ms[j]? = some z := ⟨_, List.getElem?_eq_getElem (by rw [← h.1]; exact hj)⟩
  obtain ⟨k, x, y, s, o⟩ := z
  exact ⟨g, k, x, y, s, o, e, hl, hz, hc j _ hz 0 _ rfl, hc j _ hz 1 _ rfl, hc j _ hz 2 _ rfl, hc j _ hz 3 _ rfl, hc j _ hz 4 _ rfl⟩
end Go.Proofs.Ytghdiolnonejaaa
end

section
namespace Go.Proofs.Ytghdiolnonejaaa
open Go Go.RowKit
theorem mem_cuC {n : Nat} {z : Mv} : ∀ k, k ≤ 4 * n + 1 → (z ∈ cuC k ↔ z.kind = 1 ∧ inR n z ∧ z.x < (k : Int) - 1)
  | 0, _ => by
    constructor
    · intro h; cases h
    · rintro ⟨h1, h2, h3⟩
      unfold inR at h2
      rw [if_pos h1] at h2
      omega
  | k + 1, h => by
    show z ∈ cuC k ++ cuN ((k : Int) - 1) ↔ _
    rw [List.mem_append, mem_cuC (n := n) k (by omega)]
    obtain ⟨zk, zx, zy, zs, zo⟩ := z
    constructor
    · rintro (⟨h1, h2, h3⟩ | h1)
      · exact ⟨h1, h2, by simp only at h3 ⊢; omega⟩
      · unfold cuN at h1
        simp only [List.mem_cons, List.not_mem_nil, or_false, Mv.mk.injEq] at h1
        unfold inR
        refine ⟨by simp only; omega, ?_, by simp only; omega⟩
        rw [if_pos (by simp only; omega)]
        simp only
        omega
    · rintro ⟨h1, h2, h3⟩
      by_cases hx : zx < (k : Int) - 1
      · exact .inl ⟨h1, h2, hx⟩
      · right
        unfold inR at h2
        rw [if_pos h1] at h2
        simp only at h1 h2 h3
        unfold cuN
        simp only [List.mem_cons, List.not_mem_nil, or_false, Mv.mk.injEq]
        have hx2 : zx = (k : Int) - 1 := by omega
        cases zo <;> simp <;> omega
theorem mem_unC {n : Nat} {z : Mv} : ∀ k, k ≤ n → (z ∈ unC k ↔ z.kind = 2 ∧ inR n z ∧ z.x < (k : Int))
  | 0, _ => by
    constructor
    · intro h; cases h
    · rintro ⟨h1, h2, h3⟩
      unfold inR at h2
      rw [if_neg (by omega), if_pos h1] at h2
      omega
  | k + 1, h => by
    show z ∈ unC k ++ [⟨2, k, 0, 0, false⟩] ↔ _
    rw [List.mem_append, mem_unC (n := n) k (by omega)]
    obtain ⟨zk, zx, zy, zs, zo⟩ := z
    constructor
    · rintro (⟨h1, h2, h3⟩ | h1)
      · exact ⟨h1, h2, by simp only at h3 ⊢; omega⟩
      · simp only [List.mem_cons, List.not_mem_nil, or_false, Mv.mk.injEq] at h1
        obtain ⟨rfl, rfl, rfl, rfl, rfl⟩ := h1
        refine ⟨rfl, ?_, by simp only; omega⟩
        unfold inR
        simp
        omega
    · rintro ⟨h1, h2, h3⟩
      by_cases hx : zx < (k : Int)
      · exact .inl ⟨h1, h2, hx⟩
      · right
        unfold inR at h2
        rw [if_neg (by omega), if_pos h1] at h2
        simp only at h1 h2 h3
        simp only [List.mem_cons, List.not_mem_nil, or_false, Mv.mk.injEq]
        exact ⟨h1, by omega, h2.2.2.1, h2.2.2.2.1, h2.2.2.2.2⟩
theorem mem_upN {n x : Nat} {z : Mv} : ∀ k, k ≤ n → (z ∈ upN x k ↔ z.kind = 4 ∧ inR n z ∧ z.x = (x : Int) ∧ z.y < (k : Int))
  | 0, _ => by
    constructor
    · intro h; cases h
    · rintro ⟨h1, h2, h3, h4⟩
      unfold inR at h2
      rw [if_neg (by omega), if_neg (by omega), if_pos h1] at h2
      omega
  | k + 1, h => by
    show z ∈ upN x k ++ (if x < k then [⟨4, x, k, 0, false⟩] else []) ↔ _
    rw [List.mem_append, mem_upN (n := n) k (by omega)]
    obtain ⟨zk, zx, zy, zs, zo⟩ := z
    constructor
    · rintro (⟨h1, h2, h3, h4⟩ | h1)
      · exact ⟨h1, h2, h3, by simp only at h4 ⊢; omega⟩
      · split at h1
        · simp only [List.mem_cons, List.not_mem_nil, or_false, Mv.mk.injEq] at h1
          obtain ⟨rfl, rfl, rfl, rfl, rfl⟩ := h1
          refine ⟨rfl, ?_, rfl, by simp only; omega⟩
          unfold inR
          simp
          omega
        · cases h1
    · rintro ⟨h1, h2, h3, h4⟩
      by_cases hx : zy < (k : Int)
      · exact .inl ⟨h1, h2, h3, hx⟩
      · right
        unfold inR at h2
        rw [if_neg (by omega), if_neg (by omega), if_pos h1] at h2
        simp only at h1 h2 h3 h4
        rw [if_pos (by omega)]
        simp only [List.mem_cons, List.not_mem_nil, or_false, Mv.mk.injEq]
        exact ⟨h1, h3, by omega, h2.2.2.2.1, h2.2.2.2.2⟩
theorem mem_upNX {n : Nat} {z : Mv} : ∀ k, k ≤ n → (z ∈ upNX n k ↔ z.kind = 4 ∧ inR n z ∧ z.x < (k : Int))
  | 0, _ => by
    constructor
    · intro h; cases h
    · rintro ⟨h1, h2, h3⟩
      unfold inR at h2
      rw [if_neg (by omega), if_neg (by omega), if_pos h1] at h2
      omega
  | k + 1, h => by
    show z ∈ upNX n k ++ upN k n ↔ _
    rw [List.mem_append, mem_upNX (n := n) k (by omega), mem_upN (n := n) n (Nat.le_refl _)]
    constructor
    · rintro (⟨h1, h2, h3⟩ | ⟨h1, h2, h3, h4⟩)
      · exact ⟨h1, h2, by omega⟩
      · exact ⟨h1, h2, by omega⟩
    · rintro ⟨h1, h2, h3⟩
      by_cases hx : z.x < (k : Int)
      · exact .inl ⟨h1, h2, hx⟩
      · right
        refine ⟨h1, h2, by omega, ?_⟩
        unfold inR at h2
        rw [if_neg (by omega), if_neg (by omega), if_pos h1] at h2
        omega
theorem mem_pkN {x y : Int} {z : Mv} : ∀ k, (z ∈ pkN x y k ↔ z.kind = 3 ∧ z.x = x ∧ z.y = y ∧ -1 ≤ z.sign ∧ z.sign < (k : Int) - 1)
  | 0 => by
    constructor
    · intro h; cases h
    · rintro ⟨h1, h2, h3, h4, h5⟩
      omega
  | k + 1 => by
    show z ∈ pkN x y k ++ [⟨3, x, y, (k : Int) - 1, false⟩, ⟨3, x, y, (k : Int) - 1, true⟩] ↔ _
    rw [List.mem_append, mem_pkN k]
    obtain ⟨zk, zx, zy, zs, zo⟩ := z
    simp only [List.mem_cons, List.not_mem_nil, or_false, Mv.mk.injEq]
    constructor
    · rintro (⟨h1, h2, h3, h4, h5⟩ | h1)
      · exact ⟨h1, h2, h3, h4, by omega⟩
      · exact ⟨by omega, by omega, by omega, by omega, by omega⟩
    · rintro ⟨h1, h2, h3, h4, h5⟩
      by_cases hx : zs < (k : Int) - 1
      · exact .inl ⟨h1, h2, h3, h4, hx⟩
      · right
        cases zo <;> simp <;> omega
theorem pk_sign {n : Nat} {z : Mv} (hk : z.kind = 3) (h : inR n z) : -2 ≤ z.x ∧ z.x < 4 * n ∧ -2 ≤ z.y ∧ z.y < 4 * n ∧ -1 ≤ z.sign ∧ z.sign ≤ 1 := by
  unfold inR at h
  rw [if_neg (by omega), if_neg (by omega), if_neg (by omega), if_neg (by omega)] at h
  obtain ⟨h1, h2, h3, h4, h5⟩ := h
  refine ⟨h1, h2, h3, h4, ?_⟩
  split at h5
  · omega
  · split at h5 <;> omega
theorem mem_pkNY {x : Int} {z : Mv} : ∀ k, (z ∈ pkNY x k ↔ z.kind = 3 ∧ z.x = x ∧ -2 ≤ z.y ∧ z.y < (k : Int) - 2 ∧ -1 ≤ z.sign ∧ z.sign ≤ 1)
  | 0 => by
    constructor
    · intro h; cases h
    · rintro ⟨h1, h2, h3, h4, h5⟩
      omega
  | k + 1 => by
    show z ∈ pkNY x k ++ pkN x ((k : Int) - 2) 3 ↔ _
    rw [List.mem_append, mem_pkNY k, mem_pkN]
    constructor
    · rintro (⟨h1, h2, h3, h4, h5⟩ | ⟨h1, h2, h3, h4, h5⟩)
      · exact ⟨h1, h2, h3, by omega, h5⟩
      · exact ⟨h1, h2, by omega, by omega, by omega, by omega⟩
    · rintro ⟨h1, h2, h3, h4, h5, h6⟩
      by_cases hx : z.y < (k : Int) - 2
      · exact .inl ⟨h1, h2, h3, hx, h5, h6⟩
      · exact .inr ⟨h1, h2, by omega, h5, by omega⟩
theorem mem_pkNX {n : Nat} {z : Mv} : ∀ k, (z ∈ pkNX n k ↔ z.kind = 3 ∧ -2 ≤ z.x ∧ z.x < (k : Int) - 2 ∧ -2 ≤ z.y ∧ z.y < 4 * n ∧ -1 ≤ z.sign ∧ z.sign ≤ 1)
  | 0 => by
    constructor
    · intro h; cases h
    · rintro ⟨h1, h2, h3, h4, h5⟩
      omega
  | k + 1 => by
    show z ∈ pkNX n k ++ pkNY ((k : Int) - 2) (4 * n + 2) ↔ _
    rw [List.mem_append, mem_pkNX (n := n) k, mem_pkNY]
    constructor
    · rintro (⟨h1, h2, h3, h4, h5⟩ | ⟨h1, h2, h3, h4, h5, h6⟩)
      · exact ⟨h1, h2, by omega, h4, h5⟩
      · exact ⟨h1, by omega, by omega, h3, by omega, h5, h6⟩
    · rintro ⟨h1, h2, h3, h4, h5, h6, h7⟩
      by_cases hx : z.x < (k : Int) - 2
      · exact .inl ⟨h1, h2, hx, h4, h5, h6, h7⟩
      · exact .inr ⟨h1, by omega, h4, by omega, h6, h7⟩
theorem slL_five {d : Pl.Dg} {k : Nat} {z : Mv} (h : z ∈ slL d k) : z.kind = 5 := by
  obtain ⟨_, _, _, rfl⟩ := (slL_mem d z k).1 h
  rfl
/-- A move other than a slide is listed exactly if it can be applied. -/
theorem listed {d : Pl.Dg} {z : Mv} (hk : z.kind ≠ 5) : z ∈ allL d ↔ apC d z = 0 := by
  unfold allL
  simp only [List.mem_append, mem_sel]
  constructor
  · rintro ((((h | h) | h) | h) | h)
    · exact h.2
    · exact h.2
    · exact h.2
    · exact h.2
    · exact absurd (slL_five h) hk
  · intro h
    have h15 : 1 ≤ z.kind ∧ z.kind ≤ 5 := by
      by_cases h1 : z.kind < 1 ∨ 5 < z.kind
      · unfold apC at h
        rw [if_pos h1] at h
        cases h
      · omega
    have hin : inR d.n z := by
      by_cases hin : inR d.n z
      · exact hin
      · rw [apC_out h15 hin] at h
        cases h
    have h4 : z.kind = 1 ∨ z.kind = 2 ∨ z.kind = 3 ∨ z.kind = 4 := by omega
    left
    rcases h4 with h4 | h4 | h4 | h4
    · refine .inl (.inl (.inl ⟨(mem_cuC _ (Nat.le_refl _)).2 ⟨h4, hin, ?_⟩, h⟩))
      unfold inR at hin
      rw [if_pos h4] at hin
      omega
    · refine .inl (.inl (.inr ⟨(mem_unC _ (Nat.le_refl _)).2 ⟨h4, hin, ?_⟩, h⟩))
      unfold inR at hin
      rw [if_neg (by omega), if_pos h4] at hin
      omega
    · have := pk_sign h4 hin
      exact .inl (.inr ⟨(mem_pkNX _).2 ⟨h4, by omega, by omega, by omega, by omega, by omega, by omega⟩, h⟩)
    · refine .inr ⟨(mem_upNX _ (Nat.le_refl _)).2 ⟨h4, hin, ?_⟩, h⟩
      unfold inR at hin
      rw [if_neg (by omega), if_neg (by omega), if_pos h4] at hin
      omega
/-- A listed move can be applied. -/
theorem listed_ok {d : Pl.Dg} {z : Mv} (h : z ∈ allL d) : apC d z = 0 := by
  by_cases hk : z.kind = 5
  · unfold allL at h
    simp only [List.mem_append, mem_sel] at h
    rcases h with (((h | h) | h) | h) | h
    · exact h.2
    · exact h.2
    · exact h.2
    · exact h.2
    · obtain ⟨g, hg, hp, rfl⟩ := (slL_mem d z _).1 h
      rw [apC_in (by simp) (by unfold inR; simp; omega)]
      simp [sldC, hp.2.2]
  · exact (listed hk).1 h
theorem filter_none {p : Mv → Bool} {l : List Mv} (h : ∀ z, z ∈ l → p z = false) : l.filter p = [] := by
  rw [List.filter_eq_nil_iff]
  intro z hz
  rw [h z hz]
  decide
end Go.Proofs.Ytghdiolnonejaaa
end

section
namespace Go.Proofs.Ytghdiolnonejaaa
open Go Go.RowKit
attribute [local go_sem ↓] Go.wp_at_zero Go.wp_at_succ
/-- Two growing lists of moves of the call's own. -/
structure LS (w : World) (vR vS : Value) (rs ss : List Mv) (W : World) : Prop where
  r : W.ownsRow w.heap.size 37 5 vR rs.length (mvs rs)
  s : W.ownsRow w.heap.size 37 5 vS ss.length (mvs ss)
  ne : ∀ g, vR.ownBlock = some g → vS.ownBlock = some g → False
  bel : Below w.heap.size w W
section
variable {w W W' W2 : World} {vR vS : Value} {rs ss : List Mv} {m : Mv} {g n c : Nat}
theorem LS.below (h : LS w vR vS rs ss W) (hb : Below W.heap.size W W') : LS w vR vS rs ss W' := ⟨own_below h.r hb, own_below h.s hb, h.ne, h.bel.trans (hb.mono h.bel.size)⟩
theorem LS.alloc (h : LS w vR vS rs ss W) (o : Obj) : LS w vR vS rs ss (W.alloc o) := h.below ((Below.refl _ _).alloc (Nat.le_refl _) o)
theorem LS.drewN (h : LS w vR vS rs ss W) (n : Nat) : LS w vR vS rs ss (W.drewN n) := ⟨h.r, h.s, h.ne, below_drewN h.bel n⟩
theorem apart {v u : Value} (ne : ∀ g, v.ownBlock = some g → u.ownBlock = some g → False) : u.ownBlock = none ∨ u.ownBlock ≠ v.ownBlock := by
  cases hu : u.ownBlock with
  | none => exact .inl rfl
  | some g => exact .inr (fun e => ne g e.symm hu)
end
theorem pkN_len (x y : Int) : ∀ k, (pkN x y k).length ≤ 2 * k
  | 0 => Nat.le_refl _
  | k + 1 => by
    have a := pkN_len x y k
    show (pkN x y k ++ [_, _]).length ≤ _
    rw [List.length_append]
    simp only [List.length_cons, List.length_nil]
    omega
theorem pkNY_len (x : Int) : ∀ k, (pkNY x k).length ≤ 6 * k
  | 0 => Nat.le_refl _
  | k + 1 => by
    have a := pkNY_len x k
    have b := pkN_len x ((k : Int) - 2) 3
    show (pkNY x k ++ pkN x ((k : Int) - 2) 3).length ≤ _
    rw [List.length_append]
    omega
theorem pkNX_len {n : Nat} (hn : n ≤ 64) : ∀ k, (pkNX n k).length ≤ 1548 * k
  | 0 => Nat.le_refl _
  | k + 1 => by
    have a := pkNX_len hn k
    have b := pkNY_len ((k : Int) - 2) (4 * n + 2)
    show (pkNX n k ++ pkNY ((k : Int) - 2) (4 * n + 2)).length ≤ _
    rw [List.length_append]
    omega
theorem allL_le {d : Pl.Dg} (hn : d.n ≤ 64) : (allL d).length ≤ 500000 := by
  have a := cu_le (d := d) hn
  have b := un_le (d := d) hn
  have c := sel_len d (pkNX d.n (4 * d.n + 2))
  have c2 := pkNX_len hn (4 * d.n + 2)
  have e := up_le (d := d) hn
  have f := slL_len d (4 * d.n)
  unfold allL
  simp only [List.length_append]
  omega
end Go.Proofs.Ytghdiolnonejaaa
end

section
namespace Go.Proofs.Ytghdiolnonejaaa
open Go Go.RowKit
/-- How many strands, of those that begin below k. -/
noncomputable def strK (d : Pl.Dg) (k : Nat) : Nat := Pl.cnt (Pl.Lst (fun h => h < 4 * d.n ∧ Pl.out d h = true) (Pl.Orb (Pl.st d))) k
noncomputable def strN (d : Pl.Dg) : Nat := strK d (4 * d.n)
theorem strN_str (d : Pl.Dg) (hd : Pl.Wf d) : Pl.Str d (strN d) :=
  Pl.Cls.count (4 * d.n) (fun x hx => hx.1) ⟨fun x hx => Pl.Orb.refl _ _, fun x y hx hy e => (Pl.st_bij hd).symm hx.1 e, fun x y z _ _ _ e e' => e.trans e'⟩
end Go.Proofs.Ytghdiolnonejaaa
end

section
namespace Go.Proofs.Ytghdiolnonejaaa.Pl
section
variable {d d' : Dg} {f g : Nat} {fx fy : Bool}
theorem Pd.l0 (hd : Valid d) (K : Pd d d' f g fx fy) : (pkL0 d f g).length = 4 * (d.n + 2) ∧ (pkL0 d f g).getD (pp d.n f 0) 0 = pp (d.n + 1) g 2 ∧ (pkL0 d f g).getD (pp d.n f 1) 0 = pp (d.n + 1) g 1 ∧ ∀ z, z < 4 * d.n → (pkL0 d f g).getD z 0 = d.m z := by
  have B := K.base hd
  have hw := (Valid.iff.1 hd).1
  refine ⟨B.ms.len, ?_, ?_, fun z hz => ?_⟩
  · rw [B.ms.at_ _ (by unfold pp; omega) (by rw [B.b4]; unfold pp; omega), B.b4]
  · rw [B.ms.at_ _ (by unfold pp; omega) (by rw [B.b1]; unfold pp; omega), B.b1]
  · rw [B.ms.at_ z (by omega) (by rw [B.old z hz]; exact hw.ne z hz), B.old z hz]
theorem Pd.out_loops (hd : Valid d) (K : Pd d d' f g fx fy) (hv : Valid d') (hl : d'.mt = jl (jl (pkL0 d f g) (pp (d.n + 1) g 0) (pp d.n f 2)) (pp d.n f 3) (pp (d.n + 1) g 3)) : Out d d' f g 1 1 := by
  have hw := (Valid.iff.1 hd).1
  have hw' := (Valid.iff.1 hv).1
  obtain ⟨ln, l0, l1, lo⟩ := K.l0 hd
  have e : ∀ z, z < 4 * (d.n + 2) → d'.m z = if z = (pp (d.n + 1) g 3) then (pp d.n f 3) else if z = (pp d.n f 3) then (pp (d.n + 1) g 3) else if z = (pp d.n f 2) then (pp (d.n + 1) g 0) else if z = (pp (d.n + 1) g 0) then (pp d.n f 2) else (pkL0 d f g).getD z 0 := fun z hz => by
    rw [← dg_m hw' (by rw [K.n]; exact hz), hl, jl_at (by simp only [jl_len, ln, pp]; omega) (by simp only [jl_len, ln, pp]; omega), jl_at (by simp only [jl_len, ln, pp]; omega) (by simp only [jl_len, ln, pp]; omega)]
  have m0 : d'.m (pp d.n f 0) = (pp (d.n + 1) g 2) := by rw [e _ (by unfold pp; omega), if_neg (by unfold pp; omega), if_neg (by unfold pp; omega), if_neg (by unfold pp; omega), if_neg (by unfold pp; omega), l0]
  have m1 : d'.m (pp d.n f 1) = (pp (d.n + 1) g 1) := by rw [e _ (by unfold pp; omega), if_neg (by unfold pp; omega), if_neg (by unfold pp; omega), if_neg (by unfold pp; omega), if_neg (by unfold pp; omega), l1]
  have v2 : d'.m (pp d.n f 2) = (pp (d.n + 1) g 0) := by rw [e _ (by unfold pp; omega), if_neg (by unfold pp; omega), if_neg (by unfold pp; omega), if_pos rfl]
  have v0 : d'.m (pp (d.n + 1) g 0) = (pp d.n f 2) := by rw [e _ (by unfold pp; omega), if_neg (by unfold pp; omega), if_neg (by unfold pp; omega), if_neg (by unfold pp; omega), if_pos rfl]
  have v3 : d'.m (pp d.n f 3) = (pp (d.n + 1) g 3) := by rw [e _ (by unfold pp; omega), if_neg (by unfold pp; omega), if_pos rfl]
  have w3 : d'.m (pp (d.n + 1) g 3) = (pp d.n f 3) := by rw [e _ (by unfold pp; omega), if_pos rfl]
  have old : ∀ z, z < 4 * d.n → d'.m z = d.m z := fun z hz => by rw [e z (by omega), if_neg (by unfold pp; omega), if_neg (by unfold pp; omega), if_neg (by unfold pp; omega), if_neg (by unfold pp; omega), lo z hz]
  exact (show In d d' f g from ⟨K.n, hv, m0, m1⟩).loops v2 v3 old
theorem Pd.out_xedge (hd : Valid d) (K : Pd d d' f g fx fy) (hv : Valid d') {x : Nat} (hx : x < 4 * d.n) (hl : d'.mt = jl (jl (jl (pkL0 d f g) (pp (d.n + 1) g 0) (pp d.n f 2)) x (pp d.n f 3)) (pp (d.n + 1) g 3) (d.m x)) : Out d d' f g 1 0 := by
  have hw := (Valid.iff.1 hd).1
  have hw' := (Valid.iff.1 hv).1
  obtain ⟨ln, l0, l1, lo⟩ := K.l0 hd
  have hmx := hw.lt x hx
  have hnex := hw.ne x hx
  have e : ∀ z, z < 4 * (d.n + 2) → d'.m z = if z = (d.m x) then (pp (d.n + 1) g 3) else if z = (pp (d.n + 1) g 3) then (d.m x) else if z = (pp d.n f 3) then x else if z = x then (pp d.n f 3) else if z = (pp d.n f 2) then (pp (d.n + 1) g 0) else if z = (pp (d.n + 1) g 0) then (pp d.n f 2) else (pkL0 d f g).getD z 0 := fun z hz => by
    rw [← dg_m hw' (by rw [K.n]; exact hz), hl, jl_at (by simp only [jl_len, ln, pp]; omega) (by simp only [jl_len, ln, pp]; omega), jl_at (by simp only [jl_len, ln, pp]; omega) (by simp only [jl_len, ln, pp]; omega), jl_at (by simp only [jl_len, ln, pp]; omega) (by simp only [jl_len, ln, pp]; omega)]
  have m0 : d'.m (pp d.n f 0) = (pp (d.n + 1) g 2) := by rw [e _ (by unfold pp; omega), if_neg (by unfold pp; omega), if_neg (by unfold pp; omega), if_neg (by unfold pp; omega), if_neg (by unfold pp; omega), if_neg (by unfold pp; omega), if_neg (by unfold pp; omega), l0]
  have m1 : d'.m (pp d.n f 1) = (pp (d.n + 1) g 1) := by rw [e _ (by unfold pp; omega), if_neg (by unfold pp; omega), if_neg (by unfold pp; omega), if_neg (by unfold pp; omega), if_neg (by unfold pp; omega), if_neg (by unfold pp; omega), if_neg (by unfold pp; omega), l1]
  have v2 : d'.m (pp d.n f 2) = (pp (d.n + 1) g 0) := by rw [e _ (by unfold pp; omega), if_neg (by unfold pp; omega), if_neg (by unfold pp; omega), if_neg (by unfold pp; omega), if_neg (by unfold pp; omega), if_pos rfl]
  have v0 : d'.m (pp (d.n + 1) g 0) = (pp d.n f 2) := by rw [e _ (by unfold pp; omega), if_neg (by unfold pp; omega), if_neg (by unfold pp; omega), if_neg (by unfold pp; omega), if_neg (by unfold pp; omega), if_neg (by unfold pp; omega), if_pos rfl]
  have v3 : d'.m (pp d.n f 3) = x := by rw [e _ (by unfold pp; omega), if_neg (by unfold pp; omega), if_neg (by unfold pp; omega), if_pos rfl]
  have w3 : d'.m (pp (d.n + 1) g 3) = (d.m x) := by rw [e _ (by unfold pp; omega), if_neg (by unfold pp; omega), if_pos rfl]
  have old : ∀ z, z < 4 * d.n → z ≠ x → z ≠ d.m x → d'.m z = d.m z := fun z hz z1 z2 => by rw [e z (by omega), if_neg z2, if_neg (by unfold pp; omega), if_neg (by unfold pp; omega), if_neg z1, if_neg (by unfold pp; omega), if_neg (by unfold pp; omega), lo z hz]
  exact (show In d d' f g from ⟨K.n, hv, m0, m1⟩).xedge hw hx v2 v3 w3 old
theorem Pd.out_yedge (hd : Valid d) (K : Pd d d' f g fx fy) (hv : Valid d') {y : Nat} (hy : y < 4 * d.n) (hl : d'.mt = jl (jl (jl (pkL0 d f g) y (pp (d.n + 1) g 0)) (pp d.n f 2) (d.m y)) (pp d.n f 3) (pp (d.n + 1) g 3)) : Out d d' f g 0 1 := by
  have hw := (Valid.iff.1 hd).1
  have hw' := (Valid.iff.1 hv).1
  obtain ⟨ln, l0, l1, lo⟩ := K.l0 hd
  have hmy := hw.lt y hy
  have hney := hw.ne y hy
  have e : ∀ z, z < 4 * (d.n + 2) → d'.m z = if z = (pp (d.n + 1) g 3) then (pp d.n f 3) else if z = (pp d.n f 3) then (pp (d.n + 1) g 3) else if z = (d.m y) then (pp d.n f 2) else if z = (pp d.n f 2) then (d.m y) else if z = (pp (d.n + 1) g 0) then y else if z = y then (pp (d.n + 1) g 0) else (pkL0 d f g).getD z 0 := fun z hz => by
    rw [← dg_m hw' (by rw [K.n]; exact hz), hl, jl_at (by simp only [jl_len, ln, pp]; omega) (by simp only [jl_len, ln, pp]; omega), jl_at (by simp only [jl_len, ln, pp]; omega) (by simp only [jl_len, ln, pp]; omega), jl_at (by simp only [jl_len, ln, pp]; omega) (by simp only [jl_len, ln, pp]; omega)]
  have m0 : d'.m (pp d.n f 0) = (pp (d.n + 1) g 2) := by rw [e _ (by unfold pp; omega), if_neg (by unfold pp; omega), if_neg (by unfold pp; omega), if_neg (by unfold pp; omega), if_neg (by unfold pp; omega), if_neg (by unfold pp; omega), if_neg (by unfold pp; omega), l0]
  have m1 : d'.m (pp d.n f 1) = (pp (d.n + 1) g 1) := by rw [e _ (by unfold pp; omega), if_neg (by unfold pp; omega), if_neg (by unfold pp; omega), if_neg (by unfold pp; omega), if_neg (by unfold pp; omega), if_neg (by unfold pp; omega), if_neg (by unfold pp; omega), l1]
  have v2 : d'.m (pp d.n f 2) = (d.m y) := by rw [e _ (by unfold pp; omega), if_neg (by unfold pp; omega), if_neg (by unfold pp; omega), if_neg (by unfold pp; omega), if_pos rfl]
  have v0 : d'.m (pp (d.n + 1) g 0) = y := by rw [e _ (by unfold pp; omega), if_neg (by unfold pp; omega), if_neg (by unfold pp; omega), if_neg (by unfold pp; omega), if_neg (by unfold pp; omega), if_pos rfl]
  have v3 : d'.m (pp d.n f 3) = (pp (d.n + 1) g 3) := by rw [e _ (by unfold pp; omega), if_neg (by unfold pp; omega), if_pos rfl]
  have w3 : d'.m (pp (d.n + 1) g 3) = (pp d.n f 3) := by rw [e _ (by unfold pp; omega), if_pos rfl]
  have old : ∀ z, z < 4 * d.n → z ≠ y → z ≠ d.m y → d'.m z = d.m z := fun z hz z1 z2 => by rw [e z (by omega), if_neg (by unfold pp; omega), if_neg (by unfold pp; omega), if_neg z2, if_neg (by unfold pp; omega), if_neg (by unfold pp; omega), if_neg z1, lo z hz]
  exact (show In d d' f g from ⟨K.n, hv, m0, m1⟩).yedge hw hy v2 v0 v3 old
theorem Pd.out_edges (hd : Valid d) (K : Pd d d' f g fx fy) (hv : Valid d') {x : Nat} (hx : x < 4 * d.n) {y : Nat} (hy : y < 4 * d.n) (xy : x ≠ y) (xm : d.m x ≠ y) (hl : d'.mt = jl (jl (jl (jl (pkL0 d f g) y (pp (d.n + 1) g 0)) (pp d.n f 2) (d.m y)) x (pp d.n f 3)) (pp (d.n + 1) g 3) (d.m x)) : Out d d' f g 0 0 := by
  have hw := (Valid.iff.1 hd).1
  have hw' := (Valid.iff.1 hv).1
  obtain ⟨ln, l0, l1, lo⟩ := K.l0 hd
  have hmx := hw.lt x hx
  have hnex := hw.ne x hx
  have hmy := hw.lt y hy
  have hney := hw.ne y hy
  have ym : d.m y ≠ x := fun e => xm (by rw [← e, hw.inv y hy])
  have mm : d.m x ≠ d.m y := fun e => xy (hw.bij.inj _ _ hx hy e)
  have e : ∀ z, z < 4 * (d.n + 2) → d'.m z = if z = (d.m x) then (pp (d.n + 1) g 3) else if z = (pp (d.n + 1) g 3) then (d.m x) else if z = (pp d.n f 3) then x else if z = x then (pp d.n f 3) else if z = (d.m y) then (pp d.n f 2) else if z = (pp d.n f 2) then (d.m y) else if z = (pp (d.n + 1) g 0) then y else if z = y then (pp (d.n + 1) g 0) else (pkL0 d f g).getD z 0 := fun z hz => by
    rw [← dg_m hw' (by rw [K.n]; exact hz), hl, jl_at (by simp only [jl_len, ln, pp]; omega) (by simp only [jl_len, ln, pp]; omega), jl_at (by simp only [jl_len, ln, pp]; omega) (by simp only [jl_len, ln, pp]; omega), jl_at (by simp only [jl_len, ln, pp]; omega) (by simp only [jl_len, ln, pp]; omega), jl_at (by simp only [jl_len, ln, pp]; omega) (by simp only [jl_len, ln, pp]; omega)]
  have m0 : d'.m (pp d.n f 0) = (pp (d.n + 1) g 2) := by rw [e _ (by unfold pp; omega), if_neg (by unfold pp; omega), if_neg (by unfold pp; omega), if_neg (by unfold pp; omega), if_neg (by unfold pp; omega), if_neg (by unfold pp; omega), if_neg (by unfold pp; omega), if_neg (by unfold pp; omega), if_neg (by unfold pp; omega), l0]
  have m1 : d'.m (pp d.n f 1) = (pp (d.n + 1) g 1) := by rw [e _ (by unfold pp; omega), if_neg (by unfold pp; omega), if_neg (by unfold pp; omega), if_neg (by unfold pp; omega), if_neg (by unfold pp; omega), if_neg (by unfold pp; omega), if_neg (by unfold pp; omega), if_neg (by unfold pp; omega), if_neg (by unfold pp; omega), l1]
  have v2 : d'.m (pp d.n f 2) = (d.m y) := by rw [e _ (by unfold pp; omega), if_neg (by unfold pp; omega), if_neg (by unfold pp; omega), if_neg (by unfold pp; omega), if_neg (by unfold pp; omega), if_neg (by unfold pp; omega), if_pos rfl]
  have v0 : d'.m (pp (d.n + 1) g 0) = y := by rw [e _ (by unfold pp; omega), if_neg (by unfold pp; omega), if_neg (by unfold pp; omega), if_neg (by unfold pp; omega), if_neg (by unfold pp; omega), if_neg (by unfold pp; omega), if_neg (by unfold pp; omega), if_pos rfl]
  have v3 : d'.m (pp d.n f 3) = x := by rw [e _ (by unfold pp; omega), if_neg (by unfold pp; omega), if_neg (by unfold pp; omega), if_pos rfl]
  have w3 : d'.m (pp (d.n + 1) g 3) = (d.m x) := by rw [e _ (by unfold pp; omega), if_neg (by unfold pp; omega), if_pos rfl]
  have old : ∀ z, z < 4 * d.n → z ≠ x → z ≠ d.m x → z ≠ y → z ≠ d.m y → d'.m z = d.m z := fun z hz z1 z2 z3 z4 => by rw [e z (by omega), if_neg z2, if_neg (by unfold pp; omega), if_neg (by unfold pp; omega), if_neg z1, if_neg z4, if_neg (by unfold pp; omega), if_neg (by unfold pp; omega), if_neg z3, lo z hz]
  exact (show In d d' f g from ⟨K.n, hv, m0, m1⟩).edges hw hx hy xy xm v2 v0 v3 w3 old
theorem Pd.out_self0 (hd : Valid d) (K : Pd d d' f g fx fy) (hv : Valid d') (hl : d'.mt = jl (jl (pkL0 d f g) (pp (d.n + 1) g 3) (pp (d.n + 1) g 0)) (pp d.n f 2) (pp d.n f 3)) : Out d d' f g 0 1 := by
  have hw := (Valid.iff.1 hd).1
  have hw' := (Valid.iff.1 hv).1
  obtain ⟨ln, l0, l1, lo⟩ := K.l0 hd
  have e : ∀ z, z < 4 * (d.n + 2) → d'.m z = if z = (pp d.n f 3) then (pp d.n f 2) else if z = (pp d.n f 2) then (pp d.n f 3) else if z = (pp (d.n + 1) g 0) then (pp (d.n + 1) g 3) else if z = (pp (d.n + 1) g 3) then (pp (d.n + 1) g 0) else (pkL0 d f g).getD z 0 := fun z hz => by
    rw [← dg_m hw' (by rw [K.n]; exact hz), hl, jl_at (by simp only [jl_len, ln, pp]; omega) (by simp only [jl_len, ln, pp]; omega), jl_at (by simp only [jl_len, ln, pp]; omega) (by simp only [jl_len, ln, pp]; omega)]
  have m0 : d'.m (pp d.n f 0) = (pp (d.n + 1) g 2) := by rw [e _ (by unfold pp; omega), if_neg (by unfold pp; omega), if_neg (by unfold pp; omega), if_neg (by unfold pp; omega), if_neg (by unfold pp; omega), l0]
  have m1 : d'.m (pp d.n f 1) = (pp (d.n + 1) g 1) := by rw [e _ (by unfold pp; omega), if_neg (by unfold pp; omega), if_neg (by unfold pp; omega), if_neg (by unfold pp; omega), if_neg (by unfold pp; omega), l1]
  have v2 : d'.m (pp d.n f 2) = (pp d.n f 3) := by rw [e _ (by unfold pp; omega), if_neg (by unfold pp; omega), if_pos rfl]
  have v0 : d'.m (pp (d.n + 1) g 0) = (pp (d.n + 1) g 3) := by rw [e _ (by unfold pp; omega), if_neg (by unfold pp; omega), if_neg (by unfold pp; omega), if_pos rfl]
  have v3 : d'.m (pp d.n f 3) = (pp d.n f 2) := by rw [e _ (by unfold pp; omega), if_pos rfl]
  have w3 : d'.m (pp (d.n + 1) g 3) = (pp (d.n + 1) g 0) := by rw [e _ (by unfold pp; omega), if_neg (by unfold pp; omega), if_neg (by unfold pp; omega), if_neg (by unfold pp; omega), if_pos rfl]
  have old : ∀ z, z < 4 * d.n → d'.m z = d.m z := fun z hz => by rw [e z (by omega), if_neg (by unfold pp; omega), if_neg (by unfold pp; omega), if_neg (by unfold pp; omega), if_neg (by unfold pp; omega), lo z hz]
  exact (show In d d' f g from ⟨K.n, hv, m0, m1⟩).self0 v2 v0 old
theorem Pd.out_self1 (hd : Valid d) (K : Pd d d' f g fx fy) (hv : Valid d') {x : Nat} (hx : x < 4 * d.n) (hl : d'.mt = jl (jl (jl (pkL0 d f g) x (pp d.n f 3)) (pp (d.n + 1) g 3) (pp (d.n + 1) g 0)) (pp d.n f 2) (d.m x)) : Out d d' f g 0 0 := by
  have hw := (Valid.iff.1 hd).1
  have hw' := (Valid.iff.1 hv).1
  obtain ⟨ln, l0, l1, lo⟩ := K.l0 hd
  have hmx := hw.lt x hx
  have hnex := hw.ne x hx
  have e : ∀ z, z < 4 * (d.n + 2) → d'.m z = if z = (d.m x) then (pp d.n f 2) else if z = (pp d.n f 2) then (d.m x) else if z = (pp (d.n + 1) g 0) then (pp (d.n + 1) g 3) else if z = (pp (d.n + 1) g 3) then (pp (d.n + 1) g 0) else if z = (pp d.n f 3) then x else if z = x then (pp d.n f 3) else (pkL0 d f g).getD z 0 := fun z hz => by
    rw [← dg_m hw' (by rw [K.n]; exact hz), hl, jl_at (by simp only [jl_len, ln, pp]; omega) (by simp only [jl_len, ln, pp]; omega), jl_at (by simp only [jl_len, ln, pp]; omega) (by simp only [jl_len, ln, pp]; omega), jl_at (by simp only [jl_len, ln, pp]; omega) (by simp only [jl_len, ln, pp]; omega)]
  have m0 : d'.m (pp d.n f 0) = (pp (d.n + 1) g 2) := by rw [e _ (by unfold pp; omega), if_neg (by unfold pp; omega), if_neg (by unfold pp; omega), if_neg (by unfold pp; omega), if_neg (by unfold pp; omega), if_neg (by unfold pp; omega), if_neg (by unfold pp; omega), l0]
  have m1 : d'.m (pp d.n f 1) = (pp (d.n + 1) g 1) := by rw [e _ (by unfold pp; omega), if_neg (by unfold pp; omega), if_neg (by unfold pp; omega), if_neg (by unfold pp; omega), if_neg (by unfold pp; omega), if_neg (by unfold pp; omega), if_neg (by unfold pp; omega), l1]
  have v2 : d'.m (pp d.n f 2) = (d.m x) := by rw [e _ (by unfold pp; omega), if_neg (by unfold pp; omega), if_pos rfl]
  have v0 : d'.m (pp (d.n + 1) g 0) = (pp (d.n + 1) g 3) := by rw [e _ (by unfold pp; omega), if_neg (by unfold pp; omega), if_neg (by unfold pp; omega), if_pos rfl]
  have v3 : d'.m (pp d.n f 3) = x := by rw [e _ (by unfold pp; omega), if_neg (by unfold pp; omega), if_neg (by unfold pp; omega), if_neg (by unfold pp; omega), if_neg (by unfold pp; omega), if_pos rfl]
  have w3 : d'.m (pp (d.n + 1) g 3) = (pp (d.n + 1) g 0) := by rw [e _ (by unfold pp; omega), if_neg (by unfold pp; omega), if_neg (by unfold pp; omega), if_neg (by unfold pp; omega), if_pos rfl]
  have old : ∀ z, z < 4 * d.n → z ≠ x → z ≠ d.m x → d'.m z = d.m z := fun z hz z1 z2 => by rw [e z (by omega), if_neg z2, if_neg (by unfold pp; omega), if_neg (by unfold pp; omega), if_neg (by unfold pp; omega), if_neg (by unfold pp; omega), if_neg z1, lo z hz]
  exact (show In d d' f g from ⟨K.n, hv, m0, m1⟩).self1 hw hx v2 v0 v3 old
theorem Pd.out_self2 (hd : Valid d) (K : Pd d d' f g fx fy) (hv : Valid d') {x : Nat} (hx : x < 4 * d.n) (hl : d'.mt = jl (jl (jl (pkL0 d f g) x (pp (d.n + 1) g 0)) (pp d.n f 2) (pp d.n f 3)) (pp (d.n + 1) g 3) (d.m x)) : Out d d' f g 0 0 := by
  have hw := (Valid.iff.1 hd).1
  have hw' := (Valid.iff.1 hv).1
  obtain ⟨ln, l0, l1, lo⟩ := K.l0 hd
  have hmx := hw.lt x hx
  have hnex := hw.ne x hx
  have e : ∀ z, z < 4 * (d.n + 2) → d'.m z = if z = (d.m x) then (pp (d.n + 1) g 3) else if z = (pp (d.n + 1) g 3) then (d.m x) else if z = (pp d.n f 3) then (pp d.n f 2) else if z = (pp d.n f 2) then (pp d.n f 3) else if z = (pp (d.n + 1) g 0) then x else if z = x then (pp (d.n + 1) g 0) else (pkL0 d f g).getD z 0 := fun z hz => by
    rw [← dg_m hw' (by rw [K.n]; exact hz), hl, jl_at (by simp only [jl_len, ln, pp]; omega) (by simp only [jl_len, ln, pp]; omega), jl_at (by simp only [jl_len, ln, pp]; omega) (by simp only [jl_len, ln, pp]; omega), jl_at (by simp only [jl_len, ln, pp]; omega) (by simp only [jl_len, ln, pp]; omega)]
  have m0 : d'.m (pp d.n f 0) = (pp (d.n + 1) g 2) := by rw [e _ (by unfold pp; omega), if_neg (by unfold pp; omega), if_neg (by unfold pp; omega), if_neg (by unfold pp; omega), if_neg (by unfold pp; omega), if_neg (by unfold pp; omega), if_neg (by unfold pp; omega), l0]
  have m1 : d'.m (pp d.n f 1) = (pp (d.n + 1) g 1) := by rw [e _ (by unfold pp; omega), if_neg (by unfold pp; omega), if_neg (by unfold pp; omega), if_neg (by unfold pp; omega), if_neg (by unfold pp; omega), if_neg (by unfold pp; omega), if_neg (by unfold pp; omega), l1]
  have v2 : d'.m (pp d.n f 2) = (pp d.n f 3) := by rw [e _ (by unfold pp; omega), if_neg (by unfold pp; omega), if_neg (by unfold pp; omega), if_neg (by unfold pp; omega), if_pos rfl]
  have v0 : d'.m (pp (d.n + 1) g 0) = x := by rw [e _ (by unfold pp; omega), if_neg (by unfold pp; omega), if_neg (by unfold pp; omega), if_neg (by unfold pp; omega), if_neg (by unfold pp; omega), if_pos rfl]
  have v3 : d'.m (pp d.n f 3) = (pp d.n f 2) := by rw [e _ (by unfold pp; omega), if_neg (by unfold pp; omega), if_neg (by unfold pp; omega), if_pos rfl]
  have w3 : d'.m (pp (d.n + 1) g 3) = (d.m x) := by rw [e _ (by unfold pp; omega), if_neg (by unfold pp; omega), if_pos rfl]
  have old : ∀ z, z < 4 * d.n → z ≠ x → z ≠ d.m x → d'.m z = d.m z := fun z hz z1 z2 => by rw [e z (by omega), if_neg z2, if_neg (by unfold pp; omega), if_neg (by unfold pp; omega), if_neg (by unfold pp; omega), if_neg (by unfold pp; omega), if_neg z1, lo z hz]
  exact (show In d d' f g from ⟨K.n, hv, m0, m1⟩).self2 hw hx v2 v0 w3 old
end
end Go.Proofs.Ytghdiolnonejaaa.Pl
end

section
namespace Go.Proofs.Ytghdiolnonejaaa
open Go Go.RowKit
theorem apC_zero {d : Pl.Dg} {m : Mv} (h : apC d m = 0) : (1 ≤ m.kind ∧ m.kind ≤ 5) ∧ inR d.n m ∧
    (if m.kind = 1 then curlableC d m.x else if m.kind = 2 then uncC d m.x.toNat else if m.kind = 3 then pkQ d m.x m.y m.sign else if m.kind = 4 then unpC d m.x.toNat m.y.toNat else sldC d m.x.toNat) = 0 := by
  unfold apC at h
  by_cases hk : m.kind < 1 ∨ 5 < m.kind
  · rw [if_pos hk] at h; exact absurd h (by decide)
  · rw [if_neg hk] at h
    by_cases hv : Pl.vb (inR d.n m) = false
    · rw [if_pos hv] at h; exact absurd h (by decide)
    · rw [if_neg hv] at h
      exact ⟨by omega, Pl.vb_iff.1 (by simpa using hv), h⟩
/-- Curl. -/
theorem crl_ok {d : Pl.Dg} (hd : Pl.Valid d) {x s : Int} {ov : Bool} (hx : -1 ≤ x ∧ x < 4 * d.n) (hs : s = 1 ∨ s = -1) (h : curlableC d x = 0) : Pl.Valid (crl d x s ov) ∧ Pl.Same d (crl d x s ov) := by
  unfold curlableC at h
  obtain ⟨a1, a2, a3, a4, n1, n2, n3, n4, n5, n6⟩ := (kq d.n s ov hs).bd
  have hl := hd.wf.len
  by_cases hx0 : x < 0
  · rw [if_pos hx0] at h
    have hlp : ¬ d.lp = 0 := fun e => by rw [if_pos e] at h; exact absurd h (by decide)
    rw [if_neg hlp] at h
    have hn : d.n + 1 ≤ 64 := Nat.le_of_not_lt fun e => by unfold fullC at h; rw [if_pos e] at h; exact absurd h (by decide)
    have hv := crl_loop hd (x := x) (ov := ov) hs hn hx0
    have hm := crl_mloop hd.wf (x := x) (ov := ov) hs hx0
    refine ⟨hv, Pl.Kd.same0 hd hv (crl_kd hd.wf hs hn ?_ ?_) (fun h hh => ?_) ?_ ?_⟩
    · rw [hm, if_neg (Ne.symm n1), if_neg n5, if_neg n4, if_pos rfl]
    · rw [hm, if_neg (Ne.symm n2), if_neg n6, if_pos rfl]
    · rw [hm, if_neg (by omega), if_neg (by omega), if_neg (by omega), if_neg (by omega), app_m (by omega)]; rfl
    · rw [hm, if_pos rfl]
    · show d.lp = (if x < 0 then d.lp - 1 else d.lp) + 1
      rw [if_pos hx0]; omega
  · rw [if_neg hx0] at h
    obtain ⟨k, rfl⟩ := Int.eq_ofNat_of_zero_le (Int.not_lt.1 hx0)
    have hk : k < 4 * d.n := by omega
    rw [Int.toNat_natCast] at h
    by_cases ho : Pl.out d k = true
    · rw [if_pos ho] at h
      have hn : d.n + 1 ≤ 64 := Nat.le_of_not_lt fun e => by unfold fullC at h; rw [if_pos e] at h; exact absurd h (by decide)
      have hv := crl_edge hd (ov := ov) hs hn hk ho
      have hy := hd.wf.lt k hk
      have hne := hd.wf.ne k hk
      have e : (crl d (k : Int) s ov).mt = jn (jn (jn (d.mt ++ List.replicate 4 0) (kO0 d.n s ov) (kI1 d.n s ov)) (kO1 d.n s ov) (d.m k)) k (kI0 d.n s ov) := by
        unfold crl; simp only [if_neg (show ¬ ((k : Int) < 0) by omega), Int.toNat_natCast]
      have hm : ∀ z, (crl d (k : Int) s ov).m z = if z = kI0 d.n s ov then k else if z = k then kI0 d.n s ov else if z = d.m k then kO1 d.n s ov else if z = kO1 d.n s ov then d.m k else if z = kI1 d.n s ov then kO0 d.n s ov else if z = kO0 d.n s ov then kI1 d.n s ov else (d.mt ++ List.replicate 4 0).getD z z := fun z => by
        show (crl d (k : Int) s ov).mt.getD z z = _
        rw [e, jn_m _ _ _ _ _ (by rw [jn_len, jn_len]; simp; omega) (by rw [jn_len, jn_len]; simp; omega), jn_m _ _ _ _ _ (by rw [jn_len]; simp; omega) (by rw [jn_len]; simp; omega), jn_m _ _ _ _ _ (by simp; omega) (by simp; omega)]
      refine ⟨hv, Pl.Kd.same hd hv (crl_kd hd.wf hs hn ?_ ?_) hk (fun h hh h1 h2 => ?_) ?_ ?_ ?_ ?_ ?_⟩
      · rw [hm, if_neg (Ne.symm n1), if_neg (by omega), if_neg (by omega), if_neg n5, if_neg n4, if_pos rfl]
      · rw [hm, if_neg (Ne.symm n2), if_neg (by omega), if_neg (by omega), if_neg n6, if_pos rfl]
      · rw [hm, if_neg (by omega), if_neg h1, if_neg h2, if_neg (by omega), if_neg (by omega), if_neg (by omega), app_m (by omega)]; rfl
      · rw [hm, if_neg (Ne.symm n3), if_neg (by omega), if_neg (by omega), if_pos rfl]
      · rw [hm, if_neg (by omega), if_neg hne, if_pos rfl]
      · rw [hm, if_neg (by omega), if_pos rfl]
      · rw [hm, if_pos rfl]
      · show d.lp = if (k : Int) < 0 then d.lp - 1 else d.lp
        rw [if_neg (by omega)]
    · rw [if_neg ho] at h; exact absurd h (by decide)
theorem kk_div (d : Pl.Dg) (c : Nat) : kk d c / 4 = c := by unfold kk; split <;> (try split) <;> omega
theorem jn_jl (l : List Nat) (a b : Nat) : jn l a b = Pl.jl l a b := rfl
/-- Uncurl. -/
theorem unD_ok {d : Pl.Dg} (hd : Pl.Valid d) {c : Nat} (hc : c < d.n) (h : uncC d c = 0) : Pl.Valid (unD d c) ∧ Pl.Same d (unD d c) := by
  have hw := hd.wf
  have ho := kk_lt hc
  have hod := kk_div d c
  unfold uncC at h
  by_cases hk : d.m (kk d c) / 4 = c
  · rw [if_pos hk] at h
    have hk2 : d.m (kk d c) / 4 = kk d c / 4 := by rw [hod, hk]
    unfold unD unM
    by_cases hn : d.m (kA d c) = kB d c
    · rw [if_pos hn] at h
      have hl : d.lp + 1 ≤ 64 := Nat.le_of_not_lt fun e => by rw [if_pos e] at h; exact absurd h (by decide)
      rw [if_pos hn, if_pos hn]
      have v := Pl.kink_valid0 hd ho hk2 hn hl
      have s := Pl.kink_same0 hd ho hk2 hn hl rfl
      rw [hod] at v s
      exact ⟨v, s⟩
    · rw [if_neg hn, if_neg hn]
      have hA := kA_lt hc
      have hB := kB_lt hw hc
      have nAB : d.m (kA d c) ≠ d.m (kB d c) := fun e => hw.ne _ ho (Pl.tn_inj (hw.bij.inj _ _ hA hB e).symm)
      have hmt : ∀ z, z < 4 * d.n → (jn d.mt (d.m (kA d c)) (d.m (kB d c))).getD z 0 = if z = d.m (kA d c) then d.m (kB d c) else if z = d.m (kB d c) then d.m (kA d c) else d.m z := fun z hz => by
        rw [jn_jl, Pl.jl_at (by rw [hw.len]; exact hw.lt _ hA) (by rw [hw.len]; exact hw.lt _ hB), Pl.dg_m hw hz]
        by_cases z1 : z = d.m (kB d c)
        · rw [if_pos z1, if_neg (fun e => nAB (e.symm.trans z1)), if_pos z1]
        · rw [if_neg z1, if_neg z1]
      have v := Pl.kink_valid hd ho hk2 hn hw.lp hmt
      have s := Pl.kink_same hd ho hk2 hn hw.lp rfl hmt
      rw [hod] at v s
      exact ⟨v, s⟩
  · rw [if_neg hk] at h; exact absurd h (by decide)
/-- The lens that find finds. -/
theorem lens_lens {d : Pl.Dg} (hd : Pl.Wf d) {x y i : Nat} (hxy : x < y) (hy : y < d.n) (h : lensI d x y = some i) :
    Pl.Lens d (lnH x y i) (d.m (lnH x y i)) ∧ ((x = lnH x y i / 4 ∧ y = d.m (lnH x y i) / 4) ∨ (x = d.m (lnH x y i) / 4 ∧ y = lnH x y i / 4)) ∧ Pl.nx d (lnH x y i) = Pl.tn (d.m (lnH x y i)) 3 ∧ d.m (Pl.tn (d.m (lnH x y i)) 3) = Pl.tn (lnH x y i) 1 := by
  obtain ⟨h1, h2, h3⟩ := lens_is h
  have hi := lens_lt h
  have hl : lnH x y i < 4 * d.n := by unfold lnH; split <;> omega
  have hu := hd.lt _ hl
  have e1 : d.m (Pl.tn (d.m (lnH x y i)) 3) = Pl.tn (lnH x y i) 1 := by
    unfold Pl.nx at h2
    unfold Pl.tn at h2 ⊢
    omega
  have e2 : Pl.nx d (lnH x y i) / 4 = d.m (lnH x y i) / 4 := by unfold Pl.nx; rw [Pl.tn_div]
  have e3 : lnH x y i / 4 = if i < 4 then x else y := by unfold lnH; split <;> omega
  rw [e2] at h1
  unfold lnO at h1
  have hp : (x = lnH x y i / 4 ∧ y = d.m (lnH x y i) / 4) ∨ (x = d.m (lnH x y i) / 4 ∧ y = lnH x y i / 4) := by
    by_cases h4 : i < 4
    · rw [if_pos h4] at h1 e3; exact .inl ⟨e3.symm, h1.symm⟩
    · rw [if_neg h4] at h1 e3; exact .inr ⟨h1.symm, e3.symm⟩
  refine ⟨⟨hl, rfl, by rw [← e1, hd.inv _ (Pl.tn_lt hu)], fun e => ?_⟩, hp, rfl, e1⟩
  rcases hp with ⟨a, b⟩ | ⟨a, b⟩ <;> omega
theorem unp_at {d : Pl.Dg} (hd : Pl.Valid d) {h u : Nat} (L : Pl.Lens d h u) (l : Ln) (e2 : l.p2 = Pl.tn h 2) (e3 : l.p3 = Pl.tn h 3) (f0 : l.q0 = Pl.tn u 2) (f3 : l.q3 = Pl.tn u 1) :
    unpL d l = d.lp + (if d.m (Pl.tn h 2) = Pl.tn u 2 then 1 else 0) + (if Pl.lA d h u (Pl.tn h 3) = Pl.tn u 1 then 1 else 0) ∧
    ∀ z, z < 4 * d.n → z / 4 ≠ h / 4 → z / 4 ≠ u / 4 → (unpB d l).getD z 0 = Pl.lB d h u z := by
  have hw := hd.wf
  have hh := L.hh
  have hu := L.hu hw
  have A := L.la hd
  have E := L.ne
  have hA : Pl.tn h 2 < 4 * d.n := Pl.tn_lt hh
  have hB : Pl.tn u 2 < 4 * d.n := Pl.tn_lt hu
  have h3 : Pl.tn h 3 < 4 * d.n := Pl.tn_lt hh
  have u1 : Pl.tn u 1 < 4 * d.n := Pl.tn_lt hu
  have al : ∀ z, z < 4 * d.n → z ≠ Pl.tn h 2 → z ≠ Pl.tn u 2 → (unpA d l).getD z 0 = Pl.lA d h u z := fun z hz z1 z2 => by
    unfold unpA
    rw [e2, f0, Pl.dg_m hw hA, Pl.dg_m hw hB]
    by_cases c : d.m (Pl.tn h 2) = Pl.tn u 2
    · rw [if_pos c, Pl.Lens.lA_c c, Pl.dg_m hw hz]
    · rw [if_neg c, jn_jl, Pl.jl_at (by rw [hw.len]; exact hw.lt _ hA) (by rw [hw.len]; exact hw.lt _ hB), Pl.dg_m hw hz]
      obtain ⟨b1, b2, b3⟩ := L.lA_e hw c
      by_cases z4 : z = d.m (Pl.tn u 2)
      · rw [if_pos z4, z4, b2]
      · rw [if_neg z4]
        by_cases z3 : z = d.m (Pl.tn h 2)
        · rw [if_pos z3, z3, b1]
        · rw [if_neg z3, b3 z z1 z2 z3 z4]
  have alen : (unpA d l).length = 4 * d.n := by unfold unpA; split <;> simp [jn_len, hw.len]
  have a3 := al (Pl.tn h 3) h3 (Pl.tn_ne (by omega)) (Pl.pm E)
  have a1 := al (Pl.tn u 1) u1 (Ne.symm (Pl.pm E)) (Pl.tn_ne (by omega))
  constructor
  · unfold unpL
    rw [e2, f0, e3, f3, Pl.dg_m hw hA, a3]
  · intro z hz n1 n2
    have z0 : ∀ k, z ≠ Pl.tn h k := fun k e => n1 (by rw [e, Pl.tn_div])
    have z1 : ∀ k, z ≠ Pl.tn u k := fun k e => n2 (by rw [e, Pl.tn_div])
    unfold unpB
    rw [e3, f3, a3, a1]
    by_cases c : Pl.lA d h u (Pl.tn h 3) = Pl.tn u 1
    · rw [if_pos c, Pl.Lens.lB_c c, al z hz (z0 2) (z1 2)]
    · rw [if_neg c, jn_jl, Pl.jl_at (by rw [alen]; exact A.hm.ab.maps _ h3) (by rw [alen]; exact A.hm.ab.maps _ u1), al z hz (z0 2) (z1 2)]
      obtain ⟨b1, b2, b3⟩ := L.lB_e hd c
      by_cases z4 : z = Pl.lA d h u (Pl.tn u 1)
      · rw [if_pos z4, z4, b2]
      · rw [if_neg z4]
        by_cases z3 : z = Pl.lA d h u (Pl.tn h 3)
        · rw [if_pos z3, z3, b1]
        · rw [if_neg z3, b3 z (z0 3) (z1 1) z3 z4]
/-- Unpoke. -/
theorem unpD_ok {d : Pl.Dg} (hd : Pl.Valid d) {x y : Nat} (hxy : x < y) (hy : y < d.n) (h : unpC d x y = 0) : Pl.Valid (unpD d x y) ∧ Pl.Same d (unpD d x y) := by
  unfold unpC at h
  unfold unpD
  cases hL : lensI d x y with
  | none => rw [hL] at h; exact absurd (show (6 : Int) = 0 from h) (by decide)
  | some i =>
    rw [hL] at h
    have h' : (if 64 < unpL d (lensOf d (lnH x y i)) then (5 : Int) else 0) = 0 := h
    have hl : unpL d (lensOf d (lnH x y i)) ≤ 64 := Nat.le_of_not_lt fun e => by rw [if_pos e] at h'; exact absurd h' (by decide)
    obtain ⟨L, hp, e1, e2⟩ := lens_lens hd.wf hxy hy hL
    obtain ⟨g1, g2⟩ := unp_at hd L (lensOf d (lnH x y i)) rfl (by show Pl.tn (d.m (Pl.nx d (lnH x y i))) 2 = _; rw [e1, e2]; exact Pl.tn12 _) rfl (by show Pl.tn (Pl.nx d (lnH x y i)) 2 = _; rw [e1]; exact Pl.tn32 _)
    have hmt : ∀ z, Pl.stay d [x, y] z → (unpB d (lensOf d (lnH x y i))).getD z 0 = Pl.lB d (lnH x y i) (d.m (lnH x y i)) z := fun z hz => by
      have hz2 : ¬ (z / 4 = x ∨ z / 4 = y) := by have := hz.2; simpa using this
      refine g2 z hz.1 ?_ ?_ <;> rcases hp with ⟨a, b⟩ | ⟨a, b⟩ <;> omega
    exact ⟨L.valid hd hxy hp hl hmt, L.same hd hxy hp hl g1 hmt⟩
theorem sldD_ok {d : Pl.Dg} (hd : Pl.Valid d) {h : Nat} (hh : h < 4 * d.n) (hi : is3 d h) : Pl.Valid (sldD d h) ∧ Pl.Same d (sldD d h) :=
  have hw := (Pl.Valid.iff.1 hd).1
  ⟨sld_valid hd hh hi, (tr_of hh hi).same hd rfl rfl (sF_len hw h 3) (sld_m hw hh hi)⟩
end Go.Proofs.Ytghdiolnonejaaa
end
