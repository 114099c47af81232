/-
  Walks: Parse.
-/
import Derived.Test.YtpmegcgmbhhfaaaDoorWh
import Derived.Test.YtpmegcgmbhhfaaaDoorWc
import Derived.Deep.AppendLies
namespace Go.Proofs.YtpmegcgmbhhfaaaDoor
open Go.RowKit

theorem lib_cut (l : List UInt8) : (Lib.cut l [10]).1 = (Sp.cutL l).1 ∧ (Lib.cut l [10]).2.1 = (Sp.cutL l).2 := by
  have key : (Lib.index l [10] = -1 ∧ l.takeWhile (· != 10) = l ∧ l.dropWhile (· != 10) = []) ∨ (∃ k : Nat, Lib.index l [10] = k ∧ l.takeWhile (· != 10) = l.take k ∧ (l.dropWhile (· != 10)).tail = l.drop (k + 1)) := by
    induction l with
    | nil => left; simp [Lib.index]
    | cons b t ih =>
      by_cases hb : b = 10
      · right; exact ⟨0, by subst hb; simp [Lib.index], by subst hb; simp, by subst hb; simp⟩
      · have hp : [10].isPrefixOf (b :: t) = false := by simp [List.isPrefixOf, Ne.symm hb]
        have hne : (b != 10) = true := by simpa using hb
        rcases ih with ⟨h1, h2, h3⟩ | ⟨k, h1, h2, h3⟩
        · left
          refine ⟨?_, ?_, ?_⟩
          · rw [Lib.index, hp, h1]; rfl
          · rw [List.takeWhile_cons, hne, if_pos rfl, h2]
          · rw [List.dropWhile_cons, hne, if_pos rfl, h3]
        · right
          refine ⟨k + 1, ?_, ?_, ?_⟩
          · rw [Lib.index, hp, h1]
            have : ((k : Int) == -1) = false := by rw [beq_eq_false_iff_ne]; omega
            rw [this]; rfl
          · rw [List.takeWhile_cons, hne, if_pos rfl, h2]; simp
          · rw [List.dropWhile_cons, hne, if_pos rfl, h3]; simp
  rcases key with ⟨h1, h2, h3⟩ | ⟨k, h1, h2, h3⟩
  · unfold Lib.cut
    rw [h1]
    simp [Sp.cutL, h2, h3]
  · unfold Lib.cut
    rw [h1]
    simp [Sp.cutL, h2, h3]

def toCmd (c : Sp.C) : Cmd := ⟨⟨c.word.toArray⟩, c.args.map (fun a => ⟨a.toArray⟩)⟩

theorem fits_toCmd (c : Sp.C) : fits (toCmd c) = Sp.fits c := by
  have h1 : lowB = Sp.low1 := by funext b; unfold lowB Sp.low1; rw [Bool.eq_iff_iff]; simp; omega
  have h2 : argB = Sp.arg1 := by funext b; unfold argB Sp.arg1; rw [Bool.eq_iff_iff]; simp; omega
  have h3 : (argFits ∘ fun a : List UInt8 => (⟨a.toArray⟩ : ByteArray)) = fun a => decide (a.length ≤ 20000) && a.all Sp.arg1 := by
    funext a; show argFits ⟨a.toArray⟩ = _; unfold argFits; rw [h2]; rfl
  unfold fits Sp.fits toCmd
  simp only [List.length_map, List.all_map, h1, h3]
  rfl

/-- The cells of commands, each with its arguments' slice. -/
def flatC : List Sp.C → List (Option Addr × Nat × Nat) → List Value
  | c :: cs, (A, n, cp) :: vs => strV c.word :: .slice A n cp :: flatC cs vs
  | _, _ => []
theorem flatC_snoc : ∀ (cs : List Sp.C) (vs : List (Option Addr × Nat × Nat)) (c : Sp.C) (A : Option Addr) (n cp : Nat), cs.length = vs.length → flatC (cs ++ [c]) (vs ++ [(A, n, cp)]) = flatC cs vs ++ [strV c.word, .slice A n cp]
  | [], [], c, A, n, cp, _ => rfl
  | c0 :: cs, (A0, n0, cp0) :: vs, c, A, n, cp, h => by
    simp only [List.cons_append, flatC]
    rw [flatC_snoc cs vs c A n cp (by simpa using h)]
  | [], _ :: _, _, _, _, _, h => by simp at h
  | _ :: _, [], _, _, _, _, h => by simp at h
theorem flatC_at : ∀ (cs : List Sp.C) (vs : List (Option Addr × Nat × Nat)) (j : Nat) (c : Sp.C), cs.length = vs.length → cs[j]? = some c → ∃ A n cp, vs[j]? = some (A, n, cp) ∧ (flatC cs vs)[j * 2]? = some (strV c.word) ∧ (flatC cs vs)[j * 2 + 1]? = some (.slice A n cp)
  | [], _, j, c, _, h => by simp at h
  | _ :: _, [], _, _, h, _ => by simp at h
  | c0 :: cs, (A0, n0, cp0) :: vs, 0, c, h, hc => by
    simp at hc; subst hc
    exact ⟨A0, n0, cp0, rfl, rfl, rfl⟩
  | c0 :: cs, (A0, n0, cp0) :: vs, j + 1, c, h, hc => by
    obtain ⟨A, n, cp, h1, h2, h3⟩ := flatC_at cs vs j c (by simpa using h) (by simpa using hc)
    refine ⟨A, n, cp, by simpa using h1, ?_, ?_⟩
    · rw [show (j + 1) * 2 = j * 2 + 1 + 1 from by omega]; simpa [flatC] using h2
    · rw [show (j + 1) * 2 + 1 = j * 2 + 1 + 1 + 1 from by omega]; simpa [flatC] using h3

/-- The list under construction. -/
def ListOwn (base : Nat) (v : Value) (cs : List Sp.C) (w : World) : Prop :=
  ∃ vs : List (Option Addr × Nat × Nat), cs.length = vs.length ∧ w.ownsRow base 31 2 v cs.length (flatC cs vs) ∧
    ∀ (j : Nat) c A n cp, cs[j]? = some c → vs[j]? = some (A, n, cp) → n ≤ maxLen ∧ RowT w 9 A n (c.args.map strV)
theorem listOwn_keep {base : Nat} {v : Value} {cs : List Sp.C} {w w' : World} (h : ListOwn base v cs w) (hb : Below w.heap.size w w') : ListOwn base v cs w' := by
  obtain ⟨vs, h1, h2, h3⟩ := h
  exact ⟨vs, h1, ownsRow_keep h2 hb, fun j c A n cp e1 e2 => ⟨(h3 j c A n cp e1 e2).1, (h3 j c A n cp e1 e2).2.keep hb⟩⟩
theorem listOwn_nil (base : Nat) (w : World) : ListOwn base (.slice none 0 0) [] w := ⟨[], rfl, ⟨rfl, .inl ⟨rfl, rfl⟩⟩, fun _ _ _ _ _ h => by simp at h⟩
theorem listOwn_slice {base : Nat} {v : Value} {cs : List Sp.C} {w : World} (h : ListOwn base v cs w) : ∃ A cp, v = .slice A cs.length cp := by
  obtain ⟨vs, h1, h2, _⟩ := h
  rcases h2.2 with ⟨rfl, e⟩ | ⟨g, cap, cur, rfl, _⟩
  · exact ⟨_, _, by rw [e]⟩
  · exact ⟨_, _, rfl⟩
theorem listOwn_cmds {base : Nat} {A : Option Addr} {cp : Nat} {cs : List Sp.C} {w : World} (h : ListOwn base (.slice A cs.length cp) cs w) : CmdsAt w A cs.length (cs.map toCmd) := by
  obtain ⟨vs, h1, h2, h3⟩ := h
  refine ⟨by simp, fun hn => ?_⟩
  obtain ⟨g, cap, hv, _, hlt⟩ := World.ownsRow.form h2 hn
  injection hv with e1 e2 e3
  subst e1
  refine ⟨g, 0, rfl, fun j c hj => ?_⟩
  rw [List.getElem?_map] at hj
  obtain ⟨c0, hc0, rfl⟩ := Option.map_eq_some_iff.1 hj
  obtain ⟨A, n, cp, hv, hx, hy⟩ := flatC_at cs vs j c0 h1 hc0
  obtain ⟨h4, h5⟩ := h3 j c0 A n cp hc0 hv
  have c1 := World.ownsRow.cells h2 (g := g) rfl _ _ hx
  have c2 := World.ownsRow.cells h2 (g := g) rfl _ _ hy
  rw [Addr.add_lit] at c1 c2
  refine ⟨by rw [show (0 + j * 2) = j * 2 from by omega] at c1 ⊢; exact c1, A, n, cp, by rw [show (0 + j * 2 + 1) = 0 + (j * 2 + 1) from by omega]; exact c2, h4, ?_⟩
  have h6 := h5.row
  show RowAt w A n (List.map _ _)
  rw [show List.map Value.string (toCmd c0).args = c0.args.map strV by simp [toCmd]; intro a _; rfl]
  exact h6

/-- What Parse hands back. -/
def ParseRes (r : Except (Nat × Nat) (List Sp.C)) (e : Ending) (w : World) : Prop :=
  match r with
  | .error (ln, er) => e = .returned (.tuple #[.slice none 0 0, .int .i64 ln, .int .i64 er])
  | .ok cs => ∃ (A : Option Addr) (cp : Nat), e = .returned (.tuple #[.slice A cs.length cp, .int .i64 0, .int .i64 0]) ∧ CmdsAt w A cs.length (cs.map toCmd)

theorem goLines_err {l : List UInt8} {ls : List (List UInt8)} {n er : Nat} {acc : List Sp.C} (h : Sp.stepLine acc l = .error er) : Sp.goLines (l :: ls) n acc = .error (n, er) := by rw [Sp.goLines, h]
theorem goLines_ok {l : List UInt8} {ls : List (List UInt8)} {n : Nat} {acc acc' : List Sp.C} (h : Sp.stepLine acc l = .ok acc') : Sp.goLines (l :: ls) n acc = Sp.goLines ls (n + 1) acc' := by rw [Sp.goLines, h]

theorem cmdInfo : (Tryd.prog.info? 31).map (fun i => (i.zero, i.size, i.bytes)) = some (some (.agg #[.string ⟨#[]⟩, .slice none 0 0]), 2, 40) := by kernel_rfl
def nl : ByteArray := ⟨#[10]⟩
set_option maxRecDepth 100000 in
set_option maxHeartbeats 2000000 in
theorem parse_any (s : ByteArray) (m : Int) (w : World) (hs : s.size ≤ maxLen) (hm : w.cell? ⟨0, 0, none⟩ = some (.int .i64 m)) :
    Calls Tryd.prog 15 #[.string s] w fun e w' => ParseRes (Sp.parse s.data.toList) e w' ∧ Below w.heap.size w w' := by
  unfold maxLen at hs
  by_cases hbig : 1000000 < s.size
  · have HP := hide (show Sp.parse s.data.toList = .error (0, 5) by unfold Sp.parse; rw [if_pos (by rw [← Lib.size_eq]; exact hbig)])
    go_enter Tryd.func15, Tryd.ntmps15
    go_wp2
    refine bodyPost_ret (results_tmp3 rfl _ _ _) rfl ⟨?_, Below.refl _ _⟩
    rw [HP.out]; exact rfl
  · have HP := hide (show Sp.parse s.data.toList = Sp.goLines (Sp.lines s.data.toList) 1 [] by unfold Sp.parse; rw [if_neg (by rw [← Lib.size_eq]; exact hbig)])
    go_enter Tryd.func15, Tryd.ntmps15
    go_wp2
    go_loopg [0, 5, 6] s.size (fun k x y z wx => ∃ (r : ByteArray) (A : Option Addr) (cp ln : Nat) (cs : List Sp.C), x = .string r ∧ y = .slice A cs.length cp ∧ z = .int .i64 ln ∧ r.size ≤ k ∧ 1 ≤ ln ∧ ln + r.size ≤ s.size + 1 ∧ cs.length ≤ 1000 ∧ Sp.parse s.data.toList = Sp.goLines (Sp.lines r.data.toList) ln cs ∧ ListOwn w.heap.size (.slice A cs.length cp) cs wx ∧ Below w.heap.size w wx)
    case atStart => exact ⟨s, none, 0, 1, [], rfl, rfl, rfl, Nat.le_refl _, Nat.le_refl _, by omega, by simp, HP.out, listOwn_nil _ _, Below.refl _ _⟩
    case round =>
      obtain ⟨r, A, cp, ln, cs, rfl, rfl, rfl, hrk, hln, hsz, hcs, hp, hown, hb⟩ := hrel
      have HPr := hide hp
      have HO := hide hown
      clear hp hown
      by_cases hr0 : r.size = 0
      · have hx : r.toList.isEmpty = true := by
          rw [toList_data, List.eq_nil_of_length_eq_zero (show r.data.toList.length = 0 by rw [← Lib.size_eq]; exact hr0)]; rfl
        have HE := hide (show Sp.parse s.data.toList = .ok cs by
          rw [HPr.out, List.eq_nil_of_length_eq_zero (show r.data.toList.length = 0 by rw [← Lib.size_eq]; exact hr0)]; rfl)
        clear hr0
        go_wp2
        refine bodyPost_ret (results_tmp3 rfl _ _ _) rfl ⟨?_, hb⟩
        rw [HE.out]
        exact ⟨A, cp, rfl, listOwn_cmds HO.out⟩
      · have hx := notEmpty (show 0 < r.size by omega)
        have hrne : r.data.toList ≠ [] := by intro h; apply hr0; rw [Lib.size_eq, h]; rfl
        have HL := hide (Sp.lines_cut r.data.toList hrne)
        have Hlt := hide (Sp.cutL_lt r.data.toList hrne)
        obtain ⟨hc1, hc2⟩ := lib_cut r.data.toList
        clear hrne hr0
        go_wp2_with fail
        refine (Tryd.strings_Cut r nl m _ (by omega) (cell_below hm (hb.mono (Nat.le_refl _)))).mono ?_
        rintro e w1 ⟨rfl, nd, rfl⟩
        have hl1 : (⟨(Lib.cut r.data.toList nl.data.toList).1.toArray⟩ : ByteArray).data.toList = (Sp.cutL r.data.toList).1 := hc1
        have hl2 : (⟨(Lib.cut r.data.toList nl.data.toList).2.1.toArray⟩ : ByteArray).data.toList = (Sp.cutL r.data.toList).2 := hc2
        generalize (⟨(Lib.cut r.data.toList nl.data.toList).1.toArray⟩ : ByteArray) = L1 at hl1 ⊢
        generalize (⟨(Lib.cut r.data.toList nl.data.toList).2.1.toArray⟩ : ByteArray) = R1 at hl2 ⊢
        generalize (Lib.cut r.data.toList nl.data.toList).2.2 = fnd
        have hL1 : L1.size ≤ r.size := by rw [Lib.size_eq, hl1, Lib.size_eq]; exact (List.takeWhile_sublist _).length_le
        have hR1 : R1.size < r.size := by rw [Lib.size_eq, hl2, Lib.size_eq]; exact Hlt.out
        have HL2 := hide (show Sp.lines r.data.toList = L1.data.toList :: Sp.lines R1.data.toList by rw [HL.out, hl1, hl2])
        clear hc1 hc2 hl1 hl2 HL Hlt
        go_wp2_with fail
        refine (command_any L1 _ (by omega)).mono ?_
        rintro e w2 ⟨hres, hb2⟩
        have hbw2 : Below w.heap.size w w2 := (below_drewN hb nd).trans (hb2.mono hb.size)
        have HO2 := hide (listOwn_keep HO.out (show Below wr.heap.size wr w2 from (below_drewN (Below.refl _ _) nd).trans hb2))
        clear HO hb2
        cases hcm : Sp.command L1.data.toList with
        | none =>
          have HE := hide (show Sp.parse s.data.toList = .error (ln, 3) by
            rw [HPr.out, HL2.out, goLines_err (er := 3)]; unfold Sp.stepLine; rw [hcm])
          rw [hcm] at hres
          obtain ⟨x, A1, n1, cp1, b1, rfl⟩ := hres
          clear hcm
          go_wp2
          refine bodyPost_ret (results_tmp3 rfl _ _ _) rfl ⟨?_, hbw2.alloc hbw2.size _⟩
          rw [HE.out]; exact rfl
        | some oc =>
          cases oc with
          | none =>
            have HE := hide (show Sp.parse s.data.toList = Sp.goLines (Sp.lines R1.data.toList) (ln + 1) cs by
              rw [HPr.out, HL2.out, goLines_ok (acc' := cs)]; unfold Sp.stepLine; rw [hcm])
            rw [hcm] at hres
            obtain ⟨x, A1, n1, cp1, rfl⟩ := hres
            have HO3 := hide (listOwn_keep HO2.out (show Below w2.heap.size w2 (w2.alloc (.cells #[.string x, .slice A1 n1 cp1] 31)) from (Below.refl _ _).alloc (Nat.le_refl _) _))
            have hbw3 : Below w.heap.size w (w2.alloc (.cells #[.string x, .slice A1 n1 cp1] 31)) := hbw2.alloc hbw2.size _
            clear hcm
            go_wp2
            go_roundg R1.size
            case measure => omega
            case rel => exact ⟨R1, A, cp, ln + 1, cs, rfl, rfl, by go_num, Nat.le_refl _, by omega, by omega, hcs, HE.out, HO3.out, hbw3⟩
          | some c =>
            rw [hcm] at hres
            obtain ⟨A1, n1, cp1, rfl, hn1, hrow⟩ := hres
            have Hlen := hide (Sp.command_len hcm)
            have Hcm := hide hcm
            have hbw3 : Below w.heap.size w (w2.alloc (.cells #[strV c.word, .slice A1 n1 cp1] 31)) := hbw2.alloc hbw2.size _
            have HO3 := hide (listOwn_keep HO2.out (show Below w2.heap.size w2 (w2.alloc (.cells #[strV c.word, .slice A1 n1 cp1] 31)) from (Below.refl _ _).alloc (Nat.le_refl _) _))
            have Hrow3 := hide (hrow.keep (show Below w2.heap.size w2 (w2.alloc (.cells #[strV c.word, .slice A1 n1 cp1] 31)) from (Below.refl _ _).alloc (Nat.le_refl _) _))
            clear hrow HO2 hcm
            unfold strV at hbw3 HO3 Hrow3 ⊢
            have c0 : (w2.alloc (.cells #[.string ⟨c.word.toArray⟩, .slice A1 n1 cp1] 31)).cell? ⟨w2.heap.size, 0, none⟩ = some (.string ⟨c.word.toArray⟩) := by go_simp
            have c1 : (w2.alloc (.cells #[.string ⟨c.word.toArray⟩, .slice A1 n1 cp1] 31)).cell? ⟨w2.heap.size, 1, none⟩ = some (.slice A1 n1 cp1) := by go_simp
            go_wp2_with fail
            generalize w2.alloc (.cells #[.string ⟨c.word.toArray⟩, .slice A1 n1 cp1] 31) = w3 at hbw3 HO3 Hrow3 c0 c1 ⊢
            refine (valid_any (toCmd c) A1 n1 cp1 _ ?_ ?_ hn1 ?_).mono ?_
            · have := Hlen.out.1; have := Lib.size_eq L1; show c.word.length ≤ maxLen; unfold maxLen; omega
            · intro a ha
              obtain ⟨a0, ha0, rfl⟩ := List.mem_map.1 ha
              have := Hlen.out.2 a0 ha0; have := Lib.size_eq L1; show a0.length ≤ maxLen; unfold maxLen; omega
            · have h6 := Hrow3.out.row
              show RowAt _ A1 n1 (List.map _ _)
              rw [show List.map Value.string (toCmd c).args = c.args.map strV by simp [toCmd]; intro a _; rfl]
              exact h6
            rintro e w4 ⟨rfl, hb4⟩
            have hbw4 : Below w.heap.size w w4 := hbw3.trans (hb4.mono hbw3.size)
            have HO4 := hide (listOwn_keep HO3.out hb4)
            have Hrow4 := hide (Hrow3.out.keep hb4)
            have d0 := cell_below c0 hb4
            have d1 := cell_below c1 hb4
            rw [fits_toCmd]
            clear HO3 Hrow3 c0 c1 hb4 hbw3
            cases hfit : Sp.fits c with
            | false =>
              have HE := hide (show Sp.parse s.data.toList = .error (ln, 3) by
                rw [HPr.out, HL2.out, goLines_err (er := 3)]; unfold Sp.stepLine; rw [Hcm.out]; simp only [hfit]; rfl)
              go_wp2
              refine bodyPost_ret (results_tmp3 rfl _ _ _) rfl ⟨?_, hbw4⟩
              rw [HE.out]; exact rfl
            | true =>
              by_cases hfull : cs.length = 1000
              · have HE := hide (show Sp.parse s.data.toList = .error (ln, 5) by
                  rw [HPr.out, HL2.out, goLines_err (er := 5)]; unfold Sp.stepLine; rw [Hcm.out]; simp only [hfit, hfull]; rfl)
                have hf2 : ((cs.length : Int) == 1000) = true := by simp; omega
                clear hfull
                go_wp2
                refine bodyPost_ret (results_tmp3 rfl _ _ _) rfl ⟨?_, hbw4⟩
                rw [HE.out]; exact rfl
              · have HE := hide (show Sp.parse s.data.toList = Sp.goLines (Sp.lines R1.data.toList) (ln + 1) (cs ++ [c]) by
                  rw [HPr.out, HL2.out, goLines_ok (acc' := cs ++ [c])]; unfold Sp.stepLine; rw [Hcm.out]; simp only [hfit]
                  rw [show (cs.length == 1000) = false by simpa using hfull]; rfl)
                have hf2 : ((cs.length : Int) == 1000) = false := by simp; omega
                have hf3 : cs.length < 1000 := by omega
                clear hfull
                obtain ⟨vs, v1', v2, v3⟩ := HO4.out
                have V1 := hide v1'
                have V3 := hide v3
                clear v1' v3
                obtain ⟨i0, hi, hz0, hz1, hz2⟩ := info_parts cmdInfo
                go_wp2_with (at_builtin; go_loud (refine wpList_append_own _ rfl _ _ 22 rfl w.heap.size 31 i0 (.agg #[.string ⟨#[]⟩, .slice none 0 0]) 2 40 Tryd.underlying22 hi hz0 hz1 hz2 rfl (by decide) _ _ _ rfl (ownsRow_keep v2 ((Below.refl _ _).alloc (Nat.le_refl _) _)) ⟨w4.heap.size, 0, none⟩ 1 1 [.string ⟨c.word.toArray⟩, .slice A1 n1 cp1] rfl rfl ?c1 ?c2 ?c3 ?c4 ?c5 ?_))
                case c1 => exact cell_two_new _ _ _ _
                case c2 => intro u hu; simp at hu; rcases hu with rfl | rfl <;> rfl
                case c3 => unfold maxLen; omega
                case c4 => omega
                case c5 => have := hbw4.size; simp; omega
                intro v' w5 hown5 hgrow _
                have v1 := V1.out
                have v3 := V3.out
                have hkb : Below w4.heap.size w4 (w4.alloc (.cells #[.string ⟨c.word.toArray⟩, .slice A1 n1 cp1] 31)) := (Below.refl _ _).alloc (Nat.le_refl _) _
                have hblk := ownsRow_block (ownsRow_keep v2 hkb)
                have hbw5 : Below w.heap.size w w5 := (hbw4.alloc hbw4.size _).grown hgrow (by have := hbw4.size; simp; omega) (fun k hk => (v2.lt k hk).1)
                have HO5 : Aside (ListOwn w.heap.size v' (cs ++ [c]) w5) := by
                  refine ⟨vs ++ [(A1, n1, cp1)], by simp [v1], ?_, ?_⟩
                  · rw [flatC_snoc _ _ _ _ _ _ v1]
                    simpa [strV] using hown5
                  · intro j c' A' n' cp' e1 e2
                    by_cases hj : j < cs.length
                    · rw [List.getElem?_append_left hj] at e1
                      rw [List.getElem?_append_left (by omega)] at e2
                      obtain ⟨h5, h6⟩ := v3 j c' A' n' cp' e1 e2
                      exact ⟨h5, (h6.keep hkb).grown hgrow hblk (by decide)⟩
                    · rw [List.getElem?_append_right (by omega)] at e1
                      rw [List.getElem?_append_right (by omega)] at e2
                      have hj0 : j - cs.length = 0 := by
                        rcases Nat.eq_zero_or_pos (j - cs.length) with h | h
                        · exact h
                        · rw [List.getElem?_eq_none (by simp; omega)] at e1; cases e1
                      rw [hj0] at e1
                      rw [show j - vs.length = 0 by omega] at e2
                      simp at e1 e2
                      obtain ⟨rfl, rfl, rfl⟩ := e2
                      subst e1
                      exact ⟨hn1, (Hrow4.out.keep hkb).grown hgrow hblk (by decide)⟩
                obtain ⟨A2, cp2, rfl⟩ := listOwn_slice HO5.out
                clear hown5 hgrow hblk v1 v2 v3
                go_wp2
                go_roundg R1.size
                case measure => omega
                case rel => exact ⟨R1, A2, cp2, ln + 1, cs ++ [c], rfl, rfl, by go_num, Nat.le_refl _, by omega, by omega, by simp; omega, HE.out, HO5.out, hbw5⟩
end Go.Proofs.YtpmegcgmbhhfaaaDoor
