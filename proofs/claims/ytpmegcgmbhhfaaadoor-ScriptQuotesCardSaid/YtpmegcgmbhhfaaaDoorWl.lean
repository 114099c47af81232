/-
  Walks: the chapter's examples.
-/
import Derived.Test.YtpmegcgmbhhfaaaDoorWk
namespace Go.Proofs.YtpmegcgmbhhfaaaDoor
open Go.RowKit

def exS : ByteArray := ⟨#[108, 111, 97, 100, 32, 107, 32, 34, 49, 32, 50, 34, 32, 35, 32, 97, 32, 99, 111, 109, 109, 101, 110, 116]⟩
theorem ex_parse : Sp.parse exS.data.toList = .ok [⟨[108, 111, 97, 100], [[107], [49, 32, 50]]⟩] := by kernel_rfl
theorem ex_format : (⟨(fmtL [⟨⟨#[115, 97, 121]⟩, [⟨#[]⟩]⟩]).toArray⟩ : ByteArray) = ⟨#[115, 97, 121, 32, 34, 34, 10]⟩ := by kernel_rfl
theorem ex_ok : okL [⟨⟨#[115, 97, 121]⟩, [⟨#[]⟩]⟩] = true := by decide +kernel

theorem strsAt_list {w : World} {A : Option Addr} {n : Nat} {ss : List ByteArray} (h : StrsAt w A n ss) (h0 : 0 < n) : ∃ b o, A = some ⟨b, o, none⟩ ∧ ∀ j, j < ss.length → w.cell? ⟨b, o + j, none⟩ = some (.string (ss.getD j ByteArray.empty)) := by
  obtain ⟨b, o, e, hc⟩ := h.2 h0
  refine ⟨b, o, e, fun j hj => ?_⟩
  refine hc j _ ?_
  rw [List.getElem?_map, List.getElem?_eq_getElem hj, List.getD_eq_getElem?_getD, List.getElem?_eq_getElem hj]
  rfl
/-- slices.Equal at strings. -/
theorem equal_any (xs ys : List ByteArray) (A B : Option Addr) (n c m d : Nat) (w : World) (hx : StrsAt w A n xs) (hy : StrsAt w B m ys) (hn : n ≤ 9223372036854775807) (hm : m ≤ 9223372036854775807) :
    Calls Tryd.prog 22 #[.slice A n c, .slice B m d] w fun e w' => e = .returned (.bool (decide (xs = ys))) ∧ ∃ q, w' = w.drewN q := by
  have lx := hx.len
  have ly := hy.len
  by_cases hnm : n = m
  · subst hnm
    rcases Nat.eq_zero_or_pos n with h0 | h0
    · subst h0
      refine (Tryd.slices_Equal_string_empty A B c 0 d w (by omega)).mono ?_
      rintro e w' ⟨he, rfl⟩
      refine ⟨?_, 0, rfl⟩
      rw [he, List.eq_nil_of_length_eq_zero lx, List.eq_nil_of_length_eq_zero ly]
      rfl
    · obtain ⟨b1, o1, rfl, h1⟩ := strsAt_list hx h0
      obtain ⟨b2, o2, rfl, h2⟩ := strsAt_list hy h0
      refine (Tryd.slices_Equal_string b1 o1 n c b2 o2 n d xs ys w (by omega) (by omega) hn hm h1 h2).mono ?_
      rintro e w' ⟨he, hq⟩
      rw [List.take_of_length_le (by omega), List.take_of_length_le (by omega)] at he
      exact ⟨he, hq⟩
  · refine (Tryd.slices_Equal_string_lens A B n c m d w hnm).mono ?_
    rintro e w' ⟨he, rfl⟩
    refine ⟨?_, 0, rfl⟩
    rw [he]
    congr 2
    exact (decide_eq_false (fun h => by subst h; omega)).symm

set_option maxRecDepth 100000 in
set_option maxHeartbeats 2000000 in
theorem awake_any (m : Int) (w : World) (hm : w.cell? ⟨0, 0, none⟩ = some (.int .i64 m)) :
    Calls Tryd.prog 9 #[] w fun e w' => e = .returned (.bool true) ∧ Below w.heap.size w w' := by
  go_enter Tryd.func9, Tryd.ntmps9
  go_wp2_with fail
  refine (parse_any exS m _ (by unfold maxLen; decide) hm).mono ?_
  rintro e w1 ⟨hres, hb1⟩
  rw [ex_parse] at hres
  obtain ⟨A, cp, rfl, hcm⟩ := hres
  obtain ⟨ab, ao, B, n, cp', rfl, c1, c2, hn, hs⟩ := hcm.at_ (k := 0) (by simp)
  have hs' : StrsAt w1 B n [⟨#[107]⟩, ⟨#[49, 32, 50]⟩] := hs
  obtain rfl : n = 2 := hs'.len.symm
  obtain ⟨bb, bo, rfl, hz⟩ := hs'.at_ (k := 0) (by simp)
  clear hz
  have c1' : w1.cell? ⟨ab, ao, none⟩ = some (.string ⟨#[108, 111, 97, 100]⟩) := c1
  have c2' : w1.cell? ⟨ab, ao + 1, none⟩ = some (.slice (some ⟨bb, bo, none⟩) 2 cp') := c2
  have Hs := hide hs'
  clear c1 c2 hs hs' hcm
  simp only [List.length_cons, List.length_nil]
  go_wp2_with fail
  have hb2 : Below w1.heap.size w1 ((w1.alloc (.cells #[.string ⟨#[]⟩] 9)).alloc (.cells #[.string ⟨#[115, 97, 121]⟩, .slice (some ⟨w1.heap.size, 0, none⟩) 1 1] 31)) := ((Below.refl _ _).alloc (Nat.le_refl _) _).alloc (by simp) _
  refine (format_yes [⟨⟨#[115, 97, 121]⟩, [⟨#[]⟩]⟩] _ _ _ _ ?_ (by unfold maxLen; decide) ?_ ex_ok).mono ?_
  · intro c hc
    simp at hc; subst hc
    exact ⟨by unfold maxLen; decide, fun a ha => by simp at ha; subst ha; unfold maxLen; decide⟩
  · refine ⟨rfl, fun _ => ⟨_, _, rfl, fun j c hj => ?_⟩⟩
    match j, hj with
    | 0, hj =>
      simp at hj; subst hj
      refine ⟨by go_simp, some ⟨w1.heap.size, 0, none⟩, 1, 1, by go_simp, by unfold maxLen; decide, ⟨rfl, fun _ => ⟨_, _, rfl, fun i u hu => ?_⟩⟩⟩
      match i, hu with
      | 0, hu => simp at hu; subst hu; go_simp
  rintro e w2 ⟨rfl, hb3⟩
  rw [ex_format]
  have hb4 : Below w1.heap.size w1 w2 := hb2.trans (hb3.mono hb2.size)
  have hbw : Below w.heap.size w w2 := hb1.trans (hb4.mono hb1.size)
  have d1 := cell_below c1' hb4
  have d2 := cell_below c2' hb4
  have Hs2 := hide (Hs.out.keep hb4)
  clear c1' c2' hb2 hb3 hb4 Hs
  go_wp2_with fail
  have hb5 : Below w2.heap.size w2 (w2.alloc (.cells #[.string ⟨#[107]⟩, .string ⟨#[49, 32, 50]⟩] 9)) := (Below.refl _ _).alloc (Nat.le_refl _) _
  have hb6 : Below w.heap.size w (w2.alloc (.cells #[.string ⟨#[107]⟩, .string ⟨#[49, 32, 50]⟩] 9)) := hbw.alloc hbw.size _
  refine (equal_any [⟨#[107]⟩, ⟨#[49, 32, 50]⟩] [⟨#[107]⟩, ⟨#[49, 32, 50]⟩] _ _ 2 cp' 2 2 _ (Hs2.out.keep hb5) ?_ (by decide) (by decide)).mono ?_
  · refine ⟨rfl, fun _ => ⟨_, _, rfl, fun i u hu => ?_⟩⟩
    match i, hu with
    | 0, hu => simp at hu; subst hu; go_simp
    | 1, hu => simp at hu; subst hu; go_simp
  rintro e w3 ⟨rfl, nd, rfl⟩
  have hb7 := below_drewN hb6 nd
  clear hb5 hb6
  go_wp2
  go_ret
  exact ⟨rfl, hb7⟩
end Go.Proofs.YtpmegcgmbhhfaaaDoor
