/-
  Walks: the reference's Arg and Line.
-/
import Derived.Test.YtpmegcgmbhhfaaaDoorWl
namespace Go.Proofs.YtpmegcgmbhhfaaaDoor
open Go.RowKit

theorem hd_neq {a : ByteArray} (h0 : 0 < a.size) : (a.data.toList.head? != some 35) = (((a[0]'h0).toNat : Int) != 35) := by
  have hhd : a.data.toList.head? = some (a[0]'h0) := by rw [List.head?_eq_getElem?]; exact Lib.data_getElem? a 0 h0
  rw [hhd]
  by_cases h : ((a[0]'h0).toNat : Int) = 35
  · rw [show a[0]'h0 = 35 from byte_of (by decide) h]; rfl
  · have : ((a[0]'h0) == UInt8.ofNat 35) = false := byte_ne (by decide) h
    have h2 : (some (a[0]'h0) != some (35 : UInt8)) = true := by
      show (!(a[0]'h0 == UInt8.ofNat 35)) = true
      rw [this]; rfl
    rw [h2]; exact (bne_iff_ne.2 h).symm
theorem take_bare {a : ByteArray} {k : Nat} (hk : k < a.size) : (a.data.toList.take (k + 1)).all bareB = ((a.data.toList.take k).all bareB && bareB (a[k]'hk)) := take_all (by simpa using hk)
theorem isEmpty_pos {a : ByteArray} (h0 : 0 < a.size) : a.data.toList.isEmpty = false := by
  cases hd : a.data.toList with
  | nil => have := Lib.size_eq a; rw [hd, List.length_nil] at this; omega
  | cons x l => rfl
/-- The text of an argument, out of its two ways. -/
theorem arg_split {a : ByteArray} (h0 : 0 < a.size) {b : Bool} (h : (((a[0]'h0).toNat : Int) != 35 && a.data.toList.all bareB) = b) : Sp.arg a.data.toList = if b then a.data.toList else 34 :: (a.data.toList.flatMap Sp.esc ++ [34]) := by
  have hne := isEmpty_pos h0
  subst h
  unfold Sp.arg
  rw [← bareL_eq, hd_neq h0]
  unfold bareL
  rw [hne]
  cases (((a[0]'h0).toNat : Int) != 35) <;> cases a.data.toList.all bareB <;> rfl
theorem data_add (x y : ByteArray) : (x ++ y).data.toList = x.data.toList ++ y.data.toList := by simp
theorem data_ext {x y : ByteArray} (h : x.data.toList = y.data.toList) : x = y := ByteArray.ext (Array.ext' h)
theorem extract_one (a : ByteArray) (q : Nat) (h : q < a.size) : (a.extract q (q + 1)).data.toList = [a[q]'h] := by
  rw [← toList_data, Lib.extract_toList, show q + 1 - q = 1 by omega]
  have hl : q < a.data.toList.length := by have := Lib.size_eq a; omega
  rw [List.drop_eq_getElem_cons hl, List.take_succ_cons, List.take_zero]
  have := Lib.data_getElem? a q h
  rw [List.getElem?_eq_getElem hl] at this
  injection this with this
  rw [this]
theorem size_add (x y : ByteArray) : (x ++ y).size = x.size + y.size := by simp

set_option maxRecDepth 100000 in
set_option maxHeartbeats 4000000 in
theorem arg_any (a : ByteArray) (w : World) (ha : a.size ≤ 20000) :
    Calls Tryd.prog 32 #[.string a] w fun e w' => e = .returned (.string ⟨(Sp.arg a.data.toList).toArray⟩) ∧ Below w.heap.size w w' := by
  rcases Nat.eq_zero_or_pos a.size with h0 | h0
  · obtain rfl : a = ⟨#[]⟩ := by
      have := Lib.size_eq a; rw [h0] at this
      have := List.eq_nil_of_length_eq_zero this.symm
      cases a with | mk d => simp at this; subst this; rfl
    go_enter Tryd.func32, Tryd.ntmps32
    go_wp2
    go_loopg [3, 4] 0 (fun g b i wx => b = .bool false ∧ i = .int .i64 0 ∧ Below w.heap.size w wx)
    case atStart => exact ⟨rfl, rfl, Below.refl _ _⟩
    case round =>
      obtain ⟨rfl, rfl, hb⟩ := hrel
      go_wp2
      go_loopg [5, 6] 0 (fun g r i wx => r = .string ⟨#[34]⟩ ∧ i = .int .i64 0 ∧ Below w.heap.size w wx)
      case atStart => exact ⟨rfl, rfl, hb⟩
      case round =>
        obtain ⟨rfl, rfl, hb⟩ := hrel
        go_wp2
        go_ret
        exact ⟨rfl, hb⟩
  · have hi0 : (0 : Int) < (a.size : Int) := by omega
    have HS := hide (fun b h => @arg_split a h0 b h)
    have hne : a.toList.isEmpty = false := by rw [isEmpty_data]; exact isEmpty_pos h0
    go_enter Tryd.func32, Tryd.ntmps32
    go_wp2
    clear hne hi0
    generalize (((a[0]'h0).toNat : Int) != 35) = hd at HS ⊢
    go_loopg [3, 4] a.size (fun g b i wx => ∃ k : Nat, k + g = a.size ∧ i = .int .i64 k ∧ b = .bool (hd && (a.data.toList.take k).all bareB) ∧ Below w.heap.size w wx)
    case atStart => exact ⟨0, by omega, rfl, by simp, Below.refl _ _⟩
    case round =>
      obtain ⟨k, hkg, rfl, rfl, hb⟩ := hrel
      have HG := hide hkg
      have hks : k ≤ a.size := by omega
      clear hkg
      by_cases hlt : k < a.size
      · have HT := hide (take_bare hlt)
        have HB := hide (bareB_iff (a[k]'hlt))
        cases hv : (hd && (a.data.toList.take k).all bareB) with
        | false =>
          have HV := hide hv; clear hv
          go_wp2
          go_roundg (gk - 1)
          case measure => have := HG.out; omega
          case rel => exact ⟨k + 1, by have := HG.out; omega, by go_num, by rw [HT.out, ← Bool.and_assoc, HV.out]; rfl, hb⟩
        | true =>
          have HV := hide hv; clear hv
          have HW := hide (show ∀ bb : Bool, bareB (a[k]'hlt) = bb → (hd && (a.data.toList.take (k + 1)).all bareB) = bb from fun bb h => by rw [HT.out, ← Bool.and_assoc, HV.out, h]; rfl)
          by_cases c1 : 33 ≤ ((a[k]'hlt).toNat : Int)
          · by_cases c2 : ((a[k]'hlt).toNat : Int) ≤ 126
            · by_cases c3 : ((a[k]'hlt).toNat : Int) = 34
              · have HN := hide (show bareB (a[k]'hlt) = false by
                  cases h : bareB (a[k]'hlt) with
                  | false => rfl
                  | true => exact absurd c3 (HB.out.1 h).2.2)
                go_wp2
                go_roundg (gk - 1)
                case measure => have := HG.out; omega
                case rel => exact ⟨k + 1, by have := HG.out; omega, by go_num, by rw [HW.out _ HN.out], hb⟩
              · have HN := hide (HB.out.2 ⟨c1, c2, c3⟩)
                have c3' : (((a[k]'hlt).toNat : Int) != 34) = true := bne_iff_ne.2 c3
                clear c3
                go_wp2
                go_roundg (gk - 1)
                case measure => have := HG.out; omega
                case rel => exact ⟨k + 1, by have := HG.out; omega, by go_num, by rw [HW.out _ HN.out], hb⟩
            · have HN := hide (show bareB (a[k]'hlt) = false by
                cases h : bareB (a[k]'hlt) with
                | false => rfl
                | true => exact absurd (HB.out.1 h).2.1 c2)
              go_wp2
              go_roundg (gk - 1)
              case measure => have := HG.out; omega
              case rel => exact ⟨k + 1, by have := HG.out; omega, by go_num, by rw [HW.out _ HN.out], hb⟩
          · have HN := hide (show bareB (a[k]'hlt) = false by
              cases h : bareB (a[k]'hlt) with
              | false => rfl
              | true => exact absurd (HB.out.1 h).1 c1)
            go_wp2
            go_roundg (gk - 1)
            case measure => have := HG.out; omega
            case rel => exact ⟨k + 1, by have := HG.out; omega, by go_num, by rw [HW.out _ HN.out], hb⟩
      · have HE := hide (show (a.data.toList.take k) = a.data.toList from List.take_of_length_le (by have := Lib.size_eq a; omega))
        cases hv : (hd && (a.data.toList.take k).all bareB) with
        | true =>
          have HA := hide (HS.out true (by rw [← hv, HE.out]))
          clear hv
          go_wp2
          go_ret
          exact ⟨by rw [HA.out]; rfl, hb⟩
        | false =>
          have HA := hide (HS.out false (by rw [← hv, HE.out]))
          clear hv HE HS
          go_wp2
          go_loopg [5, 6] a.size (fun g r i wx => ∃ (q : Nat) (x : ByteArray), q + g = a.size ∧ i = .int .i64 q ∧ r = .string x ∧ x.data.toList = 34 :: (a.data.toList.take q).flatMap Sp.esc ∧ x.size ≤ 2 * q + 1 ∧ Below w.heap.size w wx)
          case atStart => exact ⟨0, ⟨#[34]⟩, by omega, rfl, rfl, rfl, by decide, hb⟩
          case round =>
            obtain ⟨q, x, hqg, rfl, rfl, hx, hxs, hb2⟩ := hrel
            have HG := hide hqg
            have HX := hide hx
            have hqs : q ≤ a.size := by omega
            clear hqg hx
            by_cases hlt2 : q < a.size
            · have HT2 := hide (take_flat hlt2)
              have key : ∀ y : ByteArray, y.data.toList = Sp.esc (a[q]'hlt2) → (x ++ y).data.toList = 34 :: (a.data.toList.take (q + 1)).flatMap Sp.esc ∧ (x ++ y).size ≤ 2 * (q + 1) + 1 := fun y hy => by
                refine ⟨by rw [data_add, HX.out, hy, HT2.out]; rfl, ?_⟩
                have := esc_len (a[q]'hlt2)
                rw [size_add]
                have := Lib.size_eq y
                rw [hy] at this; omega
              have Key := hide key
              clear key
              by_cases c34 : ((a[q]'hlt2).toNat : Int) = 34
              · have HE := hide (show (⟨#[92, 34]⟩ : ByteArray).data.toList = Sp.esc (a[q]'hlt2) by rw [show a[q]'hlt2 = 34 from byte_of (by decide) c34]; rfl)
                have hadd := run_string_add_sum (P := Tryd.prog) wr x ⟨#[92, 34]⟩ (by have : (⟨#[92, 34]⟩ : ByteArray).size = 2 := rfl; omega)
                go_wp2
                go_roundg (a.size - (q + 1))
                case measure => have := HG.out; omega
                case rel => exact ⟨q + 1, _, by omega, by go_num, rfl, (Key.out _ HE.out).1, (Key.out _ HE.out).2, hb2⟩
              · by_cases c92 : ((a[q]'hlt2).toNat : Int) = 92
                · have HE := hide (show (⟨#[92, 92]⟩ : ByteArray).data.toList = Sp.esc (a[q]'hlt2) by rw [show a[q]'hlt2 = 92 from byte_of (by decide) c92]; rfl)
                  have hadd := run_string_add_sum (P := Tryd.prog) wr x ⟨#[92, 92]⟩ (by have : (⟨#[92, 92]⟩ : ByteArray).size = 2 := rfl; omega)
                  go_wp2
                  go_roundg (a.size - (q + 1))
                  case measure => have := HG.out; omega
                  case rel => exact ⟨q + 1, _, by omega, by go_num, rfl, (Key.out _ HE.out).1, (Key.out _ HE.out).2, hb2⟩
                · by_cases c10 : ((a[q]'hlt2).toNat : Int) = 10
                  · have HE := hide (show (⟨#[92, 110]⟩ : ByteArray).data.toList = Sp.esc (a[q]'hlt2) by rw [show a[q]'hlt2 = 10 from byte_of (by decide) c10]; rfl)
                    have hadd := run_string_add_sum (P := Tryd.prog) wr x ⟨#[92, 110]⟩ (by have : (⟨#[92, 110]⟩ : ByteArray).size = 2 := rfl; omega)
                    go_wp2
                    go_roundg (a.size - (q + 1))
                    case measure => have := HG.out; omega
                    case rel => exact ⟨q + 1, _, by omega, by go_num, rfl, (Key.out _ HE.out).1, (Key.out _ HE.out).2, hb2⟩
                  · by_cases c9 : ((a[q]'hlt2).toNat : Int) = 9
                    · have HE := hide (show (⟨#[92, 116]⟩ : ByteArray).data.toList = Sp.esc (a[q]'hlt2) by rw [show a[q]'hlt2 = 9 from byte_of (by decide) c9]; rfl)
                      have hadd := run_string_add_sum (P := Tryd.prog) wr x ⟨#[92, 116]⟩ (by have : (⟨#[92, 116]⟩ : ByteArray).size = 2 := rfl; omega)
                      go_wp2
                      go_roundg (a.size - (q + 1))
                      case measure => have := HG.out; omega
                      case rel => exact ⟨q + 1, _, by omega, by go_num, rfl, (Key.out _ HE.out).1, (Key.out _ HE.out).2, hb2⟩
                    · have HE := hide (show (a.extract q (q + 1)).data.toList = Sp.esc (a[q]'hlt2) by
                        rw [esc_plain c10 c9 c34 c92]
                        exact extract_one a q hlt2)
                      have hadd := run_string_add_sum (P := Tryd.prog) wr x (a.extract q (q + 1)) (by rw [ByteArray.size_extract]; omega)
                      go_wp2
                      go_roundg (a.size - (q + 1))
                      case measure => have := HG.out; omega
                      case rel => exact ⟨q + 1, _, by omega, by go_num, rfl, (Key.out _ HE.out).1, (Key.out _ HE.out).2, hb2⟩
            · have HE := hide (show (a.data.toList.take q) = a.data.toList from List.take_of_length_le (by have := Lib.size_eq a; omega))
              have hadd := run_string_add_sum (P := Tryd.prog) wr x ⟨#[34]⟩ (by have : (⟨#[34]⟩ : ByteArray).size = 1 := rfl; omega)
              have HF := hide (show x ++ ⟨#[34]⟩ = ⟨(Sp.arg a.data.toList).toArray⟩ by
                apply data_ext
                rw [data_add, HX.out, HA.out, HE.out]; rfl)
              go_wp2
              go_ret
              exact ⟨congrArg (fun z => Ending.returned (.string z)) HF.out, hb2⟩

theorem arg_bound {a : ByteArray} (h : argFits a = true) : a.size ≤ 20000 := by
  unfold argFits at h; rw [Bool.and_eq_true] at h; simpa using h.1
theorem mk_size (l : List UInt8) : (⟨l.toArray⟩ : ByteArray).size = l.length := by
  rw [Lib.size_eq]

set_option maxRecDepth 100000 in
set_option maxHeartbeats 4000000 in
theorem line_any (c : Cmd) (B : Option Addr) (m cp : Nat) (w : World) (hf : fits c = true) (ha : StrsAt w B m c.args) :
    Calls Tryd.prog 14 #[.agg #[.string c.word, .slice B m cp]] w fun e w' => e = .returned (.string ⟨(lineB c).toArray⟩) ∧ Below w.heap.size w w' := by
  obtain ⟨s, ss⟩ := c
  have hl := ha.len
  have hparts := hf
  unfold fits at hparts
  simp only [Bool.and_eq_true, decide_eq_true_eq] at hparts
  obtain ⟨⟨⟨⟨_, p2⟩, p3⟩, _⟩, p5⟩ := hparts
  have HAF := hide p5
  clear p5 hf
  simp only at hl p2 p3 ha HAF ⊢
  have Hl := hide hl
  have hm : m ≤ 20 := by omega
  clear hl
  go_enter Tryd.func14, Tryd.ntmps14
  go_wp2
  have hb0 : Below w.heap.size w (w.alloc (Obj.cells #[Value.string s, Value.slice B m cp] 33)) := (Below.refl _ _).alloc (Nat.le_refl _) _
  have hbox : (w.alloc (Obj.cells #[Value.string s, Value.slice B m cp] 33)).cell? ⟨w.heap.size, 1, none⟩ = some (.slice B m cp) := by go_simp
  have hlt0 : w.heap.size < (w.alloc (Obj.cells #[Value.string s, Value.slice B m cp] 33)).heap.size := by simp
  generalize (w.alloc (Obj.cells #[Value.string s, Value.slice B m cp] 33)) = W1 at hb0 hbox hlt0 ⊢
  go_loopg [3, 4] m (fun g r i wx => ∃ (q : Nat) (x : ByteArray), q + g = m ∧ i = .int .i64 q ∧ r = .string x ∧ x.data.toList = s.data.toList ++ argsT (ss.take q) ∧ Below W1.heap.size W1 wx)
  case atStart => exact ⟨0, s, by omega, rfl, rfl, by simp [argsT], Below.refl _ _⟩
  case round =>
    obtain ⟨q, x, hqg, rfl, rfl, hx, hb⟩ := hrel
    have HG := hide hqg
    have HX := hide hx
    have hqs : q ≤ m := by omega
    clear hqg hx
    have hbw : Below w.heap.size w wr := hb0.trans (hb.mono hb0.size)
    have hbx := cell_below hbox hb
    have hxs : x.size ≤ 1000000 := by
      have h1 := Lib.size_eq x
      have h2 := argsT_len (ss.take q) (all_take HAF.out q)
      have h3 := List.length_take_le q ss
      have h4 := Lib.size_eq s
      have h5 := Hl.out
      rw [HX.out, List.length_append] at h1
      omega
    by_cases hlt : q < m
    · obtain ⟨cb, co, rfl, hcc⟩ := (ha.keep hbw).at_ hlt
      have hqs' : q < ss.length := by have := Hl.out; omega
      have hsz : (ss[q]'hqs').size ≤ 20000 := arg_bound (all_at HAF.out hqs')
      have HAL := hide (arg_len (ss[q]'hqs').data.toList)
      have HT := hide (argsT_take hqs')
      have hadd1 := run_string_add_sum (P := Tryd.prog) wr x ⟨#[32]⟩ (by have : (⟨#[32]⟩ : ByteArray).size = 1 := rfl; omega)
      go_wp2_with fail
      refine (arg_any (ss[q]'hqs') _ hsz).mono ?_
      rintro e w3 ⟨rfl, hb3⟩
      have hb4 : Below W1.heap.size W1 w3 := hb.trans (hb3.mono hb.size)
      have hadd2 := run_string_add_sum (P := Tryd.prog) w3 (x ++ ⟨#[32]⟩) ⟨(Sp.arg (ss[q]'hqs').data.toList).toArray⟩ (by
        have h1 : (⟨#[32]⟩ : ByteArray).size = 1 := rfl
        have h2 := Lib.size_eq (ss[q]'hqs')
        have h3 := HAL.out
        have h4 := mk_size (Sp.arg (ss[q]'hqs').data.toList)
        rw [size_add]; omega)
      go_wp2
      go_roundg (gk - 1)
      case measure => have := HG.out; omega
      case rel =>
        refine ⟨q + 1, _, by have := HG.out; omega, by go_num, rfl, ?_, hb4⟩
        rw [data_add, data_add, HX.out, HT.out]
        simp
    · have hadd := run_string_add_sum (P := Tryd.prog) wr x ⟨#[10]⟩ (by have : (⟨#[10]⟩ : ByteArray).size = 1 := rfl; omega)
      have HF := hide (show x ++ ⟨#[10]⟩ = ⟨(lineB ⟨s, ss⟩).toArray⟩ by
        apply data_ext
        rw [data_add, HX.out, List.take_of_length_le (by have := Hl.out; omega)]
        simp [lineB])
      go_wp2
      go_ret
      exact ⟨congrArg (fun z => Ending.returned (.string z)) HF.out, hbw⟩
end Go.Proofs.YtpmegcgmbhhfaaaDoor
