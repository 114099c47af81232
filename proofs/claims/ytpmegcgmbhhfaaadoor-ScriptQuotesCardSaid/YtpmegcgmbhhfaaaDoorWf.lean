/-
  Walks: the parser's token.
-/
import Derived.Test.YtpmegcgmbhhfaaaDoorWe
import Derived.Test.YtpmegcgmbhhfaaaDoorShB
import Derived.Test.YtpmegcgmbhhfaaaDoorReg
namespace Go.Proofs.YtpmegcgmbhhfaaaDoor
open Go.RowKit

theorem byte_eq (c : UInt8) (k : Nat) (hk : k < 256) : (c == UInt8.ofNat k) = decide (((c.toNat : Nat) : Int) = k) := by
  rw [Bool.eq_iff_iff]; simp [← UInt8.toNat_inj]; omega

theorem byte_of {c : UInt8} {k : Nat} (hk : k < 256) (h : (c.toNat : Int) = k) : c = UInt8.ofNat k := by
  rw [← UInt8.toNat_inj]; simp; omega
theorem byte_ne {c : UInt8} {k : Nat} (hk : k < 256) (h : ¬ (c.toNat : Int) = k) : (c == UInt8.ofNat k) = false := by
  rw [byte_eq c k hk]; simp [h]

/-- What 'escaped' hands back. -/
def escV (c : UInt8) : Value := match Sp.escaped c with | some d => .tuple #[.int .u8 d.toNat, .bool true] | none => .tuple #[.int .u8 0, .bool false]
theorem escaped_none {c : UInt8} (h1 : ¬ (c.toNat : Int) = 34) (h2 : ¬ (c.toNat : Int) = 92) (h3 : ¬ (c.toNat : Int) = 110) (h4 : ¬ (c.toNat : Int) = 116) : Sp.escaped c = none := by
  have e1 : (c == 34) = false := byte_ne (k := 34) (by decide) h1
  have e2 : (c == 92) = false := byte_ne (k := 92) (by decide) h2
  have e3 : (c == 110) = false := byte_ne (k := 110) (by decide) h3
  have e4 : (c == 116) = false := byte_ne (k := 116) (by decide) h4
  unfold Sp.escaped
  rw [e1, e2, e3, e4]
  rfl

set_option maxHeartbeats 1000000 in
theorem escaped_any (c : UInt8) (w : World) :
    Calls Tryd.prog 74 #[.int .u8 c.toNat] w fun e w' => e = .returned (escV c) ∧ w = w' := by
  by_cases h1 : (c.toNat : Int) = 34
  · obtain rfl : c = 34 := byte_of (by decide) h1
    clear h1
    go_enter Tryd.func74, Tryd.ntmps74
    go_wp2
    go_ret2
    exact ⟨rfl, rfl⟩
  · by_cases h2 : (c.toNat : Int) = 92
    · obtain rfl : c = 92 := byte_of (by decide) h2
      clear h1 h2
      go_enter Tryd.func74, Tryd.ntmps74
      go_wp2
      go_ret2
      exact ⟨rfl, rfl⟩
    · by_cases h3 : (c.toNat : Int) = 110
      · obtain rfl : c = 110 := byte_of (by decide) h3
        clear h1 h2 h3
        go_enter Tryd.func74, Tryd.ntmps74
        go_wp2
        go_ret2
        exact ⟨rfl, rfl⟩
      · by_cases h4 : (c.toNat : Int) = 116
        · obtain rfl : c = 116 := byte_of (by decide) h4
          clear h1 h2 h3 h4
          go_enter Tryd.func74, Tryd.ntmps74
          go_wp2
          go_ret2
          exact ⟨rfl, rfl⟩
        · have hE : escV c = .tuple #[.int .u8 0, .bool false] := by unfold escV; rw [escaped_none h1 h2 h3 h4]
          rw [hE]
          go_enter Tryd.func74, Tryd.ntmps74
          go_wp2
          go_ret2
          exact ⟨rfl, rfl⟩

theorem notEmpty {r : ByteArray} (h : 0 < r.size) : r.toList.isEmpty = false := by
  rw [toList_data]
  cases h1 : r.data.toList with
  | nil =>
    have h2 : r.size = 0 := by rw [Lib.size_eq, h1]; rfl
    omega
  | cons _ _ => rfl
/-- What 'quoted' and 'token' hand back. -/
def TokRes (r : Option (Sp.Bytes × Sp.Bytes)) (e : Ending) : Prop :=
  match r with
  | some (t, s) => e = .returned (.tuple #[.string ⟨t.toArray⟩, .string ⟨s.toArray⟩, .bool true])
  | none => ∃ t s, e = .returned (.tuple #[.string t, .string s, .bool false])

theorem prtB_eq (c : UInt8) : Sp.prtB c = prt c.toNat := by
  unfold Sp.prtB prt; rw [Bool.eq_iff_iff]; simp; omega

/-- The rest of the work of 'quoted' at the index i, the bytes so far being 'acc'. -/
def qRest (s : ByteArray) (acc : List UInt8) (i : Nat) : Option (Sp.Bytes × Sp.Bytes) := Sp.quoted acc (s.data.toList.drop i)

theorem drop_at (s : ByteArray) (i : Nat) (h : i < s.size) : s.data.toList.drop i = s[i] :: s.data.toList.drop (i + 1) := List.drop_eq_getElem_cons (by simpa using h)
theorem qRest_end (s : ByteArray) (acc : List UInt8) (i : Nat) (h : ¬ i < s.size) : qRest s acc i = none := by
  unfold qRest; rw [List.drop_eq_nil_of_le (by simp; omega)]; rfl
theorem qRest_bad (s : ByteArray) (acc : List UInt8) (i : Nat) (h : i < s.size) (h1 : ¬ (s[i].toNat : Int) = 34) (h2 : prt s[i].toNat = false) : qRest s acc i = none := by
  unfold qRest; rw [drop_at s i h]
  unfold Sp.quoted
  have e1 : (s[i] == 34) = false := byte_ne (k := 34) (by decide) h1
  rw [e1, prtB_eq, h2]; rfl
theorem qRest_plain (s : ByteArray) (acc : List UInt8) (i : Nat) (h : i < s.size) (h1 : ¬ (s[i].toNat : Int) = 34) (h2 : prt s[i].toNat = true) (h3 : ¬ (s[i].toNat : Int) = 92) : qRest s acc i = qRest s (acc ++ [s[i]]) (i + 1) := by
  unfold qRest; rw [drop_at s i h]
  conv => lhs; unfold Sp.quoted
  have e1 : (s[i] == 34) = false := byte_ne (k := 34) (by decide) h1
  have e3 : (s[i] == 92) = false := byte_ne (k := 92) (by decide) h3
  rw [e1, prtB_eq, h2, e3]; rfl
theorem qRest_esc (s : ByteArray) (acc : List UInt8) (i : Nat) (h : i + 1 < s.size) (h3 : (s[i].toNat : Int) = 92) : qRest s acc i = match Sp.escaped s[i + 1] with | none => none | some e => qRest s (acc ++ [e]) (i + 2) := by
  unfold qRest; rw [drop_at s i (by omega), drop_at s (i + 1) h]
  conv => lhs; unfold Sp.quoted
  have e3 : s[i] = 92 := byte_of (by decide) h3
  rw [e3]; rfl
theorem qRest_cut (s : ByteArray) (acc : List UInt8) (i : Nat) (h : i < s.size) (h1 : ¬ i + 1 < s.size) (h3 : (s[i].toNat : Int) = 92) : qRest s acc i = none := by
  unfold qRest; rw [drop_at s i (by omega), List.drop_eq_nil_of_le (by simp; omega)]
  have e3 : s[i] = 92 := byte_of (by decide) h3
  unfold Sp.quoted
  rw [e3]; rfl
theorem qRest_shut (s : ByteArray) (acc : List UInt8) (i : Nat) (h : i < s.size) (h3 : (s[i].toNat : Int) = 34) : qRest s acc i = if i + 1 = s.size ∨ (s.data.toList.drop (i + 1)).head?.any Sp.blank = true then some (acc, s.data.toList.drop (i + 1)) else none := by
  unfold qRest; rw [drop_at s i (by omega)]
  have e3 : s[i] = 34 := byte_of (by decide) h3
  conv => lhs; unfold Sp.quoted
  rw [e3]
  have hn : (s.data.toList.drop (i + 1)).isEmpty = decide (i + 1 = s.size) := by
    rw [Bool.eq_iff_iff, List.isEmpty_iff, List.drop_eq_nil_iff]; simp; omega
  simp [hn]

set_option maxRecDepth 100000 in
set_option maxHeartbeats 2000000 in
/-- 'quoted' at a line that begins with a quotation mark. -/
theorem quoted_any (s : ByteArray) (w : World) (hs : s.size ≤ 1000000) (h0 : 0 < s.size) :
    Calls Tryd.prog 64 #[.string s] w fun e w' => TokRes (Sp.quoted [] s.data.toList.tail) e ∧ Below w.heap.size w w' := by
  have h1 : qRest s [] 1 = Sp.quoted [] s.data.toList.tail := by unfold qRest; simp
  rw [← h1]
  clear h1
  go_enter Tryd.func64, Tryd.ntmps64
  go_wp2
  go_loopg [6] (s.size - 1) (fun g i wx => ∃ (k : Nat) (acc : List UInt8), 1 ≤ k ∧ k + g = s.size ∧ i = .int .i64 k ∧ IsB w.heap.size w.heap.size acc wx ∧ Below w.heap.size w wx ∧ acc.length ≤ k ∧ qRest s acc k = qRest s [] 1)
  case atStart => exact ⟨1, [], by omega, by omega, rfl, isB_new w, (Below.refl _ _).alloc (Nat.le_refl _) _, by simp, rfl⟩
  case round =>
    obtain ⟨k, acc, hk1, hkg, rfl, hB, hb, hacc, hq⟩ := hrel
    have HQ : Aside (qRest s acc k = qRest s [] 1 ∧ k + gk = s.size) := ⟨hq, hkg⟩
    have hks : k ≤ s.size := by omega
    clear hq hkg
    have HB : Aside (IsB w.heap.size w.heap.size acc wr) := hB
    clear hB
    by_cases hlt : k < s.size
    · by_cases hc34 : (s[k].toNat : Int) = 34
      · have H2 := hide (qRest_shut s acc k hlt hc34)
        by_cases hend : k + 1 = s.size
        · have hx : (s.extract (k + 1) s.size).toList.isEmpty = true := by rw [toList_data, Lib.extract_to_end, List.drop_eq_nil_of_le (by simp; omega)]; rfl
          go_wp2
          have HS := hide (fun (p : Cls (fun w' => IsB w.heap.size w.heap.size acc w' ∧ Below w.heap.size w w')) => calls_cls (C := fun w' => IsB w.heap.size w.heap.size acc w' ∧ Below w.heap.size w w') (string_any w.heap.size w.heap.size acc p.w p.ok.1 p.ok.2.size) (fun e w' ⟨he, h1, h2⟩ => ⟨he, h1, p.ok.2.trans h2⟩))
          refine wp_region_cls (fun w' => IsB w.heap.size w.heap.size acc w' ∧ Below w.heap.size w w') (by kernel_rfl) (by kernel_rfl) ⟨isB_drew HB.out, hb.drew⟩ (fun hne => ?_)
          repeat (quiet_step ((go_at_call 31; exact HS.out _)))
          refine wpQuiet_nil ?_
          rintro _ ⟨p, rfl⟩
          have hbp := p.ok.2
          clear HS
          go_wp2
          refine bodyPost_ret (results_tmp3 rfl _ _ _) rfl ⟨?_, hbp⟩
          rw [← HQ.out.1, H2.out, if_pos (Or.inl hend), List.drop_eq_nil_of_le (by simp; omega)]
          exact rfl
        · have hr0 : 0 < (s.extract (k + 1) s.size).size := by simp; omega
          have hrd : (s.extract (k + 1) s.size).data.toList = s.data.toList.drop (k + 1) := Lib.extract_to_end s (k + 1)
          go_wp2
          generalize s.extract (k + 1) s.size = r at hr0 hrd ⊢
          have hx : r.toList.isEmpty = false := notEmpty hr0
          have hi0 : (0 : Int) < (r.size : Int) := by omega
          have Hhd := hide (show r.data.toList.head? = some (r[0]'hr0) by rw [List.head?_eq_getElem?]; exact Lib.data_getElem? r 0 hr0)
          have Hrd := hide hrd
          clear hrd
          have HS := hide (fun (p : Cls (fun w' => IsB w.heap.size w.heap.size acc w' ∧ Below w.heap.size w w')) => calls_cls (C := fun w' => IsB w.heap.size w.heap.size acc w' ∧ Below w.heap.size w w') (string_any w.heap.size w.heap.size acc p.w p.ok.1 p.ok.2.size) (fun e w' ⟨he, h1, h2⟩ => ⟨he, h1, p.ok.2.trans h2⟩))
          by_cases hb32 : ((r[0]'hr0).toNat : Int) = 32
          · have HBL := hide (show Option.any Sp.blank (some (r[0]'hr0)) = true by rw [show r[0]'hr0 = 32 from byte_of (by decide) hb32]; rfl)
            refine wp_region_cls (fun w' => IsB w.heap.size w.heap.size acc w' ∧ Below w.heap.size w w') (by kernel_rfl) (by kernel_rfl) ⟨isB_drew HB.out, hb.drew⟩ (fun hne => ?_)
            repeat (quiet_step ((go_at_call 31; exact HS.out _)))
            refine wpQuiet_nil ?_
            rintro _ ⟨p, rfl⟩
            have hbp := p.ok.2
            clear HS
            go_wp2
            refine bodyPost_ret (results_tmp3 rfl _ _ _) rfl ⟨?_, hbp⟩
            rw [← HQ.out.1, H2.out, ← Hrd.out, Hhd.out, if_pos (Or.inr HBL.out)]
            exact rfl
          · by_cases hb9 : ((r[0]'hr0).toNat : Int) = 9
            · have HBL := hide (show Option.any Sp.blank (some (r[0]'hr0)) = true by rw [show r[0]'hr0 = 9 from byte_of (by decide) hb9]; rfl)
              refine wp_region_cls (fun w' => IsB w.heap.size w.heap.size acc w' ∧ Below w.heap.size w w') (by kernel_rfl) (by kernel_rfl) ⟨isB_drew HB.out, hb.drew⟩ (fun hne => ?_)
              repeat (quiet_step ((go_at_call 31; exact HS.out _)))
              refine wpQuiet_nil ?_
              rintro _ ⟨p, rfl⟩
              have hbp := p.ok.2
              clear HS
              go_wp2
              refine bodyPost_ret (results_tmp3 rfl _ _ _) rfl ⟨?_, hbp⟩
              rw [← HQ.out.1, H2.out, ← Hrd.out, Hhd.out, if_pos (Or.inr HBL.out)]
              exact rfl
            · have HBL := hide (show Option.any Sp.blank (some (r[0]'hr0)) = false by
                show (r[0]'hr0 == UInt8.ofNat 32 || r[0]'hr0 == UInt8.ofNat 9) = false
                rw [byte_ne (by decide) hb32, byte_ne (by decide) hb9]; rfl)
              have hb32' : (((r[0]'hr0).toNat : Int) == 32) = false := by simpa using hb32
              have hb9' : (((r[0]'hr0).toNat : Int) == 9) = false := by simpa using hb9
              clear hb32 hb9
              refine wp_region_cls (fun w' => IsB w.heap.size w.heap.size acc w' ∧ Below w.heap.size w w') (by kernel_rfl) (by kernel_rfl) ⟨isB_drew HB.out, hb.drew⟩ (fun hne => ?_)
              repeat (quiet_step ((go_at_call 31; exact HS.out _)))
              refine wpQuiet_nil ?_
              rintro _ ⟨p, rfl⟩
              have hbp := p.ok.2
              clear HS
              go_wp2
              refine bodyPost_ret (results_tmp3 rfl _ _ _) rfl ⟨?_, hbp⟩
              rw [← HQ.out.1, H2.out, ← Hrd.out, Hhd.out, if_neg (fun h => h.elim hend (fun h => by rw [HBL.out] at h; exact absurd h (by decide)))]
              exact ⟨_, _, rfl⟩
      · by_cases hp : prt s[k].toNat = true
        · by_cases hc92 : (s[k].toNat : Int) = 92
          · have hp92 : prt 92 = true := by decide
            clear hp
            by_cases hl2 : k + 1 < s.size
            · cases he : Sp.escaped (s[k + 1]'hl2) with
              | none =>
                have H2 := hide (show qRest s acc k = none by rw [qRest_esc s acc k hl2 hc92, he])
                have hV : escV (s[k + 1]'hl2) = .tuple #[.int .u8 0, .bool false] := by unfold escV; rw [he]
                clear he
                go_wp2_with (first | (go_at_call 47; (with_reducible refine (printed_any _ _).mono ?_); rintro e w' ⟨rfl, rfl⟩; rw [hp92]) | (go_at_call 74; (with_reducible refine (escaped_any (s[k + 1]'hl2) _).mono ?_); rintro e w' ⟨rfl, rfl⟩; rw [hV]))
                refine bodyPost_ret (results_tmp3 rfl _ _ _) rfl ⟨?_, hb⟩
                rw [← HQ.out.1, H2.out]
                exact ⟨_, _, rfl⟩
              | some d =>
                have H2 := hide (show qRest s acc k = qRest s (acc ++ [d]) (k + 2) by rw [qRest_esc s acc k hl2 hc92, he])
                have hV : escV (s[k + 1]'hl2) = .tuple #[.int .u8 d.toNat, .bool true] := by unfold escV; rw [he]
                clear he
                go_wp2_with (first | (go_at_call 47; (with_reducible refine (printed_any _ _).mono ?_); rintro e w' ⟨rfl, rfl⟩; rw [hp92]) | (go_at_call 74; (with_reducible refine (escaped_any (s[k + 1]'hl2) _).mono ?_); rintro e w' ⟨rfl, rfl⟩; rw [hV]) | (go_at_call 29; (with_reducible refine (writeByte_any w.heap.size w.heap.size acc d _ HB.out (by omega) hb.size).mono ?_); rintro e w' ⟨rfl, hB2, hb2⟩))
                go_roundg (gk - 2)
                case measure => have := HQ.out.2; omega
                case rel => exact ⟨k + 2, acc ++ [d], by omega, by have := HQ.out.2; omega, by go_num, hB2, hb.trans hb2, by simp; omega, H2.out.symm.trans HQ.out.1⟩
            · have H2 := hide (qRest_cut s acc k hlt hl2 hc92)
              go_wp2_with (first | (go_at_call 47; (with_reducible refine (printed_any _ _).mono ?_); rintro e w' ⟨rfl, rfl⟩; rw [hp92]))
              refine bodyPost_ret (results_tmp3 rfl _ _ _) rfl ⟨?_, hb⟩
              rw [← HQ.out.1, H2.out]
              exact ⟨_, _, rfl⟩
          · have H2 := hide (qRest_plain s acc k hlt hc34 hp hc92)
            go_wp2_with (first | (go_at_call 47; (with_reducible refine (printed_any _ _).mono ?_); rintro e w' ⟨rfl, rfl⟩; rw [hp]) | (go_at_call 29; (with_reducible refine (writeByte_any w.heap.size w.heap.size acc s[k] _ HB.out (by omega) hb.size).mono ?_); rintro e w' ⟨rfl, hB2, hb2⟩))
            go_roundg (gk - 1)
            case measure => have := HQ.out.2; omega
            case rel => exact ⟨k + 1, acc ++ [s[k]], by omega, by have := HQ.out.2; omega, by go_num, hB2, hb.trans hb2, by simp; omega, H2.out.symm.trans HQ.out.1⟩
        · have hp' : prt s[k].toNat = false := by simpa using hp
          have H2 := hide (qRest_bad s acc k hlt hc34 hp')
          go_wp2_with (first | (go_at_call 47; (with_reducible refine (printed_any _ _).mono ?_); rintro e w' ⟨rfl, rfl⟩; rw [hp']))
          refine bodyPost_ret (results_tmp3 rfl _ _ _) rfl ⟨?_, hb⟩
          rw [← HQ.out.1, H2.out]
          exact ⟨_, _, rfl⟩
    · have H2 := hide (qRest_end s acc k hlt)
      go_wp2
      refine bodyPost_ret (results_tmp3 rfl _ _ _) rfl ⟨?_, hb⟩
      rw [← HQ.out.1, H2.out]
      exact ⟨_, _, rfl⟩
end Go.Proofs.YtpmegcgmbhhfaaaDoor
