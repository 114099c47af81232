/-
  Walks: shifted.
-/
import Derived.Test.YtobbepmlmbbamaaWj
namespace Go.Proofs.Ytobbepmlmbbamaa
open Go.RowKit

/-- How many of the first k gone crossings lie ahead of h. -/
def ahd (gs : List Nat) (h k : Nat) : Nat := ((gs.take k).filter (fun c => decide (c < h / 4))).length
theorem ahd_le (gs : List Nat) (h k : Nat) : ahd gs h k ≤ k := by
  unfold ahd
  have := List.length_filter_le (fun c => decide (c < h / 4)) (gs.take k)
  have := List.length_take_le k gs
  omega
theorem ahd_succ {gs : List Nat} {k : Nat} (hk : k < gs.length) (h : Nat) : ahd gs h (k + 1) = ahd gs h k + if gs.getD k 0 < h / 4 then 1 else 0 := by
  unfold ahd
  rw [List.take_succ_eq_append_getElem hk, List.filter_append, List.length_append, List.getD_eq_getElem?_getD, List.getElem?_eq_getElem hk]
  by_cases e : gs[k] < h / 4 <;> simp [List.filter_cons, e]
theorem ahd_all {gs : List Nat} {k : Nat} (hk : gs.length ≤ k) (h : Nat) : ahd gs h k = (gs.filter (fun c => decide (c < h / 4))).length := by
  unfold ahd
  rw [List.take_of_length_le hk]
theorem nats_at {w : World} {A : Option Addr} {n k : Nat} {gs : List Nat} (h : IntsAt w A n (nats gs)) (hk : k < n) :
    ∃ b o, A = some ⟨b, o, none⟩ ∧ w.cell? ⟨b, o + k, none⟩ = some (.int .i64 (gs.getD k 0 : Nat)) := by
  obtain ⟨b, o, e, hc⟩ := h.at_ hk
  refine ⟨b, o, e, hc.trans ?_⟩
  have hl := h.len
  unfold nats at hl ⊢
  rw [List.length_map] at hl
  rw [List.getD_eq_getElem?_getD, List.getD_eq_getElem?_getD, List.getElem?_map, List.getElem?_eq_getElem (by omega)]; rfl
set_option maxRecDepth 100000 in
set_option maxHeartbeats 1000000 in
theorem shifted_any (gs : List Nat) (A : Option Addr) (n c h : Nat) (w : World) (hg : IntsAt w A n (nats gs)) (hn : n ≤ 100) (hh : h ≤ 100000) (hf : Pl.Few gs) :
    Calls Try.prog 82 #[.int .i64 (h : Int), .slice A n c] w fun e w' => e = .returned (.int .i64 (Pl.shf gs h : Nat)) ∧ w' = w := by
  have hl := hg.len
  unfold nats at hl
  rw [List.length_map] at hl
  have HL := hide hl
  have HG := hide hg
  clear hl hg
  go_enter Try.func82, Try.ntmps82
  go_wp2
  go_loop [5, 10] (fun b i => ∃ k : Nat, k ≤ n ∧ i = .int .i64 k ∧ b = .int .i64 (4 * (ahd gs h k : Nat))) (fun _ i => n - (intOf i).toNat)
  case atStart => exact ⟨0, by omega, rfl, rfl⟩
  case round =>
    obtain ⟨k, hk, rfl, rfl⟩ := hrel
    have hle := ahd_le gs h k
    by_cases hlt : k < n
    · obtain ⟨b, o, rfl, hc⟩ := nats_at HG.out hlt
      have HS := hide (ahd_succ (gs := gs) (k := k) (by have := HL.out; omega) h)
      obtain ⟨x, hx⟩ : ∃ x, x = gs.getD k 0 := ⟨_, rfl⟩
      rw [← hx] at hc HS
      clear hx
      by_cases ht : x < h / 4
      · have HT := hide ht
        have t1 : decide ((x : Int) < (h : Int) / 4) = true := by simp; omega
        clear ht
        go_wp2
        go_round
        case rel => exact ⟨k + 1, by omega, by go_num, by rw [HS.out, if_pos HT.out]; go_num⟩
        case measure => simp [intOf]; omega
      · have HT := hide ht
        have t1 : decide ((x : Int) < (h : Int) / 4) = false := by simp; omega
        clear ht
        go_wp2
        go_round
        case rel => exact ⟨k + 1, by omega, by go_num, by rw [HS.out, if_neg HT.out]; go_num⟩
        case measure => simp [intOf]; omega
    · go_wp2
      go_ret
      refine ⟨ret_int ?_, rfl⟩
      have h1 := ahd_all (gs := gs) (k := k) (by have := HL.out; omega) h
      have h2 := Pl.shf_le hf h
      unfold Pl.shf
      rw [h1]
      omega
theorem shifted_i (gs : List Nat) (A : Option Addr) (n c : Nat) (h : Int) (w : World) (hg : IntsAt w A n (nats gs)) (hn : n ≤ 100) (hh : 0 ≤ h ∧ h ≤ 100000) (hf : Pl.Few gs) :
    Calls Try.prog 82 #[.int .i64 h, .slice A n c] w fun e w' => e = .returned (.int .i64 (Pl.shf gs h.toNat : Nat)) ∧ w' = w := by
  obtain ⟨k, rfl⟩ := Int.eq_ofNat_of_zero_le hh.1
  exact shifted_any gs A n c k w hg hn (by omega) hf
end Go.Proofs.Ytobbepmlmbbamaa
