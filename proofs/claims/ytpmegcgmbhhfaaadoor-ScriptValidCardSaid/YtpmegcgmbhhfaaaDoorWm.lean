/-
  Walks: the statement ScriptValid.
-/
import Derived.Test.YtpmegcgmbhhfaaaDoorWl
namespace Go.Proofs.YtpmegcgmbhhfaaaDoor
open Go.RowKit

/-- The cells of commands. -/
def CmdsV (w : World) (vs : List Value) (cs : List Cmd) : Prop :=
  vs.length = cs.length * 2 ∧ ∀ (j : Nat) c, cs[j]? = some c → vs[j * 2]? = some (.string c.word) ∧ ∃ (B : Option Addr) (m cp : Nat), vs[j * 2 + 1]? = some (.slice B m cp) ∧ m ≤ maxLen ∧ StrsAt w B m c.args
theorem CmdsV.keep {w w' : World} {vs : List Value} {cs : List Cmd} (h : CmdsV w vs cs) (hb : Below w.heap.size w w') : CmdsV w' vs cs :=
  ⟨h.1, fun j c hj => let ⟨h1, B, m, cp, h2, h3, h4⟩ := h.2 j c hj; ⟨h1, B, m, cp, h2, h3, h4.keep hb⟩⟩
theorem CmdsV.nil (w : World) : CmdsV w [] [] := ⟨rfl, fun j c h => by simp at h⟩
theorem CmdsV.append {w : World} {vs vs' : List Value} {cs cs' : List Cmd} (h : CmdsV w vs cs) (h' : CmdsV w vs' cs') : CmdsV w (vs ++ vs') (cs ++ cs') := by
  refine ⟨by simp [h.1, h'.1]; omega, fun j c hj => ?_⟩
  by_cases hlt : j < cs.length
  · rw [List.getElem?_append_left hlt] at hj
    obtain ⟨h1, B, m, cp, h2, h3⟩ := h.2 j c hj
    have := h.1
    exact ⟨by rw [List.getElem?_append_left (by omega)]; exact h1, B, m, cp, by rw [List.getElem?_append_left (by omega)]; exact h2, h3⟩
  · rw [List.getElem?_append_right (by omega)] at hj
    obtain ⟨h1, B, m, cp, h2, h3⟩ := h'.2 _ c hj
    have := h.1
    refine ⟨?_, B, m, cp, ?_, h3⟩
    · rw [List.getElem?_append_right (by omega), show j * 2 - vs.length = (j - cs.length) * 2 by omega]; exact h1
    · rw [List.getElem?_append_right (by omega), show j * 2 + 1 - vs.length = (j - cs.length) * 2 + 1 by omega]; exact h2
theorem cmdsAt_cells {w : World} {A : Option Addr} {n : Nat} {cs : List Cmd} (h : CmdsAt w A n cs) (hn : 0 < n) : ∃ b o vs, A = some ⟨b, o, none⟩ ∧ (∀ (j : Nat) u, vs[j]? = some u → w.cell? ⟨b, o + j, none⟩ = some u) ∧ CmdsV w vs cs ∧ (∀ u ∈ vs, u.oneCell' = true) := by
  obtain ⟨b, o, e, hc⟩ := h.2 hn
  have key : ∀ (cs' : List Cmd) (k : Nat), (∀ (j : Nat) c, cs'[j]? = some c → w.cell? ⟨b, o + k + j * 2, none⟩ = some (.string c.word) ∧
      ∃ (B : Option Addr) (m cp : Nat), w.cell? ⟨b, o + k + j * 2 + 1, none⟩ = some (.slice B m cp) ∧ m ≤ maxLen ∧ StrsAt w B m c.args) →
      ∃ vs, (∀ (j : Nat) u, vs[j]? = some u → w.cell? ⟨b, o + k + j, none⟩ = some u) ∧ CmdsV w vs cs' ∧ (∀ u ∈ vs, u.oneCell' = true) := by
    intro cs'
    induction cs' with
    | nil => intro k _; exact ⟨[], fun j u h => by simp at h, CmdsV.nil w, fun u h => by cases h⟩
    | cons c cs' ih =>
      intro k hk
      obtain ⟨h1, B, m, cp, h2, h3, h4⟩ := hk 0 c rfl
      obtain ⟨vs, v1, v2, v3⟩ := ih (k + 2) (fun j c' hj => by
        have := hk (j + 1) c' (by simpa using hj)
        rw [show o + k + (j + 1) * 2 = o + (k + 2) + j * 2 by omega] at this
        exact this)
      refine ⟨.string c.word :: .slice B m cp :: vs, ?_, ?_, ?_⟩
      · intro j u hj
        match j, hj with
        | 0, hj => simp at hj; subst hj; simpa using h1
        | 1, hj => simp at hj; subst hj; simpa using h2
        | j + 2, hj =>
          have := v1 j u (by simpa using hj)
          rw [show o + (k + 2) + j = o + k + (j + 2) by omega] at this
          exact this
      · exact CmdsV.append (vs := [.string c.word, .slice B m cp]) (cs := [c]) ⟨rfl, fun j c' hj => by
          match j, hj with
          | 0, hj => simp at hj; subst hj; exact ⟨rfl, B, m, cp, rfl, h3, h4⟩⟩ v2
      · intro u hu
        rcases List.mem_cons.1 hu with rfl | hu
        · rfl
        · rcases List.mem_cons.1 hu with rfl | hu
          · rfl
          · exact v3 u hu
  obtain ⟨vs, v1, v2, v3⟩ := key cs 0 (by simpa using hc)
  exact ⟨b, o, vs, e, by simpa using v1, v2, v3⟩
theorem cmdsAt_of_own {w : World} {base N cp : Nat} {A : Option Addr} {vs : List Value} {cs : List Cmd} (h : w.ownsRow base 31 2 (.slice A N cp) N vs) (hv : CmdsV w vs cs) (hN : cs.length = N) : CmdsAt w A N cs := by
  refine ⟨hN, fun hn => ?_⟩
  obtain ⟨g, cap, e, _, hlt⟩ := World.ownsRow.form h hn
  injection e with e1 e2 e3
  subst e1
  refine ⟨g, 0, rfl, fun j c hj => ?_⟩
  obtain ⟨h1, B, m, cp', h2, h3⟩ := hv.2 j c hj
  have c1 := World.ownsRow.cells h (g := g) rfl _ _ h1
  have c2 := World.ownsRow.cells h (g := g) rfl _ _ h2
  rw [Addr.add_lit] at c1 c2
  exact ⟨c1, B, m, cp', by rw [show (0 + j * 2 + 1) = 0 + (j * 2 + 1) by omega]; exact c2, h3⟩

set_option maxRecDepth 100000 in
set_option maxHeartbeats 4000000 in
theorem scriptValid_walk (cs : List Cmd) (A : Option Addr) (n cp : Nat) (many : Bool) (m : Int) (w : World) (hf : CmdsFit cs) (hn : n ≤ maxLen) (hc : CmdsAt w A n cs) (hm : w.cell? ⟨0, 0, none⟩ = some (.int .i64 m)) :
    Calls Tryd.prog 3 #[.slice A n cp, .bool many] w fun e w' => e = .returned (.bool true) ∧ Below w.heap.size w w' := by
  go_enter Tryd.func3, Tryd.ntmps3
  go_wp2_with fail
  refine (awake_any m _ hm).mono ?_
  rintro e w1 ⟨rfl, hb1⟩
  go_wp2_with fail
  refine (great_any cs A n cp _ hf hn (hc.keep hb1)).mono ?_
  rintro e w2 ⟨rfl, hb2⟩
  have hbw : Below w.heap.size w w2 := hb1.trans (hb2.mono hb1.size)
  cases hg : great cs with
  | true =>
    clear hb1 hb2
    go_wp2
    go_ret
    exact ⟨rfl, hbw⟩
  | false =>
    clear hb1 hb2
    by_cases hgo : many = true ∧ 0 < n
    · obtain ⟨rfl, h0⟩ := hgo
      have hcw := hc.keep hbw
      go_wp2
      go_loopg [0] 1001 (fun g x wx => ∃ (A' : Option Addr) (N cp' : Nat) (cs' : List Cmd), x = .slice A' N cp' ∧ 0 < N ∧ N ≤ maxLen ∧ 1001 ≤ N + g ∧ CmdsFit cs' ∧ CmdsAt wx A' N cs' ∧ Below w.heap.size w wx)
      case atStart => exact ⟨A, n, cp, cs, rfl, h0, hn, by omega, hf, hcw, hbw⟩
      case round =>
        obtain ⟨A', N, cp', cs', rfl, hN0, hN, hNg, hf', hc', hb⟩ := hrel
        have hNm : N ≤ 9223372036854775807 := hN
        by_cases hle : N ≤ 1000
        · obtain ⟨sb, so, vs, rfl, hcell, hvs, hone⟩ := cmdsAt_cells hc' hN0
          have HC := hide hcell
          have HV := hide hvs
          have H1 := hide hone
          have HL := hide hc'.len
          have HN := hide hNg
          have hlt : sb < wr.heap.size := by
            obtain ⟨u, hu⟩ : ∃ u, vs[0]? = some u := ⟨_, List.getElem?_eq_getElem (by have := hvs.1; have := hc'.len; omega)⟩
            exact lt_of_cell (hcell 0 u hu)
          clear hcell hvs hone hc' hNg
          obtain ⟨i0, hi, hz0, hz1, hz2⟩ := info_parts cmdInfo
          have hk1 : Below wr.heap.size wr (wr.alloc (.cells #[] 31)) := (Below.refl _ _).alloc (Nat.le_refl _) _
          have HO0 := hide (show (wr.alloc (.cells #[] 31)).ownsRow wr.heap.size 31 2 (.slice (some ⟨wr.heap.size, 0, none⟩) 0 0) 0 [] from ⟨rfl, .inr ⟨wr.heap.size, 0, #[], rfl, Nat.le_refl _, heap_alloc_new wr _, Nat.le_refl _, by unfold maxLen; omega, rfl, rfl⟩⟩)
          have Hle := hide hle
          clear hle
          have hle' : decide ((N : Int) ≤ 1000) = true := by simp; have := Hle.out; omega
          go_wp2_with (at_builtin; refine wpList_append_own _ rfl (.tmp 18) (.tmp 19) 22 rfl wr.heap.size 31 i0 (.agg #[.string ⟨#[]⟩, .slice none 0 0]) 2 40 Tryd.underlying22 hi hz0 hz1 hz2 rfl (by decide) _ _ _ rfl HO0.out ⟨sb, so, none⟩ N cp' vs rfl ?c0 ?c1 ?c2 ?c3 ?c4 ?c5 ?_)
          case c0 => have := HV.out.1; have := HL.out; omega
          case c1 => intro j u hu; rw [Addr.add_lit]; exact cell_below (HC.out j u hu) hk1
          case c2 => exact H1.out
          case c3 => have := Hle.out; unfold maxLen; omega
          case c4 => have := Hle.out; omega
          case c5 => simp
          intro v1 w5 hown5 hgrow5 _
          have hown5 : w5.ownsRow wr.heap.size 31 2 v1 N vs := by simpa using hown5
          have hkb5 : Below wr.heap.size wr w5 := hk1.grown hgrow5 (by simp) (fun k hk => by simp [Value.ownBlock] at hk; omega)
          have hb5 : Below w.heap.size w w5 := hb.trans (hkb5.mono hb.size)
          have HO5 := hide hown5
          clear hown5 hgrow5
          go_wp2_with (at_builtin; refine wpList_append_own _ rfl (.tmp 20) (.tmp 21) 22 rfl wr.heap.size 31 i0 (.agg #[.string ⟨#[]⟩, .slice none 0 0]) 2 40 Tryd.underlying22 hi hz0 hz1 hz2 rfl (by decide) _ _ _ rfl HO5.out ⟨sb, so, none⟩ N cp' vs rfl ?d0 ?d1 ?d2 ?d3 ?d4 ?d5 ?_)
          case d0 => have := HV.out.1; have := HL.out; omega
          case d1 => intro j u hu; rw [Addr.add_lit]; exact cell_below (HC.out j u hu) hkb5
          case d2 => exact H1.out
          case d3 => have := Hle.out; unfold maxLen; omega
          case d4 => have := Hle.out; omega
          case d5 => exact hkb5.size
          intro v2 w6 hown6 hgrow6 _
          have hkb6 : Below wr.heap.size wr w6 := hkb5.grown hgrow6 hkb5.size (fun k hk => (HO5.out.lt k hk).1)
          have hb6 : Below w.heap.size w w6 := hb.trans (hkb6.mono hb.size)
          have hv6 : CmdsV w6 (vs ++ vs) (cs' ++ cs') := (HV.out.keep hkb6).append (HV.out.keep hkb6)
          obtain ⟨A2, cp2, rfl⟩ : ∃ A2 cp2, v2 = .slice A2 (N + N) cp2 := by
            obtain ⟨g, cap, e, _⟩ := World.ownsRow.form hown6 (by omega)
            exact ⟨_, _, e⟩
          have HF := hide (cmdsAt_of_own hown6 hv6 (by simp [HL.out]))
          clear hown6 hgrow6 hv6
          go_wp2
          go_roundg (1001 - (N + N))
          case measure => have := HN.out; have := Hle.out; omega
          case rel => exact ⟨A2, N + N, cp2, cs' ++ cs', rfl, by omega, by have := Hle.out; unfold maxLen; omega, by omega, fun c hc => hf' c (by simpa using hc), HF.out, hb6⟩
        · have hle' : decide ((N : Int) ≤ 1000) = false := by simp; omega
          clear hle
          go_wp2_with fail
          refine (Valid_any cs' A' N cp' _ hf' hN hc').mono ?_
          rintro e w3 ⟨rfl, hb3⟩
          go_wp2_with fail
          refine (lawValid_any cs' A' N cp' _ hf' hN (hc'.keep hb3)).mono ?_
          rintro e w4 ⟨rfl, hb4⟩
          have hbe : Below w.heap.size w w4 := (hb.trans (hb3.mono hb.size)).trans (hb4.mono (by have := hb.size; have := hb3.size; omega))
          clear hb3 hb4
          go_wp2
          go_ret
          exact ⟨ret_bool (by simp), hbe⟩
    · cases many with
      | false =>
        go_wp2_with fail
        refine (Valid_any cs A n cp _ hf hn (hc.keep hbw)).mono ?_
        rintro e w3 ⟨rfl, hb3⟩
        go_wp2_with fail
        refine (lawValid_any cs A n cp _ hf hn ((hc.keep hbw).keep hb3)).mono ?_
        rintro e w4 ⟨rfl, hb4⟩
        have hbe : Below w.heap.size w w4 := (hbw.trans (hb3.mono hbw.size)).trans (hb4.mono (by have := hbw.size; have := hb3.size; omega))
        clear hb3 hb4
        go_wp2
        go_ret
        exact ⟨ret_bool (by simp), hbe⟩
      | true =>
        have hn0 : n = 0 := by
          rcases Nat.eq_zero_or_pos n with h | h
          · exact h
          · exact absurd ⟨rfl, h⟩ hgo
        subst hn0
        go_wp2_with fail
        refine (Valid_any cs A 0 cp _ hf hn (hc.keep hbw)).mono ?_
        rintro e w3 ⟨rfl, hb3⟩
        go_wp2_with fail
        refine (lawValid_any cs A 0 cp _ hf hn ((hc.keep hbw).keep hb3)).mono ?_
        rintro e w4 ⟨rfl, hb4⟩
        have hbe : Below w.heap.size w w4 := (hbw.trans (hb3.mono hbw.size)).trans (hb4.mono (by have := hbw.size; have := hb3.size; omega))
        clear hb3 hb4
        go_wp2
        go_ret
        exact ⟨ret_bool (by simp), hbe⟩
end Go.Proofs.YtpmegcgmbhhfaaaDoor
