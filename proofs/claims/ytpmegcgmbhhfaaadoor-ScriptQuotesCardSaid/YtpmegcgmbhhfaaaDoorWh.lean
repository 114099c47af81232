/-
  Walks: the command of a line.
-/
import Derived.Test.YtpmegcgmbhhfaaaDoorWg
import Derived.Test.YtpmegcgmbhhfaaaDoorSpecB
namespace Go.Proofs.YtpmegcgmbhhfaaaDoor
open Go.RowKit

def strV (l : List UInt8) : Value := .string ⟨l.toArray⟩

/-- What 'command' hands back. -/
def CmdRes (r : Option (Option Sp.C)) (e : Ending) (w : World) : Prop :=
  match r with
  | none => ∃ (x : ByteArray) (A : Option Addr) (n cp : Nat) (b : Bool), e = .returned (.tuple #[.agg #[.string x, .slice A n cp], .bool b, .bool false])
  | some none => ∃ (x : ByteArray) (A : Option Addr) (n cp : Nat), e = .returned (.tuple #[.agg #[.string x, .slice A n cp], .bool false, .bool true])
  | some (some c) => ∃ (A : Option Addr) (n cp : Nat), e = .returned (.tuple #[.agg #[strV c.word, .slice A n cp], .bool true, .bool true]) ∧ n ≤ maxLen ∧ RowT w 9 A n (c.args.map strV)

/-- The result's block: the command so far. -/
def CmdBlk (g : Nat) (toks : List (List UInt8)) (w : World) : Prop :=
  ∃ wd v, w.heap[g]? = some (.cells #[wd, v] 31 (0, 0)) ∧ wd = strV (toks.head?.getD []) ∧ w.ownsRow (g + 1) 9 1 v (toks.tail).length (toks.tail.map strV)

theorem ownsRow_keep {w w' : World} {base : Nat} {e : TypeId} {size : Nat} {v : Value} {n : Nat} {xs : List Value} (h : w.ownsRow base e size v n xs) (hb : Below w.heap.size w w') : w'.ownsRow base e size v n xs := by
  refine ⟨h.1, ?_⟩
  rcases h.2 with hz | ⟨g, cap, cur, r1, r2, r3, r4⟩
  · exact .inl hz
  · have hlt2 : g < w.heap.size := by
      rcases Nat.lt_or_ge g w.heap.size with h | h
      · exact h
      · rw [Array.getElem?_eq_none h] at r3; cases r3
    exact .inr ⟨g, cap, cur, r1, r2, (hb.block g hlt2).trans r3, r4⟩
theorem ownsRow_slice {w : World} {base : Nat} {e : TypeId} {size : Nat} {v : Value} {n : Nat} {xs : List Value} (h : w.ownsRow base e size v n xs) : ∃ A m c, v = .slice A m c := by
  rcases h.2 with ⟨rfl, _⟩ | ⟨g, cap, cur, rfl, _⟩
  · exact ⟨_, _, _, rfl⟩
  · exact ⟨_, _, _, rfl⟩
theorem rowT_own {w : World} {base : Nat} {e : TypeId} {A : Option Addr} {n cp m : Nat} {xs : List Value} (h : w.ownsRow base e 1 (.slice A n cp) m xs) : RowT w e A n xs ∧ n ≤ maxLen := by
  have hx := h.1
  rcases h.2 with ⟨h1, h2⟩ | ⟨g, cap, cur, h1, h2, h3, h4, h5, h6, h7⟩
  · injection h1 with e1 e2 e3
    subst e1 e2 h2
    exact ⟨⟨by simpa using hx, fun h => absurd h (by omega)⟩, by simp⟩
  · injection h1 with e1 e2 e3
    subst e1 e2
    exact ⟨⟨by simpa using hx, fun _ => ⟨g, 0, cur, (0, 0), rfl, h3, fun j u hu => by
      have h8 := h.cells (g := g) rfl j u hu
      rw [Addr.add_lit, cell_of_row _ _ _ _ _ _ h3] at h8
      exact h8⟩⟩, by omega⟩
theorem setCell_same {w : World} {p : Addr} {v : Value} (h : w.cell? p = some v) : w.setCell p v = w := by
  have hp : (w.setCell p v).heap = w.heap := by
    simp only [World.setCell]
    apply Array.ext_getElem?
    intro i
    rw [Array.getElem?_modify]
    by_cases hi : p.block = i
    · subst hi
      rw [if_pos rfl]
      unfold World.cell? at h
      cases ho : w.heap[p.block]? with
      | none => rfl
      | some o =>
        rw [ho] at h
        cases o with
        | cells c t fr =>
          simp only at h
          by_cases hs : p.spot.isSome = true
          · rw [if_pos hs] at h; cases h
          · rw [if_neg hs] at h
            simp only [Option.map_some, hs]
            congr 2
            apply Array.ext_getElem?
            intro j
            simp only [Bool.false_eq_true, if_false]
            rw [Array.getElem?_setIfInBounds]
            split
            · rename_i hj; subst hj
              split
              · exact h.symm
              · rename_i hh; exact (Array.getElem?_eq_none (by omega)).symm
            · rfl
        | _ => simp at h
    · rw [if_neg hi]
  have h2 : w.setCell p v = { w with heap := (w.setCell p v).heap } := rfl
  rw [h2, hp]
theorem heap_setCell_at {w : World} {g : Nat} {cs : Array Value} {T : TypeId} {fr : Nat × Nat} (h : w.heap[g]? = some (.cells cs T fr)) (i : Nat) (v : Value) : (w.setCell ⟨g, i, none⟩ v).heap[g]? = some (.cells (cs.setIfInBounds i v) T fr) := by
  simp [World.setCell, Array.getElem?_modify, h]
theorem strInfo : (Tryd.prog.info? 9).map (fun i => (i.zero, i.size, i.bytes)) = some (some (.string ⟨#[]⟩), 1, 16) := by kernel_rfl
theorem cmd_close {l : List UInt8} {toks : List (List UInt8)} {A : Option Addr} {n cp base : Nat} {w : World} (h : Sp.tokens l = some toks) (hown : w.ownsRow base 9 1 (.slice A n cp) toks.tail.length (toks.tail.map strV)) :
    CmdRes (Sp.command l) (.returned (.tuple #[.agg #[.string ⟨(toks.head?.getD []).toArray⟩, .slice A n cp], .bool (!toks.isEmpty), .bool true])) w := by
  unfold Sp.command
  rw [h]
  cases toks with
  | nil => exact ⟨_, _, _, _, rfl⟩
  | cons t ts =>
    obtain ⟨h1, h2⟩ := rowT_own hown
    exact ⟨A, n, cp, rfl, h2, h1⟩
theorem lt_of_heap {w : World} {g : Nat} {o : Obj} (h : w.heap[g]? = some o) : g < w.heap.size := by
  rcases Nat.lt_or_ge g w.heap.size with h1 | h1
  · exact h1
  · rw [Array.getElem?_eq_none h1] at h; cases h
theorem cmdBlk_keep {g : Nat} {toks : List (List UInt8)} {w w' : World} (h : CmdBlk g toks w) (hb : Below w.heap.size w w') : CmdBlk g toks w' := by
  obtain ⟨wd, v, h1, h2, h3⟩ := h
  exact ⟨wd, v, (hb.block g (lt_of_heap h1)).trans h1, h2, ownsRow_keep h3 hb⟩
theorem trimLeft_eq (l : List UInt8) : Lib.trimLeftS l bt.data.toList = l.dropWhile Sp.blank := by
  unfold Lib.trimLeftS
  congr 1
  funext b
  show [32, 9].contains b = Sp.blank b
  simp only [List.contains_cons, List.contains_nil, Bool.or_false]; rfl

set_option maxRecDepth 100000 in
set_option maxHeartbeats 2000000 in
theorem command_any (s : ByteArray) (w : World) (hs : s.size ≤ 1000000) :
    Calls Tryd.prog 34 #[.string s] w fun e w' => CmdRes (Sp.command s.data.toList) e w' ∧ Below w.heap.size w w' := by
  go_enter Tryd.func34, Tryd.ntmps34
  go_wp2
  go_loopg [0, 3] s.size (fun k x y wx => ∃ (r : ByteArray) (toks : List (List UInt8)), x = .string r ∧ y = .bool (!toks.isEmpty) ∧ r.size ≤ k ∧ toks.length + r.size ≤ s.size ∧ Sp.tokens s.data.toList = (Sp.tokens r.data.toList).map (toks ++ ·) ∧ CmdBlk w.heap.size toks wx ∧ Below w.heap.size w wx)
  case atStart => exact ⟨s, [], rfl, rfl, Nat.le_refl _, by simp, by simp, ⟨_, _, heap_alloc_new w _, rfl, ⟨by simp, .inl ⟨rfl, rfl⟩⟩⟩, (Below.refl _ _).alloc (Nat.le_refl _) _⟩
  case round =>
    obtain ⟨r, toks, rfl, rfl, hrk, hsz, htk, hblk, hb⟩ := hrel
    have HT := hide htk
    have HB := hide hblk
    clear htk hblk
    go_wp2_with fail
    refine (trimLeft_any r _).mono ?_
    rintro e w1 ⟨rfl, hb1⟩
    have hr1 : (⟨(Lib.trimLeftS r.data.toList bt.data.toList).toArray⟩ : ByteArray).data.toList = r.data.toList.dropWhile Sp.blank := by rw [trimLeft_eq]
    have hbw1 : Below w.heap.size w w1 := hb.trans (hb1.mono hb.size)
    obtain ⟨wd, v, hg, rfl, hown⟩ := cmdBlk_keep HB.out hb1
    obtain ⟨A, n, cp, rfl⟩ := ownsRow_slice hown
    unfold strV at hg
    have c0 : w1.cell? ⟨w.heap.size, 0, none⟩ = some (.string ⟨(toks.head?.getD []).toArray⟩) := by rw [Lib.cell_of_heap hg]; rfl
    have c1 : w1.cell? ⟨w.heap.size, 1, none⟩ = some (.slice A n cp) := by rw [Lib.cell_of_heap hg]; rfl
    have f0 : w1.frozen? ⟨w.heap.size, 0, none⟩ = false := Lib.frozen_of_heap hg 0
    have f1 : w1.frozen? ⟨w.heap.size, 1, none⟩ = false := Lib.frozen_of_heap hg 1
    have Hg := hide hg
    have Hown := hide hown
    have Hb1 := hide hb1
    clear hg hown hb1
    generalize (⟨(Lib.trimLeftS r.data.toList bt.data.toList).toArray⟩ : ByteArray) = r1 at hr1 ⊢
    have Hr1 := hide hr1
    clear hr1
    by_cases he : r1.size = 0
    · have HE := hide (show Sp.tokens r.data.toList = some [] by
        refine Sp.tokens_end _ ?_
        rw [← Hr1.out]
        have : r1.data.toList = [] := List.eq_nil_of_length_eq_zero (by rw [← Lib.size_eq]; exact he)
        rw [this]; rfl)
      have hx : r1.toList.isEmpty = true := by
        rw [toList_data, List.eq_nil_of_length_eq_zero (show r1.data.toList.length = 0 by rw [← Lib.size_eq]; exact he)]; rfl
      have HC := hide (cmd_close (show Sp.tokens s.data.toList = some toks by rw [HT.out, HE.out]; simp) Hown.out)
      have s0 := setCell_same c0
      have s1 := setCell_same c1
      clear he
      go_wp2
      refine bodyPost_ret (v := .tuple #[.agg #[.string ⟨(toks.head?.getD []).toArray⟩, .slice A n cp], .bool (!toks.isEmpty), .bool true]) (by simp [results, Tryd.results34, go_sem, c0, c1]) rfl ⟨HC.out, hbw1⟩
    · have hr0 : 0 < r1.size := by omega
      have hx := notEmpty hr0
      have hi0 : (0 : Int) < (r1.size : Int) := by omega
      have hle : r1.size ≤ r.size := by rw [Lib.size_eq, Hr1.out, Lib.size_eq]; exact Sp.drop_le _ _
      have hhd : r1.data.toList.head? = some (r1[0]'hr0) := by rw [List.head?_eq_getElem?]; exact Lib.data_getElem? r1 0 hr0
      by_cases h35 : ((r1[0]'hr0).toNat : Int) = 35
      · have HE := hide (show Sp.tokens r.data.toList = some [] by
          refine Sp.tokens_end _ ?_
          rw [← Hr1.out, hhd, show r1[0]'hr0 = 35 from byte_of (by decide) h35]; simp)
        have HC := hide (cmd_close (show Sp.tokens s.data.toList = some toks by rw [HT.out, HE.out]; simp) Hown.out)
        have s0 := setCell_same c0
        have s1 := setCell_same c1
        clear he hhd
        go_wp2
        refine bodyPost_ret (v := .tuple #[.agg #[.string ⟨(toks.head?.getD []).toArray⟩, .slice A n cp], .bool (!toks.isEmpty), .bool true]) (by simp [results, Tryd.results34, go_sem, c0, c1]) rfl ⟨HC.out, hbw1⟩
      · have h35' : (((r1[0]'hr0).toNat : Int) == 35) = false := by simpa using h35
        have HN := hide (show ((r.data.toList.dropWhile Sp.blank).isEmpty || (r.data.toList.dropWhile Sp.blank).head? == some 35) = false by
          rw [← Hr1.out, hhd]
          have e1 : r1.data.toList.isEmpty = false := by rw [← isEmpty_data]; exact hx
          rw [e1, show (some (r1[0]'hr0) == some (35 : UInt8)) = (r1[0]'hr0 == UInt8.ofNat 35) from rfl, byte_ne (by decide) h35]; rfl)
        clear he hhd h35
        go_wp2_with fail
        refine (token_any r1 _ (by omega) hr0).mono ?_
        rintro e w2 ⟨hres, hb2⟩
        have hbw2 : Below w.heap.size w w2 := hbw1.trans (hb2.mono hbw1.size)
        have hg2 := (hb2.block _ (lt_of_heap Hg.out)).trans Hg.out
        have hown2 := ownsRow_keep Hown.out hb2
        have d0 : w2.cell? ⟨w.heap.size, 0, none⟩ = some (.string ⟨(toks.head?.getD []).toArray⟩) := by rw [Lib.cell_of_heap hg2]; rfl
        have d1 : w2.cell? ⟨w.heap.size, 1, none⟩ = some (.slice A n cp) := by rw [Lib.cell_of_heap hg2]; rfl
        have e0 : w2.frozen? ⟨w.heap.size, 0, none⟩ = false := Lib.frozen_of_heap hg2 0
        have e1 : w2.frozen? ⟨w.heap.size, 1, none⟩ = false := Lib.frozen_of_heap hg2 1
        have Hg2 := hide hg2
        have Hown2 := hide hown2
        clear hg2 hown2 c0 c1 f0 f1
        cases ht : Sp.token r1.data.toList with
        | none =>
          have HE := hide (show Sp.tokens r.data.toList = none by rw [Sp.tokens_bad _ HN.out (by rw [← Hr1.out]; exact ht)])
          have HC := hide (show Sp.command s.data.toList = none by unfold Sp.command; rw [HT.out, HE.out]; rfl)
          rw [ht] at hres
          obtain ⟨t1, t2, rfl⟩ := hres
          clear ht
          go_wp2
          refine bodyPost_ret (v := .tuple #[.agg #[.string ⟨#[]⟩, .slice none 0 0], .bool false, .bool false]) (by simp [results, Tryd.results34, go_sem, d0, d1]) rfl ⟨?_, (hbw2.setCell (Nat.le_refl _) _).setCell (Nat.le_refl _) _⟩
          rw [HC.out]
          exact ⟨_, _, _, _, _, rfl⟩
        | some p =>
          obtain ⟨t, r2⟩ := p
          rw [ht] at hres
          obtain rfl : e = _ := hres
          have HM := hide (Sp.tokens_more r.data.toList t r2 HN.out (by rw [← Hr1.out]; exact ht))
          have hlt := Sp.token_rest ht
          have Hlt := hide hlt
          clear ht hlt
          cases toks with
          | nil =>
            have Hn : Aside (CmdBlk w.heap.size [t] (w2.setCell ⟨w.heap.size, 0, none⟩ (.string ⟨t.toArray⟩))) := by
              refine ⟨.string ⟨t.toArray⟩, .slice A n cp, ?_, rfl, ownsRow_setCell_below (by simpa using Hown2.out) (Nat.lt_succ_self _) _⟩
              rw [heap_setCell_at Hg2.out 0]; rfl
            have Hb3 : Below w.heap.size w (w2.setCell ⟨w.heap.size, 0, none⟩ (.string ⟨t.toArray⟩)) := hbw2.setCell (Nat.le_refl _) _
            go_wp2
            go_roundg (r2.length)
            case measure => have := Hlt.out; have := Lib.size_eq r1; omega
            case rel => exact ⟨⟨r2.toArray⟩, [t], rfl, rfl, by show r2.length ≤ _; omega, by show 1 + r2.length ≤ _; have := Hlt.out; have := Lib.size_eq r1; simp at hsz; omega, by rw [HT.out, HM.out, Option.map_map]; rfl, Hn.out, Hb3⟩
          | cons t0 ts =>
            obtain ⟨i0, hi, hz0, hz1, hz2⟩ := info_parts strInfo
            go_wp2_with (at_builtin; refine wpList_append_own _ rfl _ _ 29 rfl (w.heap.size + 1) 9 i0 (.string ⟨#[]⟩) 1 16 Tryd.underlying29 hi hz0 hz1 hz2 rfl (by decide) _ _ _ rfl (ownsRow_keep Hown2.out ((Below.refl _ _).alloc (Nat.le_refl _) _)) ⟨w2.heap.size, 0, none⟩ 1 1 [.string ⟨t.toArray⟩] rfl rfl ?c1 ?c2 ?c3 ?c4 ?c5 ?_)
            case c1 => exact cell_one_new _ _ _
            case c2 => intro u hu; simp at hu; subst hu; rfl
            case c3 => simp at hsz; unfold maxLen; simp; omega
            case c4 => simp at hsz; simp; omega
            case c5 => have := lt_of_heap Hg2.out; simp; omega
            intro v' w3 hown3 hgrow _
            have hne : (Value.slice A n cp).ownBlock ≠ some w.heap.size := by
              intro he
              have := ((Hown2.out).lt _ he).1
              omega
            have hg3 : w3.heap[w.heap.size]? = some (.cells #[.string ⟨t0.toArray⟩, .slice A n cp] 31 (0, 0)) := by
              rw [hgrow.block _ (by have := lt_of_heap Hg2.out; simp; omega) (fun e => hne e.symm), Below.heap_alloc _ _ _ (lt_of_heap Hg2.out)]
              exact Hg2.out
            have d1 : w3.cell? ⟨w.heap.size, 1, none⟩ = some (.slice A n cp) := by rw [Lib.cell_of_heap hg3]; rfl
            have e1 : w3.frozen? ⟨w.heap.size, 1, none⟩ = false := Lib.frozen_of_heap hg3 1
            have hb3 : Below w.heap.size w w3 := (hbw2.alloc hbw2.size _).grown hgrow (by have := hbw2.size; simp; omega) (fun k hk => by have := (Hown2.out.lt _ hk).1; omega)
            obtain ⟨A', n', cp', rfl⟩ := ownsRow_slice hown3
            have Hn : Aside (CmdBlk w.heap.size (t0 :: (ts ++ [t])) (w3.setCell ⟨w.heap.size, 1, none⟩ (.slice A' n' cp'))) := by
              refine ⟨.string ⟨t0.toArray⟩, .slice A' n' cp', ?_, rfl, ownsRow_setCell_below (by simpa [strV] using hown3) (Nat.lt_succ_self _) _⟩
              rw [heap_setCell_at hg3 1]; rfl
            have Hb4 : Below w.heap.size w (w3.setCell ⟨w.heap.size, 1, none⟩ (.slice A' n' cp')) := hb3.setCell (Nat.le_refl _) _
            clear hown3 hgrow hg3 hne
            go_wp2
            go_roundg (r2.length)
            case measure => have := Hlt.out; have := Lib.size_eq r1; omega
            case rel => exact ⟨⟨r2.toArray⟩, t0 :: (ts ++ [t]), rfl, rfl, by show r2.length ≤ _; omega, by show (t0 :: (ts ++ [t])).length + r2.length ≤ _; have := Hlt.out; have := Lib.size_eq r1; simp at hsz ⊢; omega, by rw [HT.out, HM.out, Option.map_map]; congr 1; funext x; simp, Hn.out, Hb4⟩
end Go.Proofs.YtpmegcgmbhhfaaaDoor
