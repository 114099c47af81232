/-
  A slice of commands that came in, opened; and the last step of a row whose call leaves what was there.
-/
import Derived.Test.YtpmegcgmbhhfaaaDoorMem
import Derived.Test.YtpmegcgmbhhfaaaDoorRows
import Derived.ProofKit
import Derived.OpenShut
import Derived.Deep.Slices
import Derived.Deep.Fields
import Derived.ChangeSame
namespace Go.Proofs.YtpmegcgmbhhfaaaDoor
open Go.ChangeShapes Go.WideShapes Go.ChangeAt Go.RowKit Go.Deep

section
variable {H : Type} {enc : TypeId × Value → H} {P : Program} {w : World} {base : Nat} {spare : Nat → Bool} {held : Bool}
theorem open_slice_fields {t e : TypeId} {fs : Array Field} {fuel : Nat} {cs : List Value} {x : DataW H × List MemPlace} (ht : P.underlying t = some (.slice e)) (he : P.underlying e = some (.struct fs))
    (hone : oneCellFields P fs = true) (hC : P.cellsOf e = fs.size) (h : DataW.trod enc P w base spare held fuel t cs = some x) :
    (cs = [.slice none 0 0] ∧ x = (.nil, [])) ∨
    ∃ (a : Addr) (len cap m : Nat) (D : Nat → DataW H) (Pl : Nat → List MemPlace), cs = [.slice (some a) len cap] ∧ base ≤ a.block ∧ len ≤ cap ∧ cap ≤ maxLen ∧ m = (if spare a.block then cap else len) ∧
      x = (.slice ((List.range len).map D) ((List.range (m - len)).map fun j => D (len + j)), MemPlace.row a (m * fs.size) ++ (List.range m).flatMap Pl) ∧
      ∀ i, i < m → ∃ (ys : List (DataW H × List MemPlace)) (n : Nat), D i = .agg (ys.map (·.1)) ∧ Pl i = ys.flatMap (·.2) ∧ ys.length = fs.size ∧
        ∀ (j : Nat) (f : Field), fs[j]? = some f → ∃ (v : Value) (y : DataW H × List MemPlace), w.cell? (a.add (i * fs.size + j)) = some v ∧ ys[j]? = some y ∧ DataW.trod enc P w base spare held n f.type [v] = some y := by
  rcases open_slice ht h with h0 | ⟨a, len, cap, m, n, D, Pl, hcs, hb, hl, hm, hmm, hx, hi⟩
  · exact .inl h0
  · refine .inr ⟨a, len, cap, m, D, Pl, hcs, hb, hl, hm, hmm, by rw [hC] at hx; exact hx, fun i him => ?_⟩
    obtain ⟨cs', hc, ht'⟩ := hi i him
    rw [hC] at hc
    obtain ⟨ys, n', hn', hy, hlen, hyl, hf⟩ := DataW.trod_struct he ht'
    obtain ⟨_, hcl, hat⟩ := World.cells?_some hc
    simp only [Prod.mk.injEq] at hy
    refine ⟨ys, n', hy.1, hy.2, hyl, fun j f hj => ?_⟩
    obtain ⟨ho, hk⟩ := hone_of hone j f hj
    have hjl : j < fs.size := (Array.getElem?_eq_some_iff.1 hj).1
    have hcell := hat j hjl
    have hv : cs'[j]? = some (cs'[j]'(by omega)) := List.getElem?_eq_getElem (by omega)
    have h1 := hf j f hj
    rw [ho, hk] at h1
    have hone' : (cs'.drop j).take 1 = [cs'[j]'(by omega)] := by
      rw [List.drop_eq_getElem_cons (by omega)]
      rfl
    rw [hone'] at h1
    have hys : ys[j]? = some (ys[j]'(by omega)) := List.getElem?_eq_getElem (by omega)
    refine ⟨_, _, ?_, hys, h1.trans hys⟩
    rw [← Go.Deep.add_add, hcell, hv]

theorem post_of_below {f : Func} {s : ChangeSpec} {apart fresh handsOn again : Bool} {W W' : World} {args : Array Value} {v : Value} {ds gs : List (DataW H)} {before pa pv : List MemPlace}
    (hW : DataW.Whole enc P f.params.toList s.vars apart W args.toList ds gs before)
    (hres : ∀ (b : Nat) (sp : Nat → Bool) (hd : Bool), DataW.TrodAll enc P W' b sp hd f.resultTypes.toList (v.resultList f.resultTypes.size) (s.fn H (ds ++ gs)).results [])
    (hargs : ∀ sp : Nat → Bool, (∀ p ∈ before, sp p.block = true) → DataW.TrodAll enc P W' 0 sp true f.params.toList args.toList (s.fn H (ds ++ gs)).args pa)
    (hvars : ∀ sp : Nat → Bool, (∀ p ∈ before, sp p.block = true) → DataW.TrodVars enc P W' sp s.vars (s.fn H (ds ++ gs)).vars pv)
    (hps : before = pa ++ pv) (hb : Below W.heap.size W W')
    (hok : ∀ (j : Nat) (t : TypeId) (r : Value), f.resultTypes[j]? = some t → (v.resultList f.resultTypes.size)[j]? = some r → Value.okWide P W' .any 0 t r) :
    s.post enc P f apart fresh handsOn again W args v W' := by
  have hlt : ∀ p ∈ before, p.block < W.heap.size := fun p hp => hW.lt p hp
  have hold : ∀ p ∈ before, (fun b => decide (b < W.heap.size)) p.block = true := fun p hp => by simpa using hlt p hp
  refine ⟨ds, gs, before, [], pa, pv, hW, hres _ _ _, hargs _ hold, hvars _ hold, World.keptBut_mono (fun p hp => ⟨hp, ?_⟩) (hb.frame (· ∈ before)), fun _ => ?_⟩
  · rw [hps, List.mem_append] at hp
    exact Or.inr hp
  · obtain ⟨_, _, _, _, _, hz, hn⟩ := hW
    refine ⟨hok, _, _, ([] ++ pa) ++ pv, ⟨[] ++ pa, pv, trodAll_append (hargs _ (fun _ _ => rfl)) (hres _ _ _), hvars _ (fun _ _ => rfl), rfl, ?_, ?_⟩, ?_⟩
    · intro b off hp
      have hin : MemPlace.cell b off ∈ before := by rw [hps]; simpa using hp
      rw [hb.frozen (hlt _ hin)]
      exact hz b off hin
    · intro ha
      have := hn ha
      rw [hps] at this
      simpa using this
    · intro p hp _
      rw [hps]
      simpa using hp
end

theorem spot_none {w : World} {a : Addr} {v : Value} (h : w.cell? a = some v) : a = ⟨a.block, a.off, none⟩ := by
  obtain ⟨b, o, sp⟩ := a
  cases sp with
  | none => rfl
  | some s =>
    unfold World.cell? at h
    simp only at h
    split at h
    · simp at h
    · cases h
theorem addr_form {w : World} {a : Addr} {v : Value} (h : w.cell? (a.add 0) = some v) : ∃ b o, a = ⟨b, o, none⟩ := ⟨_, _, spot_none h⟩

instance : Inhabited Cmd := ⟨⟨ByteArray.empty, []⟩⟩

theorem strs_of_trod {H : Type} {enc : TypeId × Value → H} {w : World} {base : Nat} {spare : Nat → Bool} {held : Bool} {fuel : Nat} {v : Value} {y : DataW H × List MemPlace}
    (h : DataW.trod enc Tryd.prog w base spare held fuel 29 [v] = some y) : ∃ (B : Option Addr) (m cp : Nat) (ss : List ByteArray), v = .slice B m cp ∧ m ≤ maxLen ∧ StrsAt w B m ss ∧ ∀ s ∈ ss, s.size ≤ maxLen := by
  rcases open_strings Tryd.underlying29 Tryd.underlying9 (by kernel_rfl) h with ⟨h1, _⟩ | ⟨a, len, cap, ss, h1, _, hl, hm, hsl, _, hc, hz⟩
  · obtain rfl : v = .slice none 0 0 := by simpa using h1
    exact ⟨none, 0, 0, [], rfl, by unfold maxLen; omega, RowAt.nil w, fun s hs => by cases hs⟩
  · obtain rfl : v = .slice (some a) len cap := by simpa using h1
    have hle : len ≤ ss.length := by rw [hsl]; split <;> omega
    refine ⟨some a, len, cap, ss.take len, rfl, by omega, ⟨by simp; omega, fun hn => ?_⟩, fun s hs => hz s (List.mem_of_mem_take hs)⟩
    obtain ⟨b, o, rfl⟩ := addr_form (hc 0 (by omega))
    refine ⟨b, o, rfl, fun j u hu => ?_⟩
    rw [List.getElem?_map] at hu
    obtain ⟨s, hs, rfl⟩ := Option.map_eq_some_iff.1 hu
    have hj : j < len := by
      rcases Nat.lt_or_ge j len with h | h
      · exact h
      · rw [List.getElem?_eq_none (by simp; omega)] at hs; cases hs
    have := hc j (by omega)
    rw [Addr.add_lit] at this
    rw [this]
    rw [List.getElem?_take_of_lt hj] at hs
    rw [List.getD_eq_getElem?_getD, hs]
    rfl

theorem open_cmds {H : Type} {enc : TypeId × Value → H} {w : World} {base : Nat} {spare : Nat → Bool} {held : Bool} {fuel : Nat} {v : Value} {x : DataW H × List MemPlace}
    (h : DataW.trod enc Tryd.prog w base spare held fuel 22 [v] = some x) : ∃ (A : Option Addr) (n cp : Nat) (cs : List Cmd), v = .slice A n cp ∧ n ≤ maxLen ∧ CmdsAt w A n cs ∧ (∀ c ∈ cs, c.word.size ≤ maxLen ∧ (∀ a ∈ c.args, a.size ≤ maxLen)) := by
  rcases open_slice_fields Tryd.underlying22 Tryd.underlying31 (by kernel_rfl) (by kernel_rfl) h with ⟨h1, _⟩ | ⟨a, len, cap, m, D, Pl, h1, _, hl, hm, hmm, _, hi⟩
  · obtain rfl : v = .slice none 0 0 := by simpa using h1
    exact ⟨none, 0, 0, [], rfl, by unfold maxLen; omega, ⟨rfl, fun h => absurd h (by omega)⟩, fun c hc => by cases hc⟩
  · obtain rfl : v = .slice (some a) len cap := by simpa using h1
    have hle : len ≤ m := by rw [hmm]; split <;> omega
    obtain ⟨f, hf⟩ := choose_lt (n := len) (p := fun i (c : Cmd) => w.cell? (a.add (i * 2)) = some (.string c.word) ∧ (∃ (B : Option Addr) (m cp : Nat), w.cell? (a.add (i * 2 + 1)) = some (.slice B m cp) ∧ m ≤ maxLen ∧ StrsAt w B m c.args) ∧ c.word.size ≤ maxLen ∧ (∀ s ∈ c.args, s.size ≤ maxLen)) (fun i hlt => by
      obtain ⟨ys, n, _, _, _, hfld⟩ := hi i (by omega)
      obtain ⟨v0, y0, c0, _, t0⟩ := hfld 0 _ rfl
      obtain ⟨v1, y1, c1, _, t1⟩ := hfld 1 _ rfl
      obtain ⟨s, hs, _, hsz⟩ := DataW.trod_string Tryd.underlying9 t0
      obtain rfl : v0 = .string s := by simpa using hs
      obtain ⟨B, m', cp', ss, rfl, hm', hst, hall⟩ := strs_of_trod t1
      exact ⟨⟨s, ss⟩, c0, ⟨B, m', cp', c1, hm', hst⟩, hsz, hall⟩)
    refine ⟨some a, len, cap, (List.range len).map f, rfl, by omega, ⟨by simp, fun hn => ?_⟩, ?_⟩
    · obtain ⟨b, o, rfl⟩ := addr_form (show w.cell? (a.add 0) = _ from by simpa using (hf 0 hn).1)
      refine ⟨b, o, rfl, fun j c hj => ?_⟩
      have hjl : j < len := by
        rcases Nat.lt_or_ge j len with h | h
        · exact h
        · rw [List.getElem?_eq_none (by simp; omega)] at hj; cases hj
      rw [List.getElem?_map, List.getElem?_range hjl] at hj
      obtain rfl : f j = c := by simpa using hj
      obtain ⟨h2, ⟨B, m', cp', h3, h4⟩, _⟩ := hf j hjl
      rw [Addr.add_lit] at h2 h3
      exact ⟨h2, B, m', cp', by rw [Nat.add_assoc]; exact h3, h4⟩
    · intro c hc
      obtain ⟨j, hj, rfl⟩ := List.mem_map.1 hc
      obtain ⟨_, _, h5, h6⟩ := hf j (List.mem_range.1 hj)
      exact ⟨h5, h6⟩
end Go.Proofs.YtpmegcgmbhhfaaaDoor
