/-
  Walks: the cycles of a permutation.
-/
import Derived.Test.YtobbepmlmbbamaaWr
namespace Go.Proofs.Ytobbepmlmbbamaa
open Go Go.RowKit

theorem RowT.store {w : World} {t t' : TypeId} {A : Option Addr} {n : Nat} {xs : List Value} {g i : Nat} {vs : List Value} (h : RowT w t A n xs) (hr : Row w g t' vs) (hne : t ≠ t') (v : Value) : RowT (w.setCell ⟨g, i, none⟩ v) t A n xs :=
  ⟨h.1, fun hn => let ⟨b, o, cs, fr, e, hb, hc⟩ := h.2 hn; ⟨b, o, cs, fr, e, (Below.heap_setCell w _ v b (fun he => by
      have hr' := hr
      unfold Row at hr'
      have he' : b = g := he
      rw [he', hr'] at hb
      injection hb with hb
      injection hb with _ h4
      exact hne h4.symm)).trans hb, hc⟩⟩
theorem own_rowT {w : World} {base : Nat} {t : TypeId} {A : Option Addr} {n c : Nat} {xs : List Value} (h : w.ownsRow base t 1 (.slice A n c) n xs) : RowT w t A n xs := by
  refine ⟨by simpa using h.1, fun hn => ?_⟩
  rcases h.2 with ⟨_, h2⟩ | ⟨g, cap, cur, h1, _, h3, _, _, _, h5⟩
  · omega
  · injection h1 with h1 _ _
    refine ⟨g, 0, cur, (0, 0), h1, h3, fun j u hu => ?_⟩
    rw [Nat.zero_add]
    have hj : j < n := by
      have := (List.getElem?_eq_some_iff.1 hu).1
      have := h.1
      omega
    rw [← h5, List.getElem?_take, if_pos (by omega)] at hu
    rw [← hu]
    simp
/-- A slice of numbers, its row's type known. -/
def FaceAt (w : World) (v : Value) (l : List Nat) : Prop := ∃ A c, v = .slice A l.length c ∧ RowT w 3 A l.length (l.map (fun k : Nat => Value.int .i64 k))
def Vs (w : World) (vs : List Value) (fs : List (List Nat)) : Prop := vs.length = fs.length ∧ ∀ (i : Nat) l, fs[i]? = some l → ∃ v, vs[i]? = some v ∧ FaceAt w v l
theorem Vs.below {w w' : World} {vs : List Value} {fs : List (List Nat)} (h : Vs w vs fs) (hb : Below w.heap.size w w') : Vs w' vs fs :=
  ⟨h.1, fun i l e => let ⟨v, h1, A, c, h2, h3⟩ := h.2 i l e; ⟨v, h1, A, c, h2, h3.keep hb⟩⟩
theorem Vs.grown {w w' : World} {vs : List Value} {fs : List (List Nat)} {row : Option Nat} {t' : TypeId} (h : Vs w vs fs) (hg : w.grownBy w' row) (hr : ∀ g, row = some g → ∃ cs fr, w.heap[g]? = some (.cells cs t' fr)) (hne : 3 ≠ t') : Vs w' vs fs :=
  ⟨h.1, fun i l e => let ⟨v, h1, A, c, h2, h3⟩ := h.2 i l e; ⟨v, h1, A, c, h2, h3.grown hg hr hne⟩⟩
theorem Vs.store {w : World} {vs : List Value} {fs : List (List Nat)} {g i : Nat} {us : List Value} {t' : TypeId} (h : Vs w vs fs) (hr : Row w g t' us) (hne : 3 ≠ t') (v : Value) : Vs (w.setCell ⟨g, i, none⟩ v) vs fs :=
  ⟨h.1, fun i l e => let ⟨v, h1, A, c, h2, h3⟩ := h.2 i l e; ⟨v, h1, A, c, h2, h3.store hr hne _⟩⟩
theorem Vs.add {w : World} {vs : List Value} {fs : List (List Nat)} {v : Value} {l : List Nat} (h : Vs w vs fs) (hv : FaceAt w v l) : Vs w (vs ++ [v]) (fs ++ [l]) := by
  refine ⟨by simp [h.1], fun i m e => ?_⟩
  rw [List.getElem?_append] at e ⊢
  by_cases hi : i < fs.length
  · rw [if_pos hi] at e
    rw [if_pos (by rw [h.1]; exact hi)]
    exact h.2 i m e
  · rw [if_neg hi] at e
    rw [if_neg (by rw [h.1]; exact hi), h.1]
    have h1 := (List.getElem?_eq_some_iff.1 e).1
    simp only [List.length_singleton] at h1
    have h0 : i - fs.length = 0 := by omega
    rw [h0] at e ⊢
    simp only [List.getElem?_cons_zero, Option.some.injEq] at e
    subst e
    exact ⟨v, rfl, hv⟩
theorem Vs.nil (w : World) : Vs w [] [] := ⟨rfl, fun i l e => by simp at e⟩
theorem FaceAt.below {w w' : World} {v : Value} {l : List Nat} (h : FaceAt w v l) (hb : Below w.heap.size w w') : FaceAt w' v l := let ⟨A, c, h2, h3⟩ := h; ⟨A, c, h2, h3.keep hb⟩
theorem FaceAt.store {w : World} {v : Value} {l : List Nat} {g i : Nat} {us : List Value} {t' : TypeId} (h : FaceAt w v l) (hr : Row w g t' us) (hne : 3 ≠ t') (u : Value) : FaceAt (w.setCell ⟨g, i, none⟩ u) v l := let ⟨A, c, h2, h3⟩ := h; ⟨A, c, h2, h3.store hr hne _⟩
theorem FaceAt.grown {w w' : World} {v : Value} {l : List Nat} {row : Option Nat} {t' : TypeId} (h : FaceAt w v l) (hg : w.grownBy w' row) (hr : ∀ g, row = some g → ∃ cs fr, w.heap[g]? = some (.cells cs t' fr)) (hne : 3 ≠ t') : FaceAt w' v l := let ⟨A, c, h2, h3⟩ := h; ⟨A, c, h2, h3.grown hg hr hne⟩
theorem FaceAt.ints {w : World} {A : Option Addr} {n c : Nat} {l : List Nat} (h : FaceAt w (.slice A n c) l) : n = l.length ∧ IntsAt w A n (nats l) := by
  obtain ⟨A', c', h1, h2⟩ := h
  injection h1 with h1 h3 h4
  subst h1 h3
  refine ⟨rfl, ?_⟩
  unfold IntsAt
  rw [map_nats]
  exact h2.row
/-- Slices that lie from a block on. -/
def Far (base : Nat) (vs : List Value) : Prop := ∀ v, v ∈ vs → ∀ g, v.ownBlock = some g → base ≤ g
theorem FaceAt.far {w : World} {v : Value} {l : List Nat} {base g i : Nat} (h : FaceAt w v l) (hf : ∀ b, v.ownBlock = some b → base ≤ b) (hg : g < base) (u : Value) : FaceAt (w.setCell ⟨g, i, none⟩ u) v l := by
  obtain ⟨A, c, rfl, h1, h2⟩ := h
  refine ⟨A, c, rfl, h1, fun hn => ?_⟩
  obtain ⟨b, o, cs, fr, rfl, hb, hc⟩ := h2 hn
  have := hf b rfl
  exact ⟨b, o, cs, fr, rfl, (Below.heap_setCell w _ u b (by show b ≠ g; omega)).trans hb, hc⟩
theorem Vs.far {w : World} {vs : List Value} {fs : List (List Nat)} {base g i : Nat} (h : Vs w vs fs) (hf : Far base vs) (hg : g < base) (u : Value) : Vs (w.setCell ⟨g, i, none⟩ u) vs fs :=
  ⟨h.1, fun i l e => let ⟨v, h1, h2⟩ := h.2 i l e; ⟨v, h1, h2.far (hf v (List.mem_of_getElem? h1)) hg u⟩⟩
theorem Far.add {base : Nat} {vs : List Value} {v : Value} (h : Far base vs) (hv : ∀ g, v.ownBlock = some g → base ≤ g) : Far base (vs ++ [v]) := fun u hu => by
  rcases List.mem_append.1 hu with hu | hu
  · exact h u hu
  · rw [List.mem_singleton] at hu; subst hu; exact hv
theorem rowInfo : (Try.prog.info? 22).map (fun i => (i.zero, i.size, i.bytes)) = some (some (.slice none 0 0), 1, 24) := by kernel_rfl
theorem every_any (h : Int) (w : World) : Calls Try.prog 124 #[.int .i64 h] w fun e w' => e = .returned (.bool true) ∧ w' = w := by
  go_enter Try.func124, Try.ntmps124
  go_wp2
  go_ret
  exact ⟨rfl, rfl⟩
end Go.Proofs.Ytobbepmlmbbamaa
