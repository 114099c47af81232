/-
  Plain Lean: link diagrams as lists of signs and mates; half-edges, faces, graph components, and when a diagram is valid. No program is named here.
-/
import Derived.Test.YtobbepmlmbbamaaGen
namespace Go.Proofs.Ytobbepmlmbbamaa.Pl

/-- A diagram whose mates are numbers of half-edges. -/
structure Dg where
  sg : List Int
  mt : List Nat
  lp : Nat
deriving DecidableEq

namespace Dg
def n (d : Dg) : Nat := d.sg.length
def s (d : Dg) (c : Nat) : Int := d.sg.getD c 0
/-- The mate; a half-edge beyond the diagram is its own mate. -/
def m (d : Dg) (h : Nat) : Nat := d.mt.getD h h
end Dg

/-- The half-edge k slots further counterclockwise. -/
def tn (h k : Nat) : Nat := h / 4 * 4 + (h % 4 + k) % 4
theorem tn_div (h k : Nat) : tn h k / 4 = h / 4 := by unfold tn; omega
theorem tn_mod (h k : Nat) : tn h k % 4 = (h % 4 + k) % 4 := by unfold tn; omega
theorem tn_lt {h k n : Nat} (hh : h < 4 * n) : tn h k < 4 * n := by unfold tn; omega
theorem tn_tn (h j k : Nat) : tn (tn h j) k = tn h (j + k) := by unfold tn; omega
theorem tn_four (h : Nat) : tn h 4 = h := by unfold tn; omega
theorem tn_zero (h : Nat) : tn h 0 = h := by unfold tn; omega
theorem tn_inj {g h k : Nat} (e : tn g k = tn h k) : g = h := by unfold tn at e; omega
theorem tn_mod4 (h k : Nat) : tn h (k % 4) = tn h k := by unfold tn; omega

/-- Is the half-edge h outgoing? -/
def out (d : Dg) (h : Nat) : Bool := h % 4 == 2 || (h % 4 == 1 && d.s (h / 4) == 1) || (h % 4 == 3 && d.s (h / 4) == -1)
/-- The next half-edge of the face to the left. -/
def nx (d : Dg) (h : Nat) : Nat := tn (d.m h) 3
/-- The next half-edge of the strand. -/
def st (d : Dg) (h : Nat) : Nat := tn (d.m h) 2
def rot (h : Nat) : Nat := tn h 3
theorem nx_phi (d : Dg) : nx d = phi rot d.m := rfl

/-- The rules of a diagram, but for the sphere. -/
structure Wf (d : Dg) : Prop where
  few : d.n ≤ 64
  len : d.mt.length = 4 * d.n
  lp : d.lp ≤ 64
  sign : ∀ c, c < d.n → d.s c = 1 ∨ d.s c = -1
  lt : ∀ h, h < 4 * d.n → d.m h < 4 * d.n
  ne : ∀ h, h < 4 * d.n → d.m h ≠ h
  inv : ∀ h, h < 4 * d.n → d.m (d.m h) = h
  way : ∀ h, h < 4 * d.n → out d h ≠ out d (d.m h)

/-- The half-edges of a diagram. -/
def dart (d : Dg) (h : Nat) : Prop := h < 4 * d.n
theorem rot_bij (k : Nat) : Bij (4 * k) (fun h => h < 4 * k) rot :=
  ⟨fun _ h => h, fun _ h => tn_lt h, fun _ _ _ _ e => tn_inj e⟩
theorem Wf.bij {d : Dg} (h : Wf d) : Bij (4 * d.n) (dart d) d.m :=
  ⟨fun _ h => h, fun x hx => h.lt x hx, fun x y hx hy e => by rw [← h.inv x hx, ← h.inv y hy, e]⟩
theorem Wf.hm {d : Dg} (h : Wf d) : Hm (4 * d.n) (dart d) rot d.m := ⟨rot_bij d.n, h.bij, h.inv⟩

/-- The crossings a and b lie in one component of the graph. -/
def Comp (d : Dg) (a b : Nat) : Prop := Con rot d.m (4 * a) (4 * b)

theorem orb_rot (h : Nat) : ∀ k, Orb rot (4 * (h / 4) + k % 4) h := by
  intro k
  have h1 : k % 4 = 0 ∨ k % 4 = 1 ∨ k % 4 = 2 ∨ k % 4 = 3 := by omega
  have h2 : h % 4 = 0 ∨ h % 4 = 1 ∨ h % 4 = 2 ∨ h % 4 = 3 := by omega
  refine ⟨(k % 4 + 4 - h % 4) % 4, ?_⟩
  have key : ∀ j x : Nat, it rot j x = tn x (3 * j) := by
    intro j
    induction j with
    | zero => intro x; exact (tn_zero x).symm
    | succ j ih => intro x; show rot (it rot j x) = _; rw [ih]; unfold rot; rw [tn_tn]; congr 1
  rw [key]
  unfold tn
  omega
theorem orb_rot0 (h : Nat) : Orb rot (4 * (h / 4)) h := orb_rot h 0
/-- Half-edges of one component: their crossings are. -/
theorem con_comp {d : Dg} (hd : Wf d) {g h : Nat} (hg : g < 4 * d.n) (hh : h < 4 * d.n) : Con rot d.m g h ↔ Comp d (g / 4) (h / 4) := by
  have H := hd.hm
  have e1 : Con rot d.m (4 * (g / 4)) g := orb_con_left _ (orb_rot0 g)
  have e2 : Con rot d.m (4 * (h / 4)) h := orb_con_left _ (orb_rot0 h)
  have s1 : dart d (4 * (g / 4)) := by unfold dart; omega
  have s2 : dart d (4 * (h / 4)) := by unfold dart; omega
  constructor
  · intro e; exact (e1.trans e).trans (H.con_symm s2 e2)
  · intro e; exact (H.con_symm s1 e1).trans (e.trans e2)

/-- Does a face begin at h (its least half-edge)? -/
def Least (f : Nat → Nat) (h : Nat) : Prop := ∀ k, h ≤ it f k h

open Classical in
/-- How many of the numbers below N have the property. -/
noncomputable def cnt (p : Nat → Prop) : Nat → Nat
  | 0 => 0
  | k + 1 => cnt p k + if p k then 1 else 0

/-- THE RULES OF A DIAGRAM ON THE SPHERE. -/
structure Valid (d : Dg) : Prop where
  wf : Wf d
  flat : ∀ c, c < d.n → cnt (fun h => Least (nx d) h ∧ Comp d c (h / 4)) (4 * d.n) = cnt (fun b => Comp d c b) d.n + 2
end Go.Proofs.Ytobbepmlmbbamaa.Pl
