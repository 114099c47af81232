/-
  Plain Lean: what the functions of script compute, over lists of bytes. No program is named here.
-/
import Derived.Test.YtpmegcgmbhhfaaaDoorMem
namespace Go.Proofs.YtpmegcgmbhhfaaaDoor
namespace Sp

abbrev Bytes := List UInt8

def blank (b : UInt8) : Bool := b == 32 || b == 9
def prtB (b : UInt8) : Bool := decide (32 ≤ b.toNat ∧ b.toNat ≤ 126)
def bare1 (b : UInt8) : Bool := decide (33 ≤ b.toNat ∧ b.toNat ≤ 126 ∧ b.toNat ≠ 34)
def bare (l : Bytes) : Bool := !l.isEmpty && l.all bare1
def low1 (b : UInt8) : Bool := decide (97 ≤ b.toNat ∧ b.toNat ≤ 122)
def arg1 (b : UInt8) : Bool := decide ((32 ≤ b.toNat ∧ b.toNat ≤ 126) ∨ b.toNat = 10 ∨ b.toNat = 9)

structure C where
  word : Bytes
  args : List Bytes
deriving DecidableEq

def fits (c : C) : Bool := decide (1 ≤ c.word.length) && decide (c.word.length ≤ 20) && decide (c.args.length ≤ 20) && c.word.all low1 && c.args.all (fun a => decide (a.length ≤ 20000) && a.all arg1)

/-- What a backslash and a byte stand for. -/
def escaped (c : UInt8) : Option UInt8 := if c == 34 || c == 92 then some c else if c == 110 then some 10 else if c == 116 then some 9 else none

/-- A quoted text behind its first quotation mark: what it stands for, and the rest of the line. -/
def quoted : Bytes → Bytes → Option (Bytes × Bytes)
  | _, [] => none
  | acc, c :: t =>
    if c == 34 then (if t.isEmpty || t.head?.any blank then some (acc, t) else none)
    else if !prtB c then none
    else if c == 92 then
      match t with
      | [] => none
      | d :: t' => match escaped d with
        | none => none
        | some e => quoted (acc ++ [e]) t'
    else quoted (acc ++ [c]) t

def token (l : Bytes) : Option (Bytes × Bytes) :=
  if l.head? == some 34 then quoted [] l.tail
  else if bare (l.takeWhile (fun b => !blank b)) then some (l.takeWhile (fun b => !blank b), l.dropWhile (fun b => !blank b)) else none

def tokensF : Nat → Bytes → Option (List Bytes)
  | 0, _ => none
  | n + 1, l =>
    if (l.dropWhile blank).isEmpty || (l.dropWhile blank).head? == some 35 then some []
    else match token (l.dropWhile blank) with
      | none => none
      | some (t, r) => (tokensF n r).map (t :: ·)
def tokens (l : Bytes) : Option (List Bytes) := tokensF (l.length + 1) l

/-- The command of a line: none: ill-formed; some none: no token. -/
def command (l : Bytes) : Option (Option C) :=
  match tokens l with
  | none => none
  | some [] => some none
  | some (w :: as) => some (some ⟨w, as⟩)

def linesGo : Bytes → Bytes → List Bytes
  | acc, [] => if acc.isEmpty then [] else [acc]
  | acc, b :: t => if b == 10 then acc :: linesGo [] t else linesGo (acc ++ [b]) t
def lines (s : Bytes) : List Bytes := linesGo [] s

/-- One line more: the commands so far, or the error. -/
def stepLine (acc : List C) (line : Bytes) : Except Nat (List C) :=
  match command line with
  | none => .error 3
  | some none => .ok acc
  | some (some c) => if !fits c then .error 3 else if acc.length == 1000 then .error 5 else .ok (acc ++ [c])
def goLines : List Bytes → Nat → List C → Except (Nat × Nat) (List C)
  | [], _, acc => .ok acc
  | l :: ls, n, acc => match stepLine acc l with
    | .error e => .error (n, e)
    | .ok acc' => goLines ls (n + 1) acc'
def parse (s : Bytes) : Except (Nat × Nat) (List C) := if 1000000 < s.length then .error (0, 5) else goLines (lines s) 1 []

def esc (b : UInt8) : Bytes := if b == 10 then [92, 110] else if b == 9 then [92, 116] else if b == 34 || b == 92 then [92, b] else [b]
def arg (a : Bytes) : Bytes := if bare a && a.head? != some 35 then a else 34 :: (a.flatMap esc ++ [34])
def line (c : C) : Bytes := c.word ++ (c.args.flatMap (fun a => 32 :: arg a) ++ [10])
def format (cs : List C) : Bytes := cs.flatMap line

/-- 'load k "1 2" # a comment'. -/
def sample : Bytes := [108, 111, 97, 100, 32, 107, 32, 34, 49, 32, 50, 34, 32, 35, 32, 97, 32, 99, 111, 109, 109, 101, 110, 116]
theorem sample_parses : tokens sample = some [[108, 111, 97, 100], [107], [49, 32, 50]] := by decide +kernel

end Sp
end Go.Proofs.YtpmegcgmbhhfaaaDoor
