/- The sort that asks, in plain words: what is asked, and the order that comes of the answers. No condition beyond those of the theorems. -/
import Derived.WalkKit
set_option linter.unusedSimpArgs false
set_option linter.unusedVariables false
namespace Go.Proofs.Ytdibbgldclgokaa.SortM

/-- What has been asked so far, and what came of it: nothing, where there was no answer any more. -/
abbrev Asked := List (Int × Int)

/-- Answers: at the place of the question, for its two things. -/
abbrev Oracle := Nat → Int → Int → Option Bool

/-- The rest of a run's first part: i is the next thing, the run goes from its first thing on. -/
def ascend (O : Oracle) (n : Int) (down : Bool) : Nat → Asked → Int → Asked × Option Int
  | 0, s, i => (s, some i)
  | f + 1, s, i => if i < n then (match O s.length i (i - 1) with
      | none => (s ++ [(i, i - 1)], none)
      | some b => if b = down then ascend O n down f (s ++ [(i, i - 1)]) (i + 1) else (s ++ [(i, i - 1)], some i)) else (s, some i)

/-- from, .., i - 1. -/
def span (from_ : Int) : Nat → List Int
  | 0 => []
  | k + 1 => span from_ k ++ [from_ + (k : Int)]

/-- A place for i in the run, between lo and hi. -/
def place (O : Oracle) (run : List Int) (i : Int) : Nat → Asked → Nat → Nat → Asked × Option Nat
  | 0, s, lo, _ => (s, some lo)
  | f + 1, s, lo, hi => if lo < hi then (match O s.length i (run.getD ((lo + hi) / 2) 0) with
      | none => (s ++ [(i, run.getD ((lo + hi) / 2) 0)], none)
      | some true => place O run i f (s ++ [(i, run.getD ((lo + hi) / 2) 0)]) lo ((lo + hi) / 2)
      | some false => place O run i f (s ++ [(i, run.getD ((lo + hi) / 2) 0)]) ((lo + hi) / 2 + 1) hi) else (s, some lo)

/-- Things are put into a short run, one by one. -/
def fill (O : Oracle) (n : Int) : Nat → Asked → List Int → Int → Asked × Option (List Int × Int)
  | 0, s, run, i => (s, some (run, i))
  | f + 1, s, run, i => if i < n ∧ run.length < 6 then (match place O run i 10 s 0 run.length with
      | (s', none) => (s', none)
      | (s', some p) => fill O n f s' (run.take p ++ i :: run.drop p) (i + 1)) else (s, some (run, i))

/-- One run: its things in order, and where the next one begins. -/
def run1 (O : Oracle) (n : Int) (s : Asked) (i : Int) : Asked × Option (List Int × Int) :=
  if i + 1 < n then (match O s.length (i + 1) i with
    | none => (s ++ [(i + 1, i)], none)
    | some down => (match ascend O n down n.toNat (s ++ [(i + 1, i)]) (i + 2) with
      | (s', none) => (s', none)
      | (s', some j) => fill O n 6 s' (if down = true then (span i (j - i).toNat).reverse else span i (j - i).toNat) j))
  else (s, some ([i], i + 1))

/-- All runs. -/
def runs (O : Oracle) (n : Int) : Nat → Asked → Int → List (List Int) → Asked × Option (List (List Int))
  | 0, s, _, R => (s, some R)
  | f + 1, s, i, R => if i < n then (match run1 O n s i with
      | (s', none) => (s', none)
      | (s', some (r, j)) => runs O n f s' j (R ++ [r])) else (s, some R)

/-- Two rows laid together. -/
def merge (O : Oracle) : Nat → Asked → List Int → List Int → List Int → Asked × Option (List Int)
  | 0, s, a, b, out => (s, some (out ++ a ++ b))
  | _ + 1, s, [], b, out => (s, some (out ++ b))
  | _ + 1, s, a, [], out => (s, some (out ++ a))
  | f + 1, s, x :: a, y :: b, out => match O s.length y x with
      | none => (s ++ [(y, x)], none)
      | some true => merge O f (s ++ [(y, x)]) (x :: a) b (out ++ [y])
      | some false => merge O f (s ++ [(y, x)]) a (y :: b) (out ++ [x])

/-- One pass over the runs. -/
def pass (O : Oracle) : Asked → List (List Int) → List (List Int) → Asked × Option (List (List Int))
  | s, [], N => (s, some N)
  | s, [a], N => (s, some (N ++ [a]))
  | s, a :: b :: R, N => match merge O (a.length + b.length) s a b [] with
      | (s', none) => (s', none)
      | (s', some m) => pass O s' R (N ++ [m])

/-- Passes, until one run is left. -/
def passes (O : Oracle) : Nat → Asked → List (List Int) → Asked × Option (List (List Int))
  | 0, s, R => (s, some R)
  | f + 1, s, R => if 1 < R.length then (match pass O s R [] with
      | (s', none) => (s', none)
      | (s', some N) => passes O f s' N) else (s, some R)

/-- The whole sort. -/
def sort (O : Oracle) (n : Int) : Asked × Option (List Int) :=
  match runs O n n.toNat [] 0 [] with
  | (s, none) => (s, none)
  | (s, some R) => (match passes O R.length s R with
    | (s', none) => (s', none)
    | (s', some R') => (s', some (R'.getD 0 [])))

end Go.Proofs.Ytdibbgldclgokaa.SortM
