/-
  The nodes of a grid, as both programs list them: plain mathematics.
-/
import Derived.Test.YtcoddcdiimpndaaDoorPa1
set_option linter.unusedVariables false
set_option linter.unusedSimpArgs false
namespace Go.Proofs.YtcoddcdiimpndaaDoor
/-- A place. -/
structure Pl where
  f : Int
  a : Int
  b : Int
  c : Int
deriving DecidableEq
def plN (h n f a b : Nat) : Pl := ⟨f, a * h, b * h, ((n : Int) - a - b) * h⟩
/-- Is the normal place of p the place p itself? -/
def qEq (f a b c : Int) : Bool := (nf f a b c : Int) == f && (nc f a b c 0 == a && (nc f a b c 1 == b && nc f a b c 2 == c))
def isNode (p : Pl) : Bool := qEq p.f p.a p.b p.c
def rowTo (h n f a b : Nat) : List Pl := ((List.range b).map (plN h n f a)).filter isNode
def colTo (h n f a : Nat) : List Pl := (List.range a).flatMap fun i => rowTo h n f i (n + 1 - i)
def nodesTo (h n f : Nat) : List Pl := (List.range f).flatMap fun g => colTo h n g (n + 1)
def nodes (n : Nat) : List Pl := nodesTo (840 / n) n 20
theorem rowTo_yes (h n f a b : Nat) (hy : isNode (plN h n f a b) = true) : rowTo h n f a (b + 1) = rowTo h n f a b ++ [plN h n f a b] := by simp [rowTo, List.range_succ, hy]
theorem rowTo_no (h n f a b : Nat) (hy : isNode (plN h n f a b) = false) : rowTo h n f a (b + 1) = rowTo h n f a b := by simp [rowTo, List.range_succ, hy]
theorem colTo_succ (h n f a : Nat) : colTo h n f (a + 1) = colTo h n f a ++ rowTo h n f a (n + 1 - a) := by simp [colTo, List.range_succ, List.flatMap_append]
theorem nodesTo_succ (h n f : Nat) : nodesTo h n (f + 1) = nodesTo h n f ++ colTo h n f (n + 1) := by simp [nodesTo, List.range_succ, List.flatMap_append]
/-- What has been listed ahead of (f, a, b). -/
def ptsTo (h n f a b : Nat) : List Pl := nodesTo h n f ++ colTo h n f a ++ rowTo h n f a b
theorem ptsTo_zero (h n : Nat) : ptsTo h n 0 0 0 = [] := rfl
theorem ptsTo_yes (h n f a b : Nat) (hy : isNode (plN h n f a b) = true) : ptsTo h n f a (b + 1) = ptsTo h n f a b ++ [plN h n f a b] := by simp [ptsTo, rowTo_yes h n f a b hy]
theorem ptsTo_no (h n f a b : Nat) (hy : isNode (plN h n f a b) = false) : ptsTo h n f a (b + 1) = ptsTo h n f a b := by simp [ptsTo, rowTo_no h n f a b hy]
theorem ptsTo_a (h n f a : Nat) : ptsTo h n f (a + 1) 0 = ptsTo h n f a (n + 1 - a) := by simp [ptsTo, colTo_succ, rowTo]
theorem ptsTo_f (h n f : Nat) : ptsTo h n (f + 1) 0 0 = ptsTo h n f (n + 1) 0 := by simp [ptsTo, nodesTo_succ, rowTo, colTo]
theorem ptsTo_end (n : Nat) : ptsTo (840 / n) n 20 0 0 = nodes n := by simp [ptsTo, nodes, rowTo, colTo]
end Go.Proofs.YtcoddcdiimpndaaDoor
