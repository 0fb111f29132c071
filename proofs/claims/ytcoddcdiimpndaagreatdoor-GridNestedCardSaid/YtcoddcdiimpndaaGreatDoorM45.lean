/-
  Rows of edges and of cells that are read; the test of two edges.
-/
import Derived.Test.YtcoddcdiimpndaaGreatDoorM31
import Derived.Test.YtcoddcdiimpndaaGreatDoorM18
import Derived.Test.YtcoddcdiimpndaaGreatDoorM44
set_option linter.unusedVariables false
set_option linter.unusedSimpArgs false
namespace Go.Proofs.YtcoddcdiimpndaaGreatDoor
open Go.RowKit
/-- Rows that are read: edges, cells. -/
structure RdG (w : World) (g : Nat) (E : Nat → Ed) (n : Nat) : Prop where
  lt : g < w.heap.size
  cells : ∀ i, i < n → w.cell? ⟨g, i * 2, none⟩ = some (.int .i64 (E i).a) ∧ w.cell? ⟨g, i * 2 + 1, none⟩ = some (.int .i64 (E i).b)
theorem RdG.grown {w w' : World} {g n : Nat} {E : Nat → Ed} {row : Option Nat} (H : RdG w g E n) (hg : w.grownBy w' row) (hne : some g ≠ row) : RdG w' g E n :=
  ⟨Nat.lt_of_lt_of_le H.lt hg.size, fun i hi => ⟨hg.cell (H.cells i hi).1 hne, hg.cell (H.cells i hi).2 hne⟩⟩
theorem RdG.below {w w' : World} {B g n : Nat} {E : Nat → Ed} (H : RdG w g E n) (hb : Below B w w') (hB : g < B) : RdG w' g E n :=
  ⟨Nat.lt_of_lt_of_le H.lt hb.size, fun i hi => ⟨(hb.cell (p := ⟨g, i * 2, none⟩) hB).trans (H.cells i hi).1, (hb.cell (p := ⟨g, i * 2 + 1, none⟩) hB).trans (H.cells i hi).2⟩⟩
theorem RdG.of_own {w : World} {base g cap : Nat} {l : List Ed} (h : w.ownsRow base 39 2 (.slice (some ⟨g, 0, none⟩) l.length cap) l.length (cellsE l)) : RdG w g (fun i => l[i]!) l.length :=
  ⟨(h.lt g rfl).2, fun i hi => ⟨own_cell h (i * 2) _ (by rw [cellsE_at l (i * 2) (by omega), show i * 2 / 2 = i by omega, show i * 2 % 2 = 0 by omega]; rfl),
    own_cell h (i * 2 + 1) _ (by rw [cellsE_at l (i * 2 + 1) (by omega), show (i * 2 + 1) / 2 = i by omega, show (i * 2 + 1) % 2 = 1 by omega]; rfl)⟩⟩
structure RdT (w : World) (g : Nat) (C : Nat → Tri) (n : Nat) : Prop where
  lt : g < w.heap.size
  cells : ∀ i, i < n → w.cell? ⟨g, i * 3, none⟩ = some (.int .i64 (C i).a) ∧ w.cell? ⟨g, i * 3 + 1, none⟩ = some (.int .i64 (C i).b) ∧ w.cell? ⟨g, i * 3 + 2, none⟩ = some (.int .i64 (C i).c)
theorem RdT.grown {w w' : World} {g n : Nat} {C : Nat → Tri} {row : Option Nat} (H : RdT w g C n) (hg : w.grownBy w' row) (hne : some g ≠ row) : RdT w' g C n :=
  ⟨Nat.lt_of_lt_of_le H.lt hg.size, fun i hi => ⟨hg.cell (H.cells i hi).1 hne, hg.cell (H.cells i hi).2.1 hne, hg.cell (H.cells i hi).2.2 hne⟩⟩
theorem RdT.below {w w' : World} {B g n : Nat} {C : Nat → Tri} (H : RdT w g C n) (hb : Below B w w') (hB : g < B) : RdT w' g C n :=
  ⟨Nat.lt_of_lt_of_le H.lt hb.size, fun i hi => ⟨(hb.cell (p := ⟨g, i * 3, none⟩) hB).trans (H.cells i hi).1, (hb.cell (p := ⟨g, i * 3 + 1, none⟩) hB).trans (H.cells i hi).2.1, (hb.cell (p := ⟨g, i * 3 + 2, none⟩) hB).trans (H.cells i hi).2.2⟩⟩
theorem RdT.of_own {w : World} {base g cap : Nat} {l : List Tri} (h : w.ownsRow base 34 3 (.slice (some ⟨g, 0, none⟩) l.length cap) l.length (cellsT l)) : RdT w g (fun i => l[i]!) l.length :=
  ⟨(h.lt g rfl).2, fun i hi => ⟨own_cell h (i * 3) _ (cellsT_at l i hi).1, own_cell h (i * 3 + 1) _ (cellsT_at l i hi).2.1, own_cell h (i * 3 + 2) _ (cellsT_at l i hi).2.2⟩⟩
/-- Is x the edge (p, q)? -/
def edB (x0 x1 y0 y1 : Int) : Bool := x0 == y0 && (x1 == y1)
theorem edB_run (w : World) (x0 x1 y0 y1 : Int) : (binOp .eql 39 (.agg #[.int .i64 x0, .int .i64 x1]) (.agg #[.int .i64 y0, .int .i64 y1])).run Tryz.prog w = .ok (.bool (edB x0 x1 y0 y1)) w := eqlE w x0 x1 y0 y1
theorem row_congr {w : World} {b n : Nat} {t : TypeId} {f g : Nat → Value} (h : w.rowIs b t n f) (e : ∀ i, f i = g i) : w.rowIs b t n g := h.congr (fun i _ => e i)
theorem edL_lt (n : Nat) (h1 : 1 ≤ n) (h8 : n ≤ 8) (i : Nat) (hi : i < (edL (nodes n) (840 / n) n).length) : 0 ≤ ((edL (nodes n) (840 / n) n)[i]!).a ∧ ((edL (nodes n) (840 / n) n)[i]!).a < ((edL (nodes n) (840 / n) n)[i]!).b ∧ ((edL (nodes n) (840 / n) n)[i]!).b < ((nodes n).length : Int) := by
  rw [getElem!_pos _ i hi]
  obtain ⟨t, ht, he⟩ := ((edL_facts _ _ _).2 _).1 (List.getElem_mem hi)
  obtain ⟨q0, q1, q2, q3⟩ := tris_ok h1 h8 rfl (nh n h1 h8) t ht
  rw [mem_eds] at he
  omega
end Go.Proofs.YtcoddcdiimpndaaGreatDoor
