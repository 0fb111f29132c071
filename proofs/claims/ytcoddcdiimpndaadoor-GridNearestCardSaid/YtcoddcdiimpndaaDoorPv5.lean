/-
  Whole rows stored into blocks.
-/
import Derived.Test.YtcoddcdiimpndaaDoorPv4
import Derived.Deep.MidRow
set_option linter.unusedVariables false
set_option linter.unusedSimpArgs false
namespace Go.Proofs.YtcoddcdiimpndaaDoor
open Go.RowKit
theorem heap_setCells_other {b k : Nat} (h : k ≠ b) : ∀ (vs : List Value) (o : Nat) (w : World), (w.setCells b o vs).heap[k]? = w.heap[k]?
  | [], _, _ => rfl
  | v :: r, o, w => by
    rw [World.setCells, heap_setCells_other h r]
    exact heap_setCell_other w ⟨b, o, none⟩ k v h
theorem size_setCells (b : Nat) : ∀ (vs : List Value) (o : Nat) (w : World), (w.setCells b o vs).heap.size = w.heap.size
  | [], _, _ => rfl
  | v :: r, o, w => by
    rw [World.setCells, size_setCells b r]
    simp
theorem Below.setCells {B : Nat} {a : World} {b : Nat} (hb : B ≤ b) : ∀ (vs : List Value) (o : Nat) (w : World), Below B a w → Below B a (w.setCells b o vs)
  | [], _, _, h => h
  | v :: r, o, w, h => Below.setCells hb r (o + 1) _ (h.setCell hb v)
theorem there_of_blk {w : World} {b : Nat} {cs : Array Value} {t : TypeId} (h : w.heap[b]? = some (.cells cs t (0, 0))) : w.there b 0 cs.size := fun j hj => by
  rw [Nat.zero_add]
  exact ⟨by rw [blk_cell h j cs[j] (by simp [hj])]; rfl, blk_free h j⟩
theorem two_rows {w : World} {b9 b10 : Nat} {c9 c10 : Array Value} {t9 t10 : TypeId} (h9 : w.heap[b9]? = some (.cells c9 t9 (0, 0))) (h10 : w.heap[b10]? = some (.cells c10 t10 (0, 0))) (hne : b9 ≠ b10) (L9 L10 : List Value) (hl9 : L9.length = c9.size) (hl10 : L10.length = c10.size) :
    w.there b9 0 L9.length ∧ (w.setCells b9 0 L9).there b10 0 L10.length ∧ ((w.setCells b9 0 L9).setCells b10 0 L10).rangeAt b9 0 L9 ∧ ((w.setCells b9 0 L9).setCells b10 0 L10).rangeAt b10 0 L10 := by
  have t9 := there_of_blk h9
  have t10 := there_of_blk ((heap_setCells_other (Ne.symm hne) L9 0 w).trans h10)
  rw [← hl9] at t9
  rw [← hl10] at t10
  exact ⟨t9, t10, World.rangeAt_setCells_apart (World.rangeAt_setCells_same w b9 0 L9 t9) b10 0 L10 (.inl hne), World.rangeAt_setCells_same _ b10 0 L10 t10⟩
theorem range_cell {w : World} {b : Nat} {L : List Value} (h : w.rangeAt b 0 L) (j : Nat) (v : Value) (hv : L[j]? = some v) : w.cell? ⟨b, j, none⟩ = some v := by
  have := h j v hv
  rwa [Nat.zero_add] at this
end Go.Proofs.YtcoddcdiimpndaaDoor
