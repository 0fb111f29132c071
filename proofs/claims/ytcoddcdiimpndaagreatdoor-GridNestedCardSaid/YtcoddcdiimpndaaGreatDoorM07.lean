/-
  The sort of whole numbers in a block.
-/
import Derived.Test.YtcoddcdiimpndaaGreatDoorM06
set_option linter.unusedVariables false
set_option linter.unusedSimpArgs false
namespace Go.Proofs.YtcoddcdiimpndaaGreatDoor
open Go.RowKit Go.Sort
theorem heap_mapBlock_same {w : World} {b : Nat} {c : Array Value} {t : TypeId} {fr : Nat × Nat} (f : Array Value → Array Value) (h : w.heap[b]? = some (.cells c t fr)) : (Go.Sort.mapBlock w b f).heap[b]? = some (.cells (f c) t fr) := by
  simp [Go.Sort.mapBlock, Array.getElem?_modify, h, Go.Sort.onCells]
theorem heap_mapBlock_other {w : World} {b k : Nat} (f : Array Value → Array Value) (h : k ≠ b) : (Go.Sort.mapBlock w b f).heap[k]? = w.heap[k]? := by
  simp [Go.Sort.mapBlock, Array.getElem?_modify, Ne.symm h]
theorem size_mapBlock (w : World) (b : Nat) (f : Array Value → Array Value) : (Go.Sort.mapBlock w b f).heap.size = w.heap.size := by simp [Go.Sort.mapBlock]
/-- A block whose first cells are given numbers. -/
def putI (zs : List Int) (c : Array Value) : Array Value := Go.Sort.putCells (Value.int .i64) 0 zs.toArray c
theorem putI_size (zs : List Int) (c : Array Value) : (putI zs c).size = c.size := by simp [putI, Go.Sort.putCells]
theorem putI_get (zs : List Int) (c : Array Value) (i : Nat) (hi : i < zs.length) (hc : i < c.size) : (putI zs c)[i]? = some (.int .i64 zs[i]!) := by
  simp only [putI, Go.Sort.putCells, Array.getElem?_mapIdx]
  rw [Array.getElem?_eq_getElem hc]
  simp [hi]
theorem putI_out (zs : List Int) (c : Array Value) (i : Nat) (hi : zs.length ≤ i) : (putI zs c)[i]? = c[i]? := by
  simp only [putI, Go.Sort.putCells, Array.getElem?_mapIdx]
  cases h : c[i]? with
  | none => rfl
  | some v =>
    simp
    intro h2
    omega
theorem sortI_length (zs : List Int) : (sortI zs).length = zs.length := List.length_mergeSort _
theorem sortI_blk (zs : List Int) (b cap : Nat) (c : Array Value) (t : TypeId) (w : World) (hb : w.heap[b]? = some (.cells c t (0, 0))) (hc : ∀ i, i < zs.length → c[i]? = some (.int .i64 zs[i]!)) (hz : zs.length ≤ 1000000) :
    Calls Tryz.prog 82 #[.slice (some ⟨b, 0, none⟩) zs.length cap] w fun e w' => e = .returned (.tuple #[]) ∧ w'.heap[b]? = some (.cells (putI (sortI zs) c) t (0, 0)) ∧ w.grownBy w' (some b) := by
  have hH : Go.Sort.Holds (Value.int .i64) w b 0 zs.toArray := by
    intro j hj
    have hj' : j < zs.length := by simpa using hj
    rw [Nat.zero_add]
    refine ⟨(blk_cell hb j _ (hc j hj')).trans ?_, blk_free hb j⟩
    simp
  have hlt := blk_lt hb
  refine (Any.slices_Sort_int Tryz.sortInts b 0 cap zs w hH hlt (by omega)).mono ?_
  rintro e w' ⟨rfl, m, os, rfl⟩
  have h1 : (Go.Sort.putRow (Value.int .i64) (Go.Sort.ahead w m) b 0 (sortI zs).toArray).heap[b]? = some (.cells (putI (sortI zs) c) t (0, 0)) := heap_mapBlock_same (w := Go.Sort.ahead w m) _ hb
  have h2 : w.grownBy (Go.Sort.putRow (Value.int .i64) (Go.Sort.ahead w m) b 0 (sortI zs).toArray) (some b) :=
    ⟨rfl, rfl, rfl, by unfold Go.Sort.putRow; rw [size_mapBlock]; exact Nat.le_refl _, fun k hk hne => heap_mapBlock_other (w := Go.Sort.ahead w m) _ (fun e => hne (by rw [e]))⟩
  refine ⟨rfl, ?_, World.grownBy.trans h2 (grown_grow _ os _)⟩
  show (Go.Sort.grow (Go.Sort.putRow (Value.int .i64) (Go.Sort.ahead w m) b 0 (sortI zs).toArray) os).heap[b]? = _
  simp only [Go.Sort.grow]
  rw [Array.getElem?_append_left (blk_lt h1)]
  exact h1
def cellsI (zs : List Int) : List Value := zs.map (Value.int .i64)
theorem cellsI_get (zs : List Int) (i : Nat) (hi : i < zs.length) : (cellsI zs)[i]? = some (.int .i64 zs[i]!) := by simp [cellsI, hi]
/-- The sort of a row that a call owns. -/
theorem sortI_own (zs : List Int) (base g cap : Nat) (w : World) (hz : zs.length ≤ 1000000) (h : w.ownsRow base 3 1 (.slice (some ⟨g, 0, none⟩) zs.length cap) zs.length (cellsI zs)) :
    Calls Tryz.prog 82 #[.slice (some ⟨g, 0, none⟩) zs.length cap] w fun e w' => e = .returned (.tuple #[]) ∧ w'.ownsRow base 3 1 (.slice (some ⟨g, 0, none⟩) zs.length cap) zs.length (cellsI (sortI zs)) ∧ w.grownBy w' (some g) := by
  rcases h.2 with ⟨h0, _⟩ | ⟨g', cap', cur, h0, hb, hh, h1, h2, h3, h4⟩
  · cases h0
  · injection h0 with h5 h6 h7
    injection h5 with h5
    injection h5 with h5
    subst h5
    subst h7
    rw [Nat.mul_one] at h3 h4
    refine (sortI_blk zs g cap cur 3 w hh (fun i hi => ?_) hz).mono ?_
    · have : (cur.toList.take zs.length)[i]? = some (.int .i64 zs[i]!) := by rw [h4]; exact cellsI_get zs i hi
      rw [List.getElem?_take, if_pos hi] at this
      simpa using this
    · rintro e w' ⟨rfl, k1, k2⟩
      refine ⟨rfl, ⟨by simp [cellsI, sortI_length], .inr ⟨g, cap, _, rfl, hb, k1, h1, h2, by rw [putI_size, h3, Nat.mul_one], ?_⟩⟩, k2⟩
      apply List.ext_getElem?
      intro i
      rw [Nat.mul_one, List.getElem?_take]
      by_cases hi : i < zs.length
      · rw [if_pos hi, Array.getElem?_toList, putI_get _ _ i (by rw [sortI_length]; exact hi) (by rw [h3]; omega), cellsI_get _ i (by rw [sortI_length]; exact hi)]
      · rw [if_neg hi, List.getElem?_eq_none]
        simp [cellsI, sortI_length]
        omega
end Go.Proofs.YtcoddcdiimpndaaGreatDoor
