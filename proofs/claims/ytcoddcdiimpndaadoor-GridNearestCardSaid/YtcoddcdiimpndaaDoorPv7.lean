/-
  The sort of shares by node, as Locate calls it.
-/
import Derived.Test.YtcoddcdiimpndaaDoorPv6
import Derived.Shelf.SlSortCmp.SmallK
set_option linter.unusedVariables false
set_option linter.unusedSimpArgs false
namespace Go.Proofs.YtcoddcdiimpndaaDoor
open Go.RowKit Go.Sort
theorem size_insInner {α : Type} [Inhabited α] (lt : α → α → Bool) (a : Nat) : ∀ (j : Nat) (d : Array α), (insInner lt a j d).size = d.size
  | 0, _ => rfl
  | j + 1, d => by
    unfold insInner
    split
    · rw [size_insInner lt a j, size_swp]
    · rfl
theorem size_insOuter {α : Type} [Inhabited α] (lt : α → α → Bool) (a b : Nat) : ∀ (m i : Nat) (d : Array α), b - i = m → (insOuter lt a b i d).size = d.size
  | 0, i, d, h => by
    unfold insOuter
    rw [if_neg (by omega)]
  | m + 1, i, d, h => by
    unfold insOuter
    rw [if_pos (by omega), size_insOuter lt a b m (i + 1) _ (by omega), size_insInner]
theorem size_insS {α : Type} [Inhabited α] (lt : α → α → Bool) (d : Array α) (a b : Nat) : (Sort.insertionSort lt d a b).size = d.size := size_insOuter lt a b _ _ d rfl
set_option maxHeartbeats 1000000 in
theorem less_any (x y : Sh) (W : World) : Calls Tryd.prog 48 #[.agg #[.int .i64 x.node, .int .i64 x.w], .agg #[.int .i64 y.node, .int .i64 y.w]] W fun e w' => e = .returned (.int .i64 (cmpS x y)) ∧ ∃ q os', w' = Sort.grow (W.drewN q) os' := by
  go_enter Tryd.func48, Tryd.ntmps48
  go_wp2
  go_ret
  refine ⟨?_, 0, _, by rw [alloc_eq_grow, alloc_eq_grow, grow_grow]; rfl⟩
  unfold cmpS
  rw [IntWalk.i64_left]
  rfl
theorem bits2 (n : Nat) (W : World) (h : n ≤ 12) : Calls Tryd.prog 65 #[.int .u64 n] W fun e w' => (∃ l : Int, e = .returned (.int .i64 l)) ∧ w' = W :=
  (Any.bits_Len Tryd.bitsLen n W (by omega) (by omega)).mono fun _ _ ⟨he, hw⟩ => ⟨⟨_, he⟩, hw⟩
/-- The sort of a row of shares that a call owns. -/
theorem sort_any (L : List Sh) (base g cap : Nat) (w : World) (h12 : L.length ≤ 12) (h : w.ownsRow base 41 2 (.slice (some ⟨g, 0, none⟩) L.length cap) L.length (cellsS L)) :
    Calls Tryd.prog 47 #[.slice (some ⟨g, 0, none⟩) L.length cap, .func (.func 48) #[] #[]] w fun e w' => e = .returned (.tuple #[]) ∧ w'.ownsRow base 41 2 (.slice (some ⟨g, 0, none⟩) L.length cap) L.length (cellsS (sortS L)) ∧ Below base w w' := by
  have hk : ∀ x, (shc x).length = 2 := fun _ => rfl
  have hrow : w.ownsRow base 41 2 (.slice (some ⟨g, 0, none⟩) L.length cap) L.length (L.toArray.toList.flatMap shc) := h
  have hH := own_holds hk (by simp) hrow
  have eg : ∀ args w, (callFunc 48 args).run Tryd.prog w = .ok (.enter 48 args) w := enters_of Tryd.func48 (by kernel_rfl) rfl
  have hc := AnyQ.slices_SortFunc_small Tryd.sortShare 2 Tryd.isAgg41 Tryd.sizeOf41 shc hk (fun x v hv => by simp [shc] at hv; rcases hv with rfl | rfl <;> rfl) cmpS 48 #[] g 0 cap L.toArray w eg (fun _ _ _ _ x y => less_any x y _) hH (h.lt g rfl).2 (by simpa using h12) bits2
  refine hc.mono ?_
  rintro e w' ⟨rfl, m, os, rfl⟩
  have hz : (Sort.insertionSort (ltOf cmpS) L.toArray 0 L.toArray.size).size = L.toArray.size := size_insS _ _ _ _
  have := own_sorted hk (by simp) hrow hz m os
  exact ⟨rfl, by simpa [sortS, cellsS] using this⟩
theorem sortS_length (L : List Sh) : (sortS L).length = L.length := by simp [sortS, size_insS]
end Go.Proofs.YtcoddcdiimpndaaDoor
