/-
  Laws on parts of rows, and on inserting one element into a row by two appends; lists of shares.
-/
import Derived.Test.YtcoddcdiimpndaaDoorPv7
import Derived.Test.YtcoddcdiimpndaaDoorPa6
import Derived.ArgAppend
import Derived.Laws.AppendOwnNone
set_option linter.unusedVariables false
set_option linter.unusedSimpArgs false
namespace Go.Proofs.YtcoddcdiimpndaaDoor
open Go.RowKit
section
variable {P : Program}
/-- A new block of n elements is a row of the call's own. -/
theorem own_new (w : World) (base : Nat) (e : TypeId) (size : Nat) (cs : List Value) (n : Nat) (hl : cs.length = n * size) (hb : base ≤ w.heap.size) (hn : n ≤ 1000000) : (w.alloc (.cells cs.toArray e)).ownsRow base e size (.slice (some ⟨w.heap.size, 0, none⟩) n n) n cs :=
  ⟨hl, .inr ⟨w.heap.size, n, cs.toArray, rfl, hb, blk_new w _, Nat.le_refl _, by unfold maxLen; omega, by simpa using hl, by rw [List.take_of_length_le (by rw [← hl]; simp)]⟩⟩
/-- x[k:] of a row that begins a block. -/
theorem sl_from (t e : TypeId) (size : Nat) (ht : P.underlying t = some (.slice e)) (he : ∀ W, (sizeOf e).run P W = .ok size W) (g n cap k : Nat) (hk : k ≤ n) (hc : n ≤ cap) : ∃ ad c, (∀ W, (Instr.slice t (.slice (some ⟨g, 0, none⟩) n cap) (some (.int .i64 k)) none none).run P W = .ok (.slice (some ad) (n - k) c) W) ∧ ad.block = g ∧ (k < n → ad = ⟨g, k * size, none⟩) := by
  have ht' : P.underlying t = some (.slice (P.elem t)) := by rw [ht]; simp [Program.elem, ht]
  have hel : P.elem t = e := by simp [Program.elem, ht]
  refine ⟨if cap = k then ⟨g, 0, none⟩ else ⟨g, k * size, none⟩, cap - k, fun W => ?_, ?_, ?_⟩
  · rw [run_slice_l W t (some ⟨g, 0, none⟩) n cap ht' .i64 k (by omega) (by omega), hel, he]
    simp only [Result.andThen_ok, sliced, Int.toNat_natCast]
    by_cases h : cap = k
    · rw [if_pos h, if_pos h]
    · rw [if_neg h, if_neg h]
      simp [Addr.add]
      exact fun h => h.symm
  · split <;> rfl
  · intro h
    rw [if_neg (by omega)]
/-- x[:k:k]. -/
theorem sl_full (t e : TypeId) (size : Nat) (ht : P.underlying t = some (.slice e)) (he : ∀ W, (sizeOf e).run P W = .ok size W) (g n cap k : Nat) (hk : k ≤ n) (hc : n ≤ cap) (W : World) : (Instr.slice t (.slice (some ⟨g, 0, none⟩) n cap) none (some (.int .i64 k)) (some (.int .i64 k))).run P W = .ok (.slice (some ⟨g, 0, none⟩) k k) W := by
  have ht' : P.underlying t = some (.slice (P.elem t)) := by rw [ht]; simp [Program.elem, ht]
  have hel : P.elem t = e := by simp [Program.elem, ht]
  rw [run_slice_hm W t (some ⟨g, 0, none⟩) n cap ht' .i64 .i64 k k (by omega) (by omega) (by omega), hel, he]
  simp only [Result.andThen_ok, sliced, Int.toNat_natCast]
  by_cases h : k = 0
  · subst h; simp
  · rw [if_neg h]; simp [Addr.add]
end
/-- Shares with one more, by node. -/
def ins : List Sh → Sh → List Sh
  | [], s => [s]
  | x :: l, s => if x.node < s.node then x :: ins l s else s :: x :: l
theorem ins_at : ∀ (L : List Sh) (s : Sh) (k : Nat), k ≤ L.length → (∀ i, i < k → (L[i]!).node < s.node) → (k < L.length → ¬ (L[k]!).node < s.node) → L.take k ++ s :: L.drop k = ins L s
  | [], s, k, _, _, _ => by simp [ins]
  | x :: l, s, 0, _, _, h2 => by
    have := h2 (by simp)
    simp only [ins]
    rw [if_neg (by simpa using this)]
    rfl
  | x :: l, s, k + 1, h0, h1, h2 => by
    have := h1 0 (by omega)
    simp only [ins]
    rw [if_pos (by simpa using this), List.take_succ_cons, List.drop_succ_cons, List.cons_append]
    rw [ins_at l s k (by simpa using h0) (fun i hi => by simpa using h1 (i + 1) (by omega)) (fun h => by simpa using h2 (by simpa using h))]
theorem ins_length (L : List Sh) (s : Sh) : (ins L s).length = L.length + 1 := by
  induction L with
  | nil => rfl
  | cons x l ih =>
    simp only [ins]
    split
    · simp [ih]
    · simp
def shareL (L : List Sh) (node weight : Int) : List Sh := if weight = 0 then L else ins L ⟨node, weight⟩
theorem shareL_length (L : List Sh) (a b : Int) : (shareL L a b).length ≤ L.length + 1 := by
  unfold shareL
  split
  · omega
  · rw [ins_length]; omega
theorem cellsS_append (a b : List Sh) : cellsS (a ++ b) = cellsS a ++ cellsS b := by simp [cellsS]
theorem cellsS_length (a : List Sh) : (cellsS a).length = a.length * 2 := flat_len shc 2 (fun _ => rfl) a
theorem cellsS_take (L : List Sh) (k : Nat) : cellsS (L.take k) = (cellsS L).take (k * 2) := by
  induction L generalizing k with
  | nil => simp [cellsS]
  | cons x l ih =>
    cases k with
    | zero => simp [cellsS]
    | succ k =>
      rw [List.take_succ_cons, show (k + 1) * 2 = k * 2 + 2 from by omega]
      have e : cellsS (x :: l) = .int .i64 x.node :: .int .i64 x.w :: cellsS l := rfl
      rw [e, List.take_succ_cons, List.take_succ_cons, ← ih k]
      rfl
theorem cellsS_drop (L : List Sh) (k : Nat) : cellsS (L.drop k) = (cellsS L).drop (k * 2) := by
  induction L generalizing k with
  | nil => simp [cellsS]
  | cons x l ih =>
    cases k with
    | zero => simp [cellsS]
    | succ k =>
      rw [List.drop_succ_cons, show (k + 1) * 2 = k * 2 + 2 from by omega]
      have e : cellsS (x :: l) = .int .i64 x.node :: .int .i64 x.w :: cellsS l := rfl
      rw [e, List.drop_succ_cons, List.drop_succ_cons, ← ih k]
theorem cellsS_one (L : List Sh) : ∀ u ∈ cellsS L, u.oneCell' = true := by
  intro u hu
  obtain ⟨s, _, hs⟩ := List.mem_flatMap.1 hu
  simp [shc] at hs
  rcases hs with rfl | rfl <;> rfl
end Go.Proofs.YtcoddcdiimpndaaDoor
