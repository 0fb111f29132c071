/-
  The sorted shares of a place are the entered ones.
-/
import Derived.Test.YtcoddcdiimpndaaDoorPv8
set_option linter.unusedVariables false
set_option linter.unusedSimpArgs false
namespace Go.Proofs.YtcoddcdiimpndaaDoor
open Go.RowKit Go.Sort
def okSh (s : Sh) : Prop := 0 ≤ s.node ∧ s.node ≤ 1000000
theorem lt_node {x y : Sh} (hx : okSh x) (hy : okSh y) : ltOf cmpS x y = decide (x.node < y.node) := by
  unfold ltOf cmpS
  obtain ⟨a, b⟩ := hx
  obtain ⟨c, d⟩ := hy
  have e : IntKind.i64.wrap (x.node - y.node) = x.node - y.node := IntWalk.i64_in _ (by omega)
  rw [e]
  rw [Bool.eq_iff_iff]
  simp only [decide_eq_true_eq]
  omega
theorem sort1 (x : Sh) : sortS [x] = [x] := by
  simp [sortS, Sort.insertionSort, Sort.insOuter]
theorem sort0 : sortS [] = [] := by
  simp [sortS, Sort.insertionSort, Sort.insOuter]
theorem sort2 (x y : Sh) (hx : okSh x) (hy : okSh y) : sortS [x, y] = if y.node < x.node then [y, x] else [x, y] := by
  have h := lt_node hy hx
  by_cases hlt : y.node < x.node
  · rw [if_pos hlt]
    simp [hlt] at h
    unfold sortS Sort.insertionSort
    rw [Sort.insOuter, if_pos (by simp)]
    rw [Sort.insOuter, if_neg (by simp)]
    simp [Sort.insInner, h, swp]
  · rw [if_neg hlt]
    simp [hlt] at h
    unfold sortS Sort.insertionSort
    rw [Sort.insOuter, if_pos (by simp)]
    rw [Sort.insOuter, if_neg (by simp)]
    simp [Sort.insInner, h]
theorem sort3 (x y z : Sh) (hx : okSh x) (hy : okSh y) (hz : okSh z) : sortS [x, y, z] = ins (ins [x] y) z ∨ x.node = y.node ∨ x.node = z.node ∨ y.node = z.node := by
  have h1 := lt_node hy hx
  have h2 := lt_node hz hx
  have h3 := lt_node hz hy
  unfold sortS Sort.insertionSort
  rw [show ([x, y, z] : List Sh).toArray = #[x, y, z] from rfl, show ([x, y, z] : List Sh).length = 3 from rfl]
  rw [Sort.insOuter, if_pos (by omega)]
  rw [Sort.insOuter, if_pos (by omega)]
  rw [Sort.insOuter, if_neg (by omega)]
  rcases Int.lt_trichotomy y.node x.node with a | a | a
  · rcases Int.lt_trichotomy z.node x.node with b | b | b
    · rcases Int.lt_trichotomy z.node y.node with c | c | c
      · simp [a, b, c] at h1 h2 h3
        left
        have a' : ¬ x.node < y.node := by omega
        have c' : ¬ y.node < z.node := by omega
        simp [Sort.insInner, h1, h2, h3, swp, ins, a, b, c, a', c']
      · right; right; right; omega
      · simp [a, b, Int.le_of_lt c, Int.not_lt.2 (Int.le_of_lt c)] at h1 h2 h3
        left
        have c' : ¬ x.node < y.node := by omega
        have c'' : ¬ x.node < z.node := by omega
        simp [Sort.insInner, h1, h2, h3, swp, ins, a, b, c, c', c'']
    · right; right; left; omega
    · have c : ¬ z.node < y.node := by omega
      have b' : ¬ z.node < x.node := by omega
      have c2 : y.node < z.node := by omega
      have a' : ¬ x.node < y.node := by omega
      simp [a, b', c] at h1 h2 h3
      left
      simp [Sort.insInner, h1, h2, h3, swp, ins, a, b, c, c2, a']
  · right; left; omega
  · have a' : ¬ y.node < x.node := by omega
    rcases Int.lt_trichotomy z.node y.node with c | c | c
    · rcases Int.lt_trichotomy z.node x.node with b | b | b
      · simp [a', b, c] at h1 h2 h3
        left
        have b' : ¬ x.node < z.node := by omega
        have c' : ¬ y.node < z.node := by omega
        simp [Sort.insInner, h1, h2, h3, swp, ins, a, b, c, b', c']
      · right; right; left; omega
      · have b' : ¬ z.node < x.node := by omega
        have c' : ¬ y.node < z.node := by omega
        simp [a', b', c] at h1 h2 h3
        left
        simp [Sort.insInner, h1, h2, h3, swp, ins, a, b, c, c']
    · right; right; right; omega
    · have c' : ¬ z.node < y.node := by omega
      have b : x.node < z.node := by omega
      simp [a', c', show ¬ z.node < x.node by omega] at h1 h2 h3
      left
      simp [Sort.insInner, h1, h2, h3, swp, ins, a, b, c]
/-- Three corners with their weights: entered one after the other, and sorted. -/
theorem three_sorted (n0 n1 n2 w0 w1 w2 : Int) (h0 : 0 ≤ n0 ∧ n0 ≤ 1000000) (h1 : 0 ≤ n1 ∧ n1 ≤ 1000000) (h2 : 0 ≤ n2 ∧ n2 ≤ 1000000) (d1 : n0 ≠ n1) (d2 : n0 ≠ n2) (d3 : n1 ≠ n2) (p0 : 0 ≤ w0) (p1 : 0 ≤ w1) (p2 : 0 ≤ w2) :
    shareL (shareL (shareL [] n0 w0) n1 w1) n2 w2 = sortS ((([] ++ if 0 < w0 then [⟨n0, w0⟩] else []) ++ if 0 < w1 then [⟨n1, w1⟩] else []) ++ if 0 < w2 then [⟨n2, w2⟩] else []) := by
  have k0 : okSh ⟨n0, w0⟩ := h0
  have k1 : okSh ⟨n1, w1⟩ := h1
  have k2 : okSh ⟨n2, w2⟩ := h2
  have t2 : ∀ (a b : Sh), okSh a → okSh b → a.node ≠ b.node → sortS [a, b] = ins [a] b := by
    intro a b ha hb hne
    rw [sort2 a b ha hb]
    simp only [ins]
    by_cases h : b.node < a.node
    · rw [if_pos h, if_neg (by omega)]
    · rw [if_neg h, if_pos (by omega)]
  by_cases c0 : w0 = 0 <;> by_cases c1 : w1 = 0 <;> by_cases c2 : w2 = 0
  all_goals
    simp only [shareL]
    first | rw [if_pos c0] | rw [if_neg c0]
    first | rw [if_pos c1] | rw [if_neg c1]
    first | rw [if_pos c2] | rw [if_neg c2]
    first | rw [if_neg (show ¬ 0 < w0 by omega)] | rw [if_pos (show 0 < w0 by omega)]
    first | rw [if_neg (show ¬ 0 < w1 by omega)] | rw [if_pos (show 0 < w1 by omega)]
    first | rw [if_neg (show ¬ 0 < w2 by omega)] | rw [if_pos (show 0 < w2 by omega)]
    simp only [List.nil_append, List.append_nil, List.singleton_append, List.cons_append]
    first
      | exact sort0.symm
      | (rw [sort1]; rfl)
      | (rw [t2 _ _ (by assumption) (by assumption) (by assumption)]; rfl)
      | (rcases sort3 _ _ _ k0 k1 k2 with h | h | h | h
         · rw [h]; rfl
         · exact absurd h d1
         · exact absurd h d2
         · exact absurd h d3)
end Go.Proofs.YtcoddcdiimpndaaDoor
