/-
  Finding a place in a rising list; lists of shares: insertion by node.
-/
import Derived.Test.YtcoddcdiimpndaaDoorPa5
set_option linter.unusedVariables false
set_option linter.unusedSimpArgs false
namespace Go.Proofs.YtcoddcdiimpndaaDoor
instance : Inhabited Pl := ⟨⟨0, 0, 0, 0⟩⟩
theorem bang_eq {α : Type} [Inhabited α] (l : List α) (i : Nat) (h : i < l.length) : l[i]! = l[i] := getElem!_pos l i h
/-- The index of p in l, -1 if it is not there. -/
def findI (l : List Pl) (p : Pl) : Int := if p ∈ l then (l.idxOf p : Nat) else -1
theorem idx_at_eq : ∀ (l : List Pl) (i : Nat), l.Nodup → ∀ h : i < l.length, l.idxOf (l[i]) = i
  | [], i, _, h => by simp at h
  | p :: l, i, hnd, h => by
    obtain ⟨hn, hnd'⟩ := List.nodup_cons.1 hnd
    cases i with
    | zero => simp [List.idxOf_cons]
    | succ i =>
      have h' : i < l.length := by simpa using h
      have ih := idx_at_eq l i hnd' h'
      have hne : (p == l[i]) = false := by
        rw [beq_eq_false_iff_ne]
        intro e
        exact hn (e ▸ List.getElem_mem h')
      simp only [List.getElem_cons_succ, List.idxOf_cons, hne, cond_false, ih]
theorem rise_lt {l : List Pl} (hr : l.Pairwise (fun p q => ltP p q = true)) (i j : Nat) (hij : i < j) (hj : j < l.length) : ltP l[i]! l[j]! = true := by
  rw [bang_eq l i (by omega), bang_eq l j hj]
  exact List.pairwise_iff_getElem.1 hr i j (by omega) hj hij
theorem rise_nodup {l : List Pl} (hr : l.Pairwise (fun p q => ltP p q = true)) : l.Nodup :=
  hr.imp (fun {p q} h e => by subst e; rw [ltP_irrefl] at h; cases h)
theorem find_hit {l : List Pl} (hr : l.Pairwise (fun p q => ltP p q = true)) (p : Pl) (i : Nat) (hi : i < l.length) (h : l[i]! = p) : findI l p = i := by
  have hm : p ∈ l := by rw [← h, bang_eq l i hi]; exact List.getElem_mem hi
  have := idx_at_eq l i (rise_nodup hr) hi
  rw [← bang_eq l i hi, h] at this
  unfold findI
  rw [if_pos hm, this]
theorem find_miss {l : List Pl} (hr : l.Pairwise (fun p q => ltP p q = true)) (p : Pl) (lo : Nat) (h1 : ∀ i, i < lo → i < l.length → ltP l[i]! p = true) (h2 : ∀ i, lo ≤ i → i < l.length → ltP l[i]! p = false) (h3 : ∀ _ : lo < l.length, l[lo]! ≠ p) : findI l p = -1 := by
  have hm : p ∉ l := by
    intro hm
    obtain ⟨j, hj, he⟩ := List.getElem_of_mem hm
    rw [← bang_eq l j hj] at he
    rcases Nat.lt_trichotomy j lo with h | h | h
    · have := h1 j h hj
      rw [he, ltP_irrefl] at this
      cases this
    · subst h
      exact h3 hj he
    · have h4 := rise_lt hr lo j h hj
      have h5 := h2 lo (Nat.le_refl _) (by omega)
      rw [he, h5] at h4
      cases h4
  unfold findI
  rw [if_neg hm]
/-- What a step of the search keeps. -/
theorem find_up {l : List Pl} (hr : l.Pairwise (fun p q => ltP p q = true)) (p : Pl) (m : Nat) (hm : m < l.length) (h : ltP l[m]! p = true) (i : Nat) (hi : i < m + 1) : ltP l[i]! p = true := by
  rcases Nat.lt_or_ge i m with h1 | h1
  · exact ltP_trans (rise_lt hr i m h1 hm) h
  · obtain rfl : i = m := by omega
    exact h
theorem find_down {l : List Pl} (hr : l.Pairwise (fun p q => ltP p q = true)) (p : Pl) (m : Nat) (h : ltP l[m]! p = false) (i : Nat) (hi : m ≤ i) (hl : i < l.length) : ltP l[i]! p = false := by
  rcases Nat.lt_or_ge m i with h1 | h1
  · have h2 := rise_lt hr m i h1 hl
    cases h3 : ltP l[i]! p
    · rfl
    · rw [ltP_trans h2 h3] at h
      cases h
  · obtain rfl : i = m := by omega
    exact h
end Go.Proofs.YtcoddcdiimpndaaDoor
