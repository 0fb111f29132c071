/-
  The nodes of each grid: strictly rising, valid. Checked by the kernel for each frequency.
-/
import Derived.Test.YtcoddcdiimpndaaDoorPa2
set_option linter.unusedVariables false
set_option linter.unusedSimpArgs false
namespace Go.Proofs.YtcoddcdiimpndaaDoor
def ltP (p q : Pl) : Bool := if p.f ≠ q.f then decide (p.f < q.f) else if p.a ≠ q.a then decide (p.a < q.a) else decide (p.b < q.b)
theorem ltP_trans {p q r : Pl} (h1 : ltP p q = true) (h2 : ltP q r = true) : ltP p r = true := by
  unfold ltP at h1 h2 ⊢
  split at h1 <;> split at h2 <;> (try split at h1) <;> (try split at h2) <;> simp only [decide_eq_true_eq] at h1 h2 <;> (repeat' split) <;> simp only [decide_eq_true_eq] <;> omega
theorem ltP_irrefl (p : Pl) : ltP p p = false := by simp [ltP]
def chainB : List Pl → Bool
  | [] => true
  | [_] => true
  | p :: q :: l => ltP p q && chainB (q :: l)
theorem chain_pairwise : ∀ l : List Pl, chainB l = true → l.Pairwise (fun p q => ltP p q = true)
  | [], _ => List.Pairwise.nil
  | [p], _ => by simp
  | p :: q :: l, h => by
    simp only [chainB, Bool.and_eq_true] at h
    have ih := chain_pairwise (q :: l) h.2
    refine List.pairwise_cons.2 ⟨?_, ih⟩
    intro r hr
    rcases List.mem_cons.1 hr with rfl | hr
    · exact h.1
    · exact ltP_trans h.1 ((List.pairwise_cons.1 ih).1 r hr)
def okN (n : Nat) : Bool := chainB (nodes n) && (nodes n).all (fun p => validB p.f p.a p.b p.c)
set_option maxRecDepth 100000 in
theorem okN1 : okN 1 = true := by decide +kernel
set_option maxRecDepth 100000 in
theorem okN2 : okN 2 = true := by decide +kernel
set_option maxRecDepth 100000 in
theorem okN3 : okN 3 = true := by decide +kernel
set_option maxRecDepth 100000 in
theorem okN4 : okN 4 = true := by decide +kernel
set_option maxRecDepth 100000 in
theorem okN5 : okN 5 = true := by decide +kernel
set_option maxRecDepth 100000 in
theorem okN6 : okN 6 = true := by decide +kernel
set_option maxRecDepth 100000 in
theorem okN7 : okN 7 = true := by decide +kernel
set_option maxRecDepth 100000 in
theorem okN8 : okN 8 = true := by decide +kernel
theorem okN_all (n : Nat) (h1 : 1 ≤ n) (h8 : n ≤ 8) : okN n = true := by
  have : n = 1 ∨ n = 2 ∨ n = 3 ∨ n = 4 ∨ n = 5 ∨ n = 6 ∨ n = 7 ∨ n = 8 := by omega
  rcases this with rfl | rfl | rfl | rfl | rfl | rfl | rfl | rfl
  · exact okN1
  · exact okN2
  · exact okN3
  · exact okN4
  · exact okN5
  · exact okN6
  · exact okN7
  · exact okN8
theorem nodes_rise (n : Nat) (h1 : 1 ≤ n) (h8 : n ≤ 8) : (nodes n).Pairwise (fun p q => ltP p q = true) :=
  chain_pairwise _ (Bool.and_eq_true_iff.1 (okN_all n h1 h8)).1
theorem nodes_valid (n : Nat) (h1 : 1 ≤ n) (h8 : n ≤ 8) (p : Pl) (hp : p ∈ nodes n) : validB p.f p.a p.b p.c = true :=
  List.all_eq_true.1 (Bool.and_eq_true_iff.1 (okN_all n h1 h8)).2 p hp
theorem nodes_nodup (n : Nat) (h1 : 1 ≤ n) (h8 : n ≤ 8) : (nodes n).Nodup :=
  (nodes_rise n h1 h8).imp (fun {p q} h e => by subst e; rw [ltP_irrefl] at h; cases h)
end Go.Proofs.YtcoddcdiimpndaaDoor
