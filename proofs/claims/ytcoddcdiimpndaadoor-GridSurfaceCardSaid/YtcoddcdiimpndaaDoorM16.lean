/-
  The cells, the edges and the neighbours of a grid as lists in order: plain laws, no walk.
-/
import Derived.Test.YtcoddcdiimpndaaDoorM12
set_option linter.unusedVariables false
set_option linter.unusedSimpArgs false
namespace Go.Proofs.YtcoddcdiimpndaaDoor
/-- Two lists in strict order with the same members are one. -/
theorem strict_ext {α : Type} {lt : α → α → Prop} (irr : ∀ x, ¬ lt x x) (tr : ∀ x y z, lt x y → lt y z → lt x z) : ∀ {A B : List α}, A.Pairwise lt → B.Pairwise lt → (∀ x, x ∈ A ↔ x ∈ B) → A = B
  | [], [], _, _, _ => rfl
  | [], b :: B, _, _, h => by have := (h b).2 (by simp); simp at this
  | a :: A, [], _, _, h => by have := (h a).1 (by simp); simp at this
  | a :: A, b :: B, hA, hB, h => by
    obtain ⟨a1, a2⟩ := List.pairwise_cons.1 hA
    obtain ⟨b1, b2⟩ := List.pairwise_cons.1 hB
    have e : a = b := by
      have h1 := (h a).1 (by simp)
      have h2 := (h b).2 (by simp)
      rcases List.mem_cons.1 h1 with e | h1
      · exact e
      rcases List.mem_cons.1 h2 with e | h2
      · exact e.symm
      · exact absurd (tr _ _ _ (a1 b h2) (b1 a h1)) (irr a)
    subst e
    congr 1
    refine strict_ext irr tr a2 b2 fun x => ⟨fun hx => ?_, fun hx => ?_⟩
    · rcases List.mem_cons.1 ((h x).1 (List.mem_cons_of_mem _ hx)) with e | h3
      · subst e; exact absurd (a1 x hx) (irr x)
      · exact h3
    · rcases List.mem_cons.1 ((h x).2 (List.mem_cons_of_mem _ hx)) with e | h3
      · subst e; exact absurd (b1 x hx) (irr x)
      · exact h3
def ltEd (x y : Ed) : Prop := x.a < y.a ∨ x.a = y.a ∧ x.b < y.b
def leEd (x y : Ed) : Prop := ¬ ltEd y x
theorem ltEd_irr (x : Ed) : ¬ ltEd x x := by unfold ltEd; omega
theorem ltEd_tr (x y z : Ed) (h1 : ltEd x y) (h2 : ltEd y z) : ltEd x z := by unfold ltEd at *; omega
theorem ed_ext {x y : Ed} (h1 : x.a = y.a) (h2 : x.b = y.b) : x = y := by cases x; cases y; simp_all
/-- Compact: the members stay; what is in order is in strict order then. -/
theorem cmpTo_strict (E : Nat → Ed) : ∀ r, (∀ i j, i ≤ j → j < r → leEd (E i) (E j)) → (cmpTo E r).Pairwise ltEd ∧ ∀ e, e ∈ cmpTo E r ↔ ∃ j, j < r ∧ e = E j
  | 0, _ => ⟨List.Pairwise.nil, fun e => by simp [cmpTo]⟩
  | r + 1, h => by
    obtain ⟨h1, h2⟩ := cmpTo_strict E r (fun i j a b => h i j a (by omega))
    simp only [cmpTo]
    split
    · rename_i hc
      refine ⟨h1, fun e => (h2 e).trans ⟨fun ⟨j, hj, he⟩ => ⟨j, by omega, he⟩, fun ⟨j, hj, he⟩ => ?_⟩⟩
      rcases Nat.lt_or_ge j r with h3 | h3
      · exact ⟨j, h3, he⟩
      · obtain rfl : j = r := by omega
        exact ⟨j - 1, by omega, he.trans hc.2⟩
    · rename_i hc
      refine ⟨List.pairwise_append.2 ⟨h1, by simp, fun x hx y hy => ?_⟩, fun e => ?_⟩
      · obtain rfl : y = E r := by simpa using hy
        obtain ⟨j, hj, rfl⟩ := (h2 x).1 hx
        have g1 := h j (r - 1) (by omega) (by omega)
        have g2 := h (r - 1) r (by omega) (by omega)
        have g3 : ¬ E r = E (r - 1) := fun e => hc ⟨by omega, e⟩
        have g4 : ¬ ((E r).a = (E (r - 1)).a ∧ (E r).b = (E (r - 1)).b) := fun e => g3 (ed_ext e.1 e.2)
        unfold leEd ltEd at *
        omega
      · rw [List.mem_append, h2]
        simp only [List.mem_singleton]
        constructor
        · rintro (⟨j, hj, he⟩ | he)
          · exact ⟨j, by omega, he⟩
          · exact ⟨r, by omega, he⟩
        · rintro ⟨j, hj, he⟩
          rcases Nat.lt_or_ge j r with h3 | h3
          · exact .inl ⟨j, h3, he⟩
          · obtain rfl : j = r := by omega
            exact .inr he
theorem sortE_le (L : List Ed) : (sortE L).Pairwise leEd := by
  have := List.pairwise_mergeSort (le := fun x y => !ltOf cmpE y x) (fun x y z h1 h2 => by
    simp only [Bool.not_eq_true', ltE_no] at *; omega) (fun x y => by
    cases h : ltOf cmpE y x
    · simp
    · have := (ltE_iff y x).1 h
      have h3 : ltOf cmpE x y = false := (ltE_no x y).2 (by omega)
      simp [h3]) L
  refine this.imp fun {x y} h => ?_
  simp only [Bool.not_eq_true', ltE_no] at h
  exact h
theorem compE_sort (L : List Ed) : (compE (sortE L)).Pairwise ltEd ∧ ∀ e, e ∈ compE (sortE L) ↔ e ∈ L := by
  have h := cmpTo_strict (fun i => (sortE L)[i]!) (sortE L).length (fun i j hij hj => by
    rcases Nat.lt_or_ge i j with h1 | h1
    · rw [getElem!_pos _ i (by omega), getElem!_pos _ j hj]
      exact List.pairwise_iff_getElem.1 (sortE_le L) i j (by omega) hj h1
    · obtain rfl : i = j := by omega
      exact ltEd_irr _)
  refine ⟨h.1, fun e => (h.2 e).trans ?_⟩
  rw [← (sortE_perm L).mem_iff]
  constructor
  · rintro ⟨j, hj, rfl⟩
    rw [getElem!_pos _ j hj]
    exact List.getElem_mem hj
  · intro he
    obtain ⟨j, hj, rfl⟩ := List.getElem_of_mem he
    exact ⟨j, hj, (getElem!_pos _ j hj).symm⟩
theorem sortI_le (L : List Int) : (sortI L).Pairwise (· ≤ ·) := by
  have := List.pairwise_mergeSort (le := fun (x y : Int) => decide (x ≤ y)) (fun x y z h1 h2 => by simp only [decide_eq_true_eq] at *; omega) (fun x y => by simp only [Bool.or_eq_true, decide_eq_true_eq]; omega) L
  exact this.imp fun {x y} h => by simpa using h
theorem sortI_mem (L : List Int) (x : Int) : x ∈ sortI L ↔ x ∈ L := (sortI_perm L).mem_iff
theorem strictI {L : List Int} (h1 : L.Pairwise (· ≤ ·)) (h2 : L.Nodup) : L.Pairwise (· < ·) :=
  (h1.and h2).imp fun {a b} h => by have := h.1; have := h.2; omega
theorem sortI_strict (L : List Int) (h : L.Nodup) : (sortI L).Pairwise (· < ·) := strictI (sortI_le L) ((sortI_perm L).nodup_iff.2 h)
/-- A sum that a permutation keeps. -/
def sumL (L : List Int) : Int := L.foldr (· + ·) 0
theorem sumL_perm {A B : List Int} (h : A.Perm B) : sumL A = sumL B := by
  induction h with
  | nil => rfl
  | cons x _ ih => simp only [sumL, List.foldr_cons] at *; rw [ih]
  | swap x y l => simp only [sumL, List.foldr_cons]; omega
  | trans _ _ h1 h2 => exact h1.trans h2
/-- Three numbers in order. -/
theorem triOf_facts (x y z : Int) : (triOf x y z).a ≤ (triOf x y z).b ∧ (triOf x y z).b ≤ (triOf x y z).c ∧ [(triOf x y z).a, (triOf x y z).b, (triOf x y z).c].Perm [x, y, z] := by
  have hl : (sortI [x, y, z]).length = 3 := sortI_length _
  have hs := sortI_le [x, y, z]
  have hp := sortI_perm [x, y, z]
  obtain ⟨p, q, r, e⟩ : ∃ p q r, sortI [x, y, z] = [p, q, r] := by
    match h : sortI [x, y, z], hl with
    | [p, q, r], _ => exact ⟨p, q, r, rfl⟩
  have e0 : triOf x y z = ⟨p, q, r⟩ := by unfold triOf; rw [e]; rfl
  rw [e] at hs hp
  rw [e0]
  simp at hs
  exact ⟨hs.1.1, hs.2, hp⟩
theorem triOf_min (x y z : Int) : triOf x y z = ⟨min (min x y) z, x + y + z - min (min x y) z - max (max x y) z, max (max x y) z⟩ := by
  obtain ⟨h1, h2, hp⟩ := triOf_facts x y z
  generalize triOf x y z = t at *
  obtain ⟨p, q, r⟩ := t
  simp only at h1 h2 hp
  have hsum := sumL_perm hp
  simp only [sumL, List.foldr_cons, List.foldr_nil] at hsum
  have mp : p ∈ [x, y, z] := hp.mem_iff.1 (by simp)
  have mr : r ∈ [x, y, z] := hp.mem_iff.1 (by simp)
  have mx : x ∈ [p, q, r] := hp.mem_iff.2 (by simp)
  have my : y ∈ [p, q, r] := hp.mem_iff.2 (by simp)
  have mz : z ∈ [p, q, r] := hp.mem_iff.2 (by simp)
  simp only [List.mem_cons, List.not_mem_nil, or_false] at mp mr mx my mz
  have hp' : p = min (min x y) z := by omega
  have hr' : r = max (max x y) z := by omega
  rw [← hp', ← hr']
  congr 1
  omega
theorem triOf_strict (x y z : Int) (h1 : x ≠ y) (h2 : x ≠ z) (h3 : y ≠ z) : (triOf x y z).a < (triOf x y z).b ∧ (triOf x y z).b < (triOf x y z).c := by
  obtain ⟨g1, g2, hp⟩ := triOf_facts x y z
  have hn : [(triOf x y z).a, (triOf x y z).b, (triOf x y z).c].Nodup := hp.nodup_iff.2 (by simp [h1, h2, h3])
  simp at hn
  omega
end Go.Proofs.YtcoddcdiimpndaaDoor
