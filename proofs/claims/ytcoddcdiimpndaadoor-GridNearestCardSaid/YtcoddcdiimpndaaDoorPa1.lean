/-
  The plain mathematics of places on the icosahedron: the corners of the faces, validity, weights, the normal place; no program.
-/
import Init
namespace Go.Proofs.YtcoddcdiimpndaaDoor

/-- The corners of the faces, as the program's table has them. -/
def tabL : List Nat := [0, 1, 2, 0, 2, 3, 0, 3, 4, 0, 4, 5, 0, 5, 1, 1, 6, 2, 2, 7, 3, 3, 8, 4, 4, 9, 5, 5, 10, 1, 6, 7, 2, 7, 8, 3, 8, 9, 4, 9, 10, 5, 10, 6, 1, 11, 7, 6, 11, 8, 7, 11, 9, 8, 11, 10, 9, 11, 6, 10]
def cor (n i : Nat) : Nat := tabL.getD (3 * n + i) 0

def faceB (n : Int) : Bool := decide (0 ≤ n ∧ n < 20)
def validB (f a b c : Int) : Bool := decide (0 ≤ f ∧ f < 20 ∧ 0 ≤ a ∧ a ≤ 840 ∧ 0 ≤ b ∧ b ≤ 840 ∧ 0 ≤ c ∧ c ≤ 840 ∧ a + b + c = 840)

/-- The weight of vertex v at the place (f, a, b, c). -/
def wt (f a b c : Int) (v : Nat) : Int := if v = cor f.toNat 0 then a else if v = cor f.toNat 1 then b else if v = cor f.toNat 2 then c else 0

/-- Is the place with the weights X on face n? -/
def okAt (X : Nat → Int) (n : Nat) : Bool := validB n (X (cor n 0)) (X (cor n 1)) (X (cor n 2))
def firstOk (X : Nat → Int) : Nat := ((List.range 20).find? (okAt X)).getD 0
/-- The face of the normal place. -/
def nf (f a b c : Int) : Nat := firstOk (wt f a b c)
/-- The coordinates of the normal place. -/
def nc (f a b c : Int) (i : Nat) : Int := wt f a b c (cor (nf f a b c) i)

theorem validB_iff (f a b c : Int) : validB f a b c = true ↔ (0 ≤ f ∧ f < 20 ∧ 0 ≤ a ∧ a ≤ 840 ∧ 0 ≤ b ∧ b ≤ 840 ∧ 0 ≤ c ∧ c ≤ 840 ∧ a + b + c = 840) := by unfold validB; rw [decide_eq_true_eq]
theorem cor_ne : ∀ n, n < 20 → cor n 0 ≠ cor n 1 ∧ cor n 0 ≠ cor n 2 ∧ cor n 1 ≠ cor n 2 := by decide
theorem wt_own (f a b c : Int) (h : validB f a b c = true) : wt f a b c (cor f.toNat 0) = a ∧ wt f a b c (cor f.toNat 1) = b ∧ wt f a b c (cor f.toNat 2) = c := by
  obtain ⟨h0, h1, _⟩ := (validB_iff ..).1 h
  obtain ⟨n1, n2, n3⟩ := cor_ne f.toNat (by omega)
  unfold wt
  refine ⟨by rw [if_pos rfl], by rw [if_neg (Ne.symm n1), if_pos rfl], by rw [if_neg (Ne.symm n2), if_neg (Ne.symm n3), if_pos rfl]⟩
theorem okAt_own (f a b c : Int) (h : validB f a b c = true) : okAt (wt f a b c) f.toNat = true := by
  obtain ⟨e0, e1, e2⟩ := wt_own f a b c h
  unfold okAt
  rw [e0, e1, e2, show ((f.toNat : Nat) : Int) = f from Int.toNat_of_nonneg ((validB_iff ..).1 h).1]
  exact h
theorem firstOk_spec (X : Nat → Int) (m : Nat) (hm : m < 20) (h : okAt X m = true) : firstOk X ≤ m ∧ okAt X (firstOk X) = true ∧ ∀ j, j < firstOk X → okAt X j = false := by
  unfold firstOk
  cases hf : (List.range 20).find? (okAt X) with
  | none =>
    have := List.find?_eq_none.1 hf m (List.mem_range.2 hm)
    exact absurd h this
  | some r =>
    obtain ⟨hr, as, bs, hl, hn⟩ := List.find?_eq_some_iff_append.1 hf
    have hlen : as.length = r := by
      have e : (List.range 20)[as.length]? = some r := by rw [hl]; simp
      have := List.getElem?_eq_some_iff.1 e
      obtain ⟨h1, h2⟩ := this
      simpa using h2
    have hlt : ∀ j, j < r → okAt X j = false := by
      intro j hj
      have e : (List.range 20)[j]? = as[j]? := by rw [hl, List.getElem?_append_left (by omega)]
      have hr20 : r < 20 := by
        have : r ∈ List.range 20 := by rw [hl]; simp
        exact List.mem_range.1 this
      rw [List.getElem?_range (by omega)] at e
      have := hn j (List.mem_of_getElem? e.symm)
      simpa using this
    refine ⟨?_, hr, hlt⟩
    simp only [Option.getD_some]
    refine Nat.le_of_not_lt fun hlt' => ?_
    have := hlt m hlt'
    rw [h] at this
    cases this
theorem nf_spec (f a b c : Int) (h : validB f a b c = true) : nf f a b c < 20 ∧ nf f a b c ≤ f.toNat ∧ okAt (wt f a b c) (nf f a b c) = true ∧ ∀ j, j < nf f a b c → okAt (wt f a b c) j = false := by
  have hf := (validB_iff ..).1 h
  obtain ⟨h1, h2, h3⟩ := firstOk_spec (wt f a b c) f.toNat (by omega) (okAt_own f a b c h)
  exact ⟨by unfold nf; omega, h1, h2, h3⟩

end Go.Proofs.YtcoddcdiimpndaaDoor
