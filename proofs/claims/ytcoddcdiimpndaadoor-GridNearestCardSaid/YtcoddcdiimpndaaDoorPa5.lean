/-
  The normal place has the same weights; the normal place of a valid place on the grid is a node.
-/
import Derived.Test.YtcoddcdiimpndaaDoorPa4
set_option linter.unusedVariables false
set_option linter.unusedSimpArgs false
namespace Go.Proofs.YtcoddcdiimpndaaDoor
theorem cases20 {P : Nat → Prop} (n : Nat) (hn : n < 20) (h0 : P 0) (h1 : P 1) (h2 : P 2) (h3 : P 3) (h4 : P 4) (h5 : P 5) (h6 : P 6) (h7 : P 7) (h8 : P 8) (h9 : P 9) (h10 : P 10) (h11 : P 11) (h12 : P 12) (h13 : P 13) (h14 : P 14) (h15 : P 15) (h16 : P 16) (h17 : P 17) (h18 : P 18) (h19 : P 19) : P n := by
  have : n = 0 ∨ n = 1 ∨ n = 2 ∨ n = 3 ∨ n = 4 ∨ n = 5 ∨ n = 6 ∨ n = 7 ∨ n = 8 ∨ n = 9 ∨ n = 10 ∨ n = 11 ∨ n = 12 ∨ n = 13 ∨ n = 14 ∨ n = 15 ∨ n = 16 ∨ n = 17 ∨ n = 18 ∨ n = 19 := by omega
  rcases this with rfl | rfl | rfl | rfl | rfl | rfl | rfl | rfl | rfl | rfl | rfl | rfl | rfl | rfl | rfl | rfl | rfl | rfl | rfl | rfl <;> assumption
def sum12 (X : Nat → Int) : Int := X 0 + X 1 + X 2 + X 3 + X 4 + X 5 + X 6 + X 7 + X 8 + X 9 + X 10 + X 11
def w3 (c0 c1 c2 : Nat) (a b c : Int) (v : Nat) : Int := if v = c0 then a else if v = c1 then b else if v = c2 then c else 0
theorem wt_w3 (f a b c : Int) : wt f a b c = w3 (cor f.toNat 0) (cor f.toNat 1) (cor f.toNat 2) a b c := rfl
theorem sum_w3 (n : Nat) (hn : n < 20) (a b c : Int) : sum12 (w3 (cor n 0) (cor n 1) (cor n 2) a b c) = a + b + c := by
  refine cases20 (P := fun n => sum12 (w3 (cor n 0) (cor n 1) (cor n 2) a b c) = a + b + c) n hn ?_ ?_ ?_ ?_ ?_ ?_ ?_ ?_ ?_ ?_ ?_ ?_ ?_ ?_ ?_ ?_ ?_ ?_ ?_ ?_ 
  · show sum12 (w3 0 1 2 a b c) = a + b + c
    simp [sum12, w3]
    try omega
  · show sum12 (w3 0 2 3 a b c) = a + b + c
    simp [sum12, w3]
    try omega
  · show sum12 (w3 0 3 4 a b c) = a + b + c
    simp [sum12, w3]
    try omega
  · show sum12 (w3 0 4 5 a b c) = a + b + c
    simp [sum12, w3]
    try omega
  · show sum12 (w3 0 5 1 a b c) = a + b + c
    simp [sum12, w3]
    try omega
  · show sum12 (w3 1 6 2 a b c) = a + b + c
    simp [sum12, w3]
    try omega
  · show sum12 (w3 2 7 3 a b c) = a + b + c
    simp [sum12, w3]
    try omega
  · show sum12 (w3 3 8 4 a b c) = a + b + c
    simp [sum12, w3]
    try omega
  · show sum12 (w3 4 9 5 a b c) = a + b + c
    simp [sum12, w3]
    try omega
  · show sum12 (w3 5 10 1 a b c) = a + b + c
    simp [sum12, w3]
    try omega
  · show sum12 (w3 6 7 2 a b c) = a + b + c
    simp [sum12, w3]
    try omega
  · show sum12 (w3 7 8 3 a b c) = a + b + c
    simp [sum12, w3]
    try omega
  · show sum12 (w3 8 9 4 a b c) = a + b + c
    simp [sum12, w3]
    try omega
  · show sum12 (w3 9 10 5 a b c) = a + b + c
    simp [sum12, w3]
    try omega
  · show sum12 (w3 10 6 1 a b c) = a + b + c
    simp [sum12, w3]
    try omega
  · show sum12 (w3 11 7 6 a b c) = a + b + c
    simp [sum12, w3]
    try omega
  · show sum12 (w3 11 8 7 a b c) = a + b + c
    simp [sum12, w3]
    try omega
  · show sum12 (w3 11 9 8 a b c) = a + b + c
    simp [sum12, w3]
    try omega
  · show sum12 (w3 11 10 9 a b c) = a + b + c
    simp [sum12, w3]
    try omega
  · show sum12 (w3 11 6 10 a b c) = a + b + c
    simp [sum12, w3]
    try omega
theorem corner_le (n : Nat) (hn : n < 20) (X : Nat → Int) (hX : ∀ v, 0 ≤ X v) (v : Nat) (hv : v < 12) (h : X (cor n 0) + X (cor n 1) + X (cor n 2) = sum12 X) : w3 (cor n 0) (cor n 1) (cor n 2) (X (cor n 0)) (X (cor n 1)) (X (cor n 2)) v = X v := by
  have e0 := hX 0; have e1 := hX 1; have e2 := hX 2; have e3 := hX 3; have e4 := hX 4; have e5 := hX 5; have e6 := hX 6; have e7 := hX 7; have e8 := hX 8; have e9 := hX 9; have e10 := hX 10; have e11 := hX 11
  clear hX
  unfold sum12 at h
  have hv' : v = 0 ∨ v = 1 ∨ v = 2 ∨ v = 3 ∨ v = 4 ∨ v = 5 ∨ v = 6 ∨ v = 7 ∨ v = 8 ∨ v = 9 ∨ v = 10 ∨ v = 11 := by omega
  clear hv
  revert h
  refine cases20 (P := fun n => X (cor n 0) + X (cor n 1) + X (cor n 2) = X 0 + X 1 + X 2 + X 3 + X 4 + X 5 + X 6 + X 7 + X 8 + X 9 + X 10 + X 11 → w3 (cor n 0) (cor n 1) (cor n 2) (X (cor n 0)) (X (cor n 1)) (X (cor n 2)) v = X v) n hn ?_ ?_ ?_ ?_ ?_ ?_ ?_ ?_ ?_ ?_ ?_ ?_ ?_ ?_ ?_ ?_ ?_ ?_ ?_ ?_ 
  · show X 0 + X 1 + X 2 = X 0 + X 1 + X 2 + X 3 + X 4 + X 5 + X 6 + X 7 + X 8 + X 9 + X 10 + X 11 → w3 0 1 2 (X 0) (X 1) (X 2) v = X v
    intro h
    rcases hv' with rfl | rfl | rfl | rfl | rfl | rfl | rfl | rfl | rfl | rfl | rfl | rfl <;> (simp only [w3]; simp; try omega)
  · show X 0 + X 2 + X 3 = X 0 + X 1 + X 2 + X 3 + X 4 + X 5 + X 6 + X 7 + X 8 + X 9 + X 10 + X 11 → w3 0 2 3 (X 0) (X 2) (X 3) v = X v
    intro h
    rcases hv' with rfl | rfl | rfl | rfl | rfl | rfl | rfl | rfl | rfl | rfl | rfl | rfl <;> (simp only [w3]; simp; try omega)
  · show X 0 + X 3 + X 4 = X 0 + X 1 + X 2 + X 3 + X 4 + X 5 + X 6 + X 7 + X 8 + X 9 + X 10 + X 11 → w3 0 3 4 (X 0) (X 3) (X 4) v = X v
    intro h
    rcases hv' with rfl | rfl | rfl | rfl | rfl | rfl | rfl | rfl | rfl | rfl | rfl | rfl <;> (simp only [w3]; simp; try omega)
  · show X 0 + X 4 + X 5 = X 0 + X 1 + X 2 + X 3 + X 4 + X 5 + X 6 + X 7 + X 8 + X 9 + X 10 + X 11 → w3 0 4 5 (X 0) (X 4) (X 5) v = X v
    intro h
    rcases hv' with rfl | rfl | rfl | rfl | rfl | rfl | rfl | rfl | rfl | rfl | rfl | rfl <;> (simp only [w3]; simp; try omega)
  · show X 0 + X 5 + X 1 = X 0 + X 1 + X 2 + X 3 + X 4 + X 5 + X 6 + X 7 + X 8 + X 9 + X 10 + X 11 → w3 0 5 1 (X 0) (X 5) (X 1) v = X v
    intro h
    rcases hv' with rfl | rfl | rfl | rfl | rfl | rfl | rfl | rfl | rfl | rfl | rfl | rfl <;> (simp only [w3]; simp; try omega)
  · show X 1 + X 6 + X 2 = X 0 + X 1 + X 2 + X 3 + X 4 + X 5 + X 6 + X 7 + X 8 + X 9 + X 10 + X 11 → w3 1 6 2 (X 1) (X 6) (X 2) v = X v
    intro h
    rcases hv' with rfl | rfl | rfl | rfl | rfl | rfl | rfl | rfl | rfl | rfl | rfl | rfl <;> (simp only [w3]; simp; try omega)
  · show X 2 + X 7 + X 3 = X 0 + X 1 + X 2 + X 3 + X 4 + X 5 + X 6 + X 7 + X 8 + X 9 + X 10 + X 11 → w3 2 7 3 (X 2) (X 7) (X 3) v = X v
    intro h
    rcases hv' with rfl | rfl | rfl | rfl | rfl | rfl | rfl | rfl | rfl | rfl | rfl | rfl <;> (simp only [w3]; simp; try omega)
  · show X 3 + X 8 + X 4 = X 0 + X 1 + X 2 + X 3 + X 4 + X 5 + X 6 + X 7 + X 8 + X 9 + X 10 + X 11 → w3 3 8 4 (X 3) (X 8) (X 4) v = X v
    intro h
    rcases hv' with rfl | rfl | rfl | rfl | rfl | rfl | rfl | rfl | rfl | rfl | rfl | rfl <;> (simp only [w3]; simp; try omega)
  · show X 4 + X 9 + X 5 = X 0 + X 1 + X 2 + X 3 + X 4 + X 5 + X 6 + X 7 + X 8 + X 9 + X 10 + X 11 → w3 4 9 5 (X 4) (X 9) (X 5) v = X v
    intro h
    rcases hv' with rfl | rfl | rfl | rfl | rfl | rfl | rfl | rfl | rfl | rfl | rfl | rfl <;> (simp only [w3]; simp; try omega)
  · show X 5 + X 10 + X 1 = X 0 + X 1 + X 2 + X 3 + X 4 + X 5 + X 6 + X 7 + X 8 + X 9 + X 10 + X 11 → w3 5 10 1 (X 5) (X 10) (X 1) v = X v
    intro h
    rcases hv' with rfl | rfl | rfl | rfl | rfl | rfl | rfl | rfl | rfl | rfl | rfl | rfl <;> (simp only [w3]; simp; try omega)
  · show X 6 + X 7 + X 2 = X 0 + X 1 + X 2 + X 3 + X 4 + X 5 + X 6 + X 7 + X 8 + X 9 + X 10 + X 11 → w3 6 7 2 (X 6) (X 7) (X 2) v = X v
    intro h
    rcases hv' with rfl | rfl | rfl | rfl | rfl | rfl | rfl | rfl | rfl | rfl | rfl | rfl <;> (simp only [w3]; simp; try omega)
  · show X 7 + X 8 + X 3 = X 0 + X 1 + X 2 + X 3 + X 4 + X 5 + X 6 + X 7 + X 8 + X 9 + X 10 + X 11 → w3 7 8 3 (X 7) (X 8) (X 3) v = X v
    intro h
    rcases hv' with rfl | rfl | rfl | rfl | rfl | rfl | rfl | rfl | rfl | rfl | rfl | rfl <;> (simp only [w3]; simp; try omega)
  · show X 8 + X 9 + X 4 = X 0 + X 1 + X 2 + X 3 + X 4 + X 5 + X 6 + X 7 + X 8 + X 9 + X 10 + X 11 → w3 8 9 4 (X 8) (X 9) (X 4) v = X v
    intro h
    rcases hv' with rfl | rfl | rfl | rfl | rfl | rfl | rfl | rfl | rfl | rfl | rfl | rfl <;> (simp only [w3]; simp; try omega)
  · show X 9 + X 10 + X 5 = X 0 + X 1 + X 2 + X 3 + X 4 + X 5 + X 6 + X 7 + X 8 + X 9 + X 10 + X 11 → w3 9 10 5 (X 9) (X 10) (X 5) v = X v
    intro h
    rcases hv' with rfl | rfl | rfl | rfl | rfl | rfl | rfl | rfl | rfl | rfl | rfl | rfl <;> (simp only [w3]; simp; try omega)
  · show X 10 + X 6 + X 1 = X 0 + X 1 + X 2 + X 3 + X 4 + X 5 + X 6 + X 7 + X 8 + X 9 + X 10 + X 11 → w3 10 6 1 (X 10) (X 6) (X 1) v = X v
    intro h
    rcases hv' with rfl | rfl | rfl | rfl | rfl | rfl | rfl | rfl | rfl | rfl | rfl | rfl <;> (simp only [w3]; simp; try omega)
  · show X 11 + X 7 + X 6 = X 0 + X 1 + X 2 + X 3 + X 4 + X 5 + X 6 + X 7 + X 8 + X 9 + X 10 + X 11 → w3 11 7 6 (X 11) (X 7) (X 6) v = X v
    intro h
    rcases hv' with rfl | rfl | rfl | rfl | rfl | rfl | rfl | rfl | rfl | rfl | rfl | rfl <;> (simp only [w3]; simp; try omega)
  · show X 11 + X 8 + X 7 = X 0 + X 1 + X 2 + X 3 + X 4 + X 5 + X 6 + X 7 + X 8 + X 9 + X 10 + X 11 → w3 11 8 7 (X 11) (X 8) (X 7) v = X v
    intro h
    rcases hv' with rfl | rfl | rfl | rfl | rfl | rfl | rfl | rfl | rfl | rfl | rfl | rfl <;> (simp only [w3]; simp; try omega)
  · show X 11 + X 9 + X 8 = X 0 + X 1 + X 2 + X 3 + X 4 + X 5 + X 6 + X 7 + X 8 + X 9 + X 10 + X 11 → w3 11 9 8 (X 11) (X 9) (X 8) v = X v
    intro h
    rcases hv' with rfl | rfl | rfl | rfl | rfl | rfl | rfl | rfl | rfl | rfl | rfl | rfl <;> (simp only [w3]; simp; try omega)
  · show X 11 + X 10 + X 9 = X 0 + X 1 + X 2 + X 3 + X 4 + X 5 + X 6 + X 7 + X 8 + X 9 + X 10 + X 11 → w3 11 10 9 (X 11) (X 10) (X 9) v = X v
    intro h
    rcases hv' with rfl | rfl | rfl | rfl | rfl | rfl | rfl | rfl | rfl | rfl | rfl | rfl <;> (simp only [w3]; simp; try omega)
  · show X 11 + X 6 + X 10 = X 0 + X 1 + X 2 + X 3 + X 4 + X 5 + X 6 + X 7 + X 8 + X 9 + X 10 + X 11 → w3 11 6 10 (X 11) (X 6) (X 10) v = X v
    intro h
    rcases hv' with rfl | rfl | rfl | rfl | rfl | rfl | rfl | rfl | rfl | rfl | rfl | rfl <;> (simp only [w3]; simp; try omega)
theorem w3_out (n : Nat) (hn : n < 20) (a b c : Int) (v : Nat) (hv : 12 ≤ v) : w3 (cor n 0) (cor n 1) (cor n 2) a b c v = 0 := by
  have h : cor n 0 < 12 ∧ cor n 1 < 12 ∧ cor n 2 < 12 := by
    revert n
    decide
  unfold w3
  rw [if_neg (by omega), if_neg (by omega), if_neg (by omega)]
theorem wt_nonneg (f a b c : Int) (hv : validB f a b c = true) (j : Nat) : 0 ≤ wt f a b c j := by
  obtain ⟨_, _, h⟩ := (validB_iff ..).1 hv
  unfold wt
  split
  · omega
  split
  · omega
  split
  · omega
  · omega
/-- The normal place has the same weights. -/
theorem wt_norm (f a b c : Int) (hv : validB f a b c = true) : wt (nf f a b c) (nc f a b c 0) (nc f a b c 1) (nc f a b c 2) = wt f a b c := by
  have hb := (validB_iff ..).1 hv
  obtain ⟨hn, _, hok, _⟩ := nf_spec f a b c hv
  have hs := sum_w3 f.toNat (by omega) a b c
  rw [← wt_w3] at hs
  unfold okAt at hok
  have hk := (validB_iff ..).1 hok
  funext v
  rw [wt_w3, Int.toNat_natCast]
  by_cases h12 : v < 12
  · exact corner_le _ hn (wt f a b c) (wt_nonneg f a b c hv) v h12 (by omega)
  · rw [w3_out _ hn _ _ _ v (by omega), wt_w3, w3_out _ (by omega) _ _ _ v (by omega)]
theorem norm_valid (f a b c : Int) (hv : validB f a b c = true) : validB (nf f a b c) (nc f a b c 0) (nc f a b c 1) (nc f a b c 2) = true := (nf_spec f a b c hv).2.2.1
theorem nf_norm (f a b c : Int) (hv : validB f a b c = true) : nf (nf f a b c) (nc f a b c 0) (nc f a b c 1) (nc f a b c 2) = nf f a b c := by
  unfold nf
  exact congrArg firstOk (wt_norm f a b c hv)
theorem nc_norm (f a b c : Int) (hv : validB f a b c = true) (i : Nat) : nc (nf f a b c) (nc f a b c 0) (nc f a b c 1) (nc f a b c 2) i = nc f a b c i := by
  have h1 := nf_norm f a b c hv
  have h2 := wt_norm f a b c hv
  show wt (nf f a b c) (nc f a b c 0) (nc f a b c 1) (nc f a b c 2) (cor (nf (nf f a b c) (nc f a b c 0) (nc f a b c 1) (nc f a b c 2)) i) = wt f a b c (cor (nf f a b c) i)
  rw [h1, h2]
theorem isNode_norm (f a b c : Int) (hv : validB f a b c = true) : isNode ⟨nf f a b c, nc f a b c 0, nc f a b c 1, nc f a b c 2⟩ = true := by
  simp only [isNode, qEq, nf_norm f a b c hv, nc_norm f a b c hv, beq_self_eq_true, Bool.and_self]
/-- Two valid places of one face with the same normal place are the same. -/
theorem norm_inj (f a b c a' b' c' : Int) (hv : validB f a b c = true) (hv' : validB f a' b' c' = true) (h0 : nf f a b c = nf f a' b' c') (h : ∀ i, i < 3 → nc f a b c i = nc f a' b' c' i) : a = a' ∧ b = b' ∧ c = c' := by
  have e := wt_norm f a b c hv
  rw [h0, h 0 (by omega), h 1 (by omega), h 2 (by omega), wt_norm f a' b' c' hv'] at e
  obtain ⟨x0, x1, x2⟩ := wt_own f a b c hv
  obtain ⟨y0, y1, y2⟩ := wt_own f a' b' c' hv'
  rw [← e] at x0 x1 x2
  exact ⟨x0.symm.trans y0, x1.symm.trans y1, x2.symm.trans y2⟩
theorem mem_nodes (n h f a b : Nat) (hq : 840 / n = h) (hf : f < 20) (hab : a + b ≤ n) (hn : isNode (plN h n f a b) = true) : plN h n f a b ∈ nodes n := by
  subst hq
  unfold nodes nodesTo colTo rowTo
  simp only [List.mem_flatMap, List.mem_range, List.mem_filter, List.mem_map]
  exact ⟨f, hf, a, by omega, ⟨b, by omega, rfl⟩, hn⟩
theorem wt_dvd (h f a b c : Int) (ha : h ∣ a) (hb : h ∣ b) (hc : h ∣ c) (v : Nat) : h ∣ wt f a b c v := by
  unfold wt
  split
  · exact ha
  split
  · exact hb
  split
  · exact hc
  · exact Int.dvd_zero h
/-- The normal place of a valid place on the grid is a node. -/
theorem grid_node (n h : Nat) (h1 : 1 ≤ n) (hq : 840 / n = h) (hh : n * h = 840) (f a b c : Int) (hv : validB f a b c = true) (ha : (h : Int) ∣ a) (hb : (h : Int) ∣ b) (hc : (h : Int) ∣ c) :
    (⟨nf f a b c, nc f a b c 0, nc f a b c 1, nc f a b c 2⟩ : Pl) ∈ nodes n := by
  have hN := norm_valid f a b c hv
  have hI := isNode_norm f a b c hv
  obtain ⟨hn, _, _⟩ := nf_spec f a b c hv
  obtain ⟨x, hx⟩ := wt_dvd _ f a b c ha hb hc (cor (nf f a b c) 0)
  obtain ⟨y, hy⟩ := wt_dvd _ f a b c ha hb hc (cor (nf f a b c) 1)
  obtain ⟨z, hz⟩ := wt_dvd _ f a b c ha hb hc (cor (nf f a b c) 2)
  change nc f a b c 0 = _ at hx
  change nc f a b c 1 = _ at hy
  change nc f a b c 2 = _ at hz
  rw [hx, hy, hz] at hN hI ⊢
  obtain ⟨_, _, a0, _, b0, _, c0, _, hs⟩ := (validB_iff ..).1 hN
  have hpos : (0 : Int) < (h : Int) := by
    rcases Nat.eq_zero_or_pos h with e | e
    · subst e; omega
    · omega
  have x0 : 0 ≤ x := Int.nonneg_of_mul_nonneg_right a0 hpos
  have y0 : 0 ≤ y := Int.nonneg_of_mul_nonneg_right b0 hpos
  have z0 : 0 ≤ z := Int.nonneg_of_mul_nonneg_right c0 hpos
  have hxyz : x + y + z = (n : Int) := by
    have : (h : Int) * (x + y + z) = (h : Int) * (n : Int) := by
      rw [Int.mul_add, Int.mul_add, hs, ← Int.natCast_mul, Nat.mul_comm, hh]
      rfl
    exact Int.eq_of_mul_eq_mul_left (by omega) this
  obtain ⟨x, rfl⟩ := Int.eq_ofNat_of_zero_le x0
  obtain ⟨y, rfl⟩ := Int.eq_ofNat_of_zero_le y0
  have hz' : z = (n : Int) - x - y := by omega
  have hp : (⟨nf f a b c, h * (x : Int), h * (y : Int), h * z⟩ : Pl) = plN h n (nf f a b c) x y := by
    unfold plN
    rw [hz', Int.mul_comm (h : Int) x, Int.mul_comm (h : Int) y, Int.mul_comm (h : Int)]
  rw [hp] at hI ⊢
  exact mem_nodes n h _ _ _ hq hn (by omega) hI
end Go.Proofs.YtcoddcdiimpndaaDoor
