/-
  The nodes of each grid: strictly rising, valid. Checked by the kernel for each frequency.
  A place inside a face is its own normal place.
  The normal place has the same weights; the normal place of a valid place on the grid is a node.
  Finding a place in a rising list; lists of shares: insertion by node.
  The walks of the reference of layer 2 (places): the corners, the weights, whether weights lie on a face.
-/
import Derived.Test.YtcoddcdiimpndaaGreatDoorM01
set_option linter.unusedVariables false
set_option linter.unusedSimpArgs false
namespace Go.Proofs.YtcoddcdiimpndaaGreatDoor
def ltP (p q : Pl) : Bool := if p.f ≠ q.f then decide (p.f < q.f) else if p.a ≠ q.a then decide (p.a < q.a) else decide (p.b < q.b)
theorem ltP_trans {p q r : Pl} (h1 : ltP p q = true) (h2 : ltP q r = true) : ltP p r = true := by
  unfold ltP at h1 h2 ⊢
  split at h1 <;> split at h2 <;> (try split at h1) <;> (try split at h2) <;> simp only [decide_eq_true_eq] at h1 h2 <;> (repeat' split) <;> simp only [decide_eq_true_eq] <;> omega
theorem ltP_irrefl (p : Pl) : ltP p p = false := by simp [ltP]
def chainB : List Pl → Bool
  | [] => true
  | [_] => true
  | p :: q :: l => ltP p q && chainB (q :: l)
theorem chain_pairwise : ∀ l : List Pl, chainB l = true → l.Pairwise (fun p q => ltP p q = true)
  | [], _ => List.Pairwise.nil
  | [p], _ => by simp
  | p :: q :: l, h => by
    simp only [chainB, Bool.and_eq_true] at h
    have ih := chain_pairwise (q :: l) h.2
    refine List.pairwise_cons.2 ⟨?_, ih⟩
    intro r hr
    rcases List.mem_cons.1 hr with rfl | hr
    · exact h.1
    · exact ltP_trans h.1 ((List.pairwise_cons.1 ih).1 r hr)
def okN (n : Nat) : Bool := chainB (nodes n) && (nodes n).all (fun p => validB p.f p.a p.b p.c)
set_option maxRecDepth 100000 in
theorem okN1 : okN 1 = true := by decide +kernel
set_option maxRecDepth 100000 in
theorem okN2 : okN 2 = true := by decide +kernel
set_option maxRecDepth 100000 in
theorem okN3 : okN 3 = true := by decide +kernel
set_option maxRecDepth 100000 in
theorem okN4 : okN 4 = true := by decide +kernel
set_option maxRecDepth 100000 in
theorem okN5 : okN 5 = true := by decide +kernel
set_option maxRecDepth 100000 in
theorem okN6 : okN 6 = true := by decide +kernel
set_option maxRecDepth 100000 in
theorem okN7 : okN 7 = true := by decide +kernel
set_option maxRecDepth 100000 in
theorem okN8 : okN 8 = true := by decide +kernel
theorem okN_all (n : Nat) (h1 : 1 ≤ n) (h8 : n ≤ 8) : okN n = true := by
  have : n = 1 ∨ n = 2 ∨ n = 3 ∨ n = 4 ∨ n = 5 ∨ n = 6 ∨ n = 7 ∨ n = 8 := by omega
  rcases this with rfl | rfl | rfl | rfl | rfl | rfl | rfl | rfl
  · exact okN1
  · exact okN2
  · exact okN3
  · exact okN4
  · exact okN5
  · exact okN6
  · exact okN7
  · exact okN8
theorem nodes_rise (n : Nat) (h1 : 1 ≤ n) (h8 : n ≤ 8) : (nodes n).Pairwise (fun p q => ltP p q = true) :=
  chain_pairwise _ (Bool.and_eq_true_iff.1 (okN_all n h1 h8)).1
theorem nodes_valid (n : Nat) (h1 : 1 ≤ n) (h8 : n ≤ 8) (p : Pl) (hp : p ∈ nodes n) : validB p.f p.a p.b p.c = true :=
  List.all_eq_true.1 (Bool.and_eq_true_iff.1 (okN_all n h1 h8)).2 p hp
theorem nodes_nodup (n : Nat) (h1 : 1 ≤ n) (h8 : n ≤ 8) : (nodes n).Nodup :=
  (nodes_rise n h1 h8).imp (fun {p q} h e => by subst e; rw [ltP_irrefl] at h; cases h)
end Go.Proofs.YtcoddcdiimpndaaGreatDoor
set_option linter.unusedVariables false
set_option linter.unusedSimpArgs false
namespace Go.Proofs.YtcoddcdiimpndaaGreatDoor
def intN (n : Nat) : Bool := (List.range 20).all fun f => (List.range (n + 1)).all fun a => (List.range (n + 1 - a)).all fun b => !(decide (0 < a) && (decide (0 < b) && decide (a + b < n))) || isNode (plN (840 / n) n f a b)
set_option maxRecDepth 100000 in
theorem intN_all (n : Nat) (h1 : 1 ≤ n) (h8 : n ≤ 8) : intN n = true := by
  have : n = 1 ∨ n = 2 ∨ n = 3 ∨ n = 4 ∨ n = 5 ∨ n = 6 ∨ n = 7 ∨ n = 8 := by omega
  rcases this with rfl | rfl | rfl | rfl | rfl | rfl | rfl | rfl <;> decide +kernel
theorem inner_node (n f a b : Nat) (h1 : 1 ≤ n) (h8 : n ≤ 8) (hf : f < 20) (ha : 0 < a) (hb : 0 < b) (hab : a + b < n) : isNode (plN (840 / n) n f a b) = true := by
  have h := List.all_eq_true.1 (List.all_eq_true.1 (List.all_eq_true.1 (intN_all n h1 h8) f (List.mem_range.2 hf)) a (List.mem_range.2 (by omega))) b (List.mem_range.2 (by omega))
  simpa [ha, hb, hab] using h
end Go.Proofs.YtcoddcdiimpndaaGreatDoor
set_option linter.unusedVariables false
set_option linter.unusedSimpArgs false
namespace Go.Proofs.YtcoddcdiimpndaaGreatDoor
theorem cases20 {P : Nat → Prop} (n : Nat) (hn : n < 20) (h0 : P 0) (h1 : P 1) (h2 : P 2) (h3 : P 3) (h4 : P 4) (h5 : P 5) (h6 : P 6) (h7 : P 7) (h8 : P 8) (h9 : P 9) (h10 : P 10) (h11 : P 11) (h12 : P 12) (h13 : P 13) (h14 : P 14) (h15 : P 15) (h16 : P 16) (h17 : P 17) (h18 : P 18) (h19 : P 19) : P n := by
  have : n = 0 ∨ n = 1 ∨ n = 2 ∨ n = 3 ∨ n = 4 ∨ n = 5 ∨ n = 6 ∨ n = 7 ∨ n = 8 ∨ n = 9 ∨ n = 10 ∨ n = 11 ∨ n = 12 ∨ n = 13 ∨ n = 14 ∨ n = 15 ∨ n = 16 ∨ n = 17 ∨ n = 18 ∨ n = 19 := by omega
  rcases this with rfl | rfl | rfl | rfl | rfl | rfl | rfl | rfl | rfl | rfl | rfl | rfl | rfl | rfl | rfl | rfl | rfl | rfl | rfl | rfl <;> assumption
def sum12 (X : Nat → Int) : Int := X 0 + X 1 + X 2 + X 3 + X 4 + X 5 + X 6 + X 7 + X 8 + X 9 + X 10 + X 11
def w3 (c0 c1 c2 : Nat) (a b c : Int) (v : Nat) : Int := if v = c0 then a else if v = c1 then b else if v = c2 then c else 0
theorem wt_w3 (f a b c : Int) : wt f a b c = w3 (cor f.toNat 0) (cor f.toNat 1) (cor f.toNat 2) a b c := rfl
theorem sum_w3 (n : Nat) (hn : n < 20) (a b c : Int) : sum12 (w3 (cor n 0) (cor n 1) (cor n 2) a b c) = a + b + c := by
  refine cases20 (P := fun n => sum12 (w3 (cor n 0) (cor n 1) (cor n 2) a b c) = a + b + c) n hn ?_ ?_ ?_ ?_ ?_ ?_ ?_ ?_ ?_ ?_ ?_ ?_ ?_ ?_ ?_ ?_ ?_ ?_ ?_ ?_ 
  · show sum12 (w3 0 1 2 a b c) = a + b + c
    simp [sum12, w3]
    try omega
  · show sum12 (w3 0 2 3 a b c) = a + b + c
    simp [sum12, w3]
    try omega
  · show sum12 (w3 0 3 4 a b c) = a + b + c
    simp [sum12, w3]
    try omega
  · show sum12 (w3 0 4 5 a b c) = a + b + c
    simp [sum12, w3]
    try omega
  · show sum12 (w3 0 5 1 a b c) = a + b + c
    simp [sum12, w3]
    try omega
  · show sum12 (w3 1 6 2 a b c) = a + b + c
    simp [sum12, w3]
    try omega
  · show sum12 (w3 2 7 3 a b c) = a + b + c
    simp [sum12, w3]
    try omega
  · show sum12 (w3 3 8 4 a b c) = a + b + c
    simp [sum12, w3]
    try omega
  · show sum12 (w3 4 9 5 a b c) = a + b + c
    simp [sum12, w3]
    try omega
  · show sum12 (w3 5 10 1 a b c) = a + b + c
    simp [sum12, w3]
    try omega
  · show sum12 (w3 6 7 2 a b c) = a + b + c
    simp [sum12, w3]
    try omega
  · show sum12 (w3 7 8 3 a b c) = a + b + c
    simp [sum12, w3]
    try omega
  · show sum12 (w3 8 9 4 a b c) = a + b + c
    simp [sum12, w3]
    try omega
  · show sum12 (w3 9 10 5 a b c) = a + b + c
    simp [sum12, w3]
    try omega
  · show sum12 (w3 10 6 1 a b c) = a + b + c
    simp [sum12, w3]
    try omega
  · show sum12 (w3 11 7 6 a b c) = a + b + c
    simp [sum12, w3]
    try omega
  · show sum12 (w3 11 8 7 a b c) = a + b + c
    simp [sum12, w3]
    try omega
  · show sum12 (w3 11 9 8 a b c) = a + b + c
    simp [sum12, w3]
    try omega
  · show sum12 (w3 11 10 9 a b c) = a + b + c
    simp [sum12, w3]
    try omega
  · show sum12 (w3 11 6 10 a b c) = a + b + c
    simp [sum12, w3]
    try omega
theorem corner_le (n : Nat) (hn : n < 20) (X : Nat → Int) (hX : ∀ v, 0 ≤ X v) (v : Nat) (hv : v < 12) (h : X (cor n 0) + X (cor n 1) + X (cor n 2) = sum12 X) : w3 (cor n 0) (cor n 1) (cor n 2) (X (cor n 0)) (X (cor n 1)) (X (cor n 2)) v = X v := by
  have e0 := hX 0; have e1 := hX 1; have e2 := hX 2; have e3 := hX 3; have e4 := hX 4; have e5 := hX 5; have e6 := hX 6; have e7 := hX 7; have e8 := hX 8; have e9 := hX 9; have e10 := hX 10; have e11 := hX 11
  clear hX
  unfold sum12 at h
  have hv' : v = 0 ∨ v = 1 ∨ v = 2 ∨ v = 3 ∨ v = 4 ∨ v = 5 ∨ v = 6 ∨ v = 7 ∨ v = 8 ∨ v = 9 ∨ v = 10 ∨ v = 11 := by omega
  clear hv
  revert h
  refine cases20 (P := fun n => X (cor n 0) + X (cor n 1) + X (cor n 2) = X 0 + X 1 + X 2 + X 3 + X 4 + X 5 + X 6 + X 7 + X 8 + X 9 + X 10 + X 11 → w3 (cor n 0) (cor n 1) (cor n 2) (X (cor n 0)) (X (cor n 1)) (X (cor n 2)) v = X v) n hn ?_ ?_ ?_ ?_ ?_ ?_ ?_ ?_ ?_ ?_ ?_ ?_ ?_ ?_ ?_ ?_ ?_ ?_ ?_ ?_ 
  · show X 0 + X 1 + X 2 = X 0 + X 1 + X 2 + X 3 + X 4 + X 5 + X 6 + X 7 + X 8 + X 9 + X 10 + X 11 → w3 0 1 2 (X 0) (X 1) (X 2) v = X v
    intro h
    rcases hv' with rfl | rfl | rfl | rfl | rfl | rfl | rfl | rfl | rfl | rfl | rfl | rfl <;> (simp only [w3]; simp; try omega)
  · show X 0 + X 2 + X 3 = X 0 + X 1 + X 2 + X 3 + X 4 + X 5 + X 6 + X 7 + X 8 + X 9 + X 10 + X 11 → w3 0 2 3 (X 0) (X 2) (X 3) v = X v
    intro h
    rcases hv' with rfl | rfl | rfl | rfl | rfl | rfl | rfl | rfl | rfl | rfl | rfl | rfl <;> (simp only [w3]; simp; try omega)
  · show X 0 + X 3 + X 4 = X 0 + X 1 + X 2 + X 3 + X 4 + X 5 + X 6 + X 7 + X 8 + X 9 + X 10 + X 11 → w3 0 3 4 (X 0) (X 3) (X 4) v = X v
    intro h
    rcases hv' with rfl | rfl | rfl | rfl | rfl | rfl | rfl | rfl | rfl | rfl | rfl | rfl <;> (simp only [w3]; simp; try omega)
  · show X 0 + X 4 + X 5 = X 0 + X 1 + X 2 + X 3 + X 4 + X 5 + X 6 + X 7 + X 8 + X 9 + X 10 + X 11 → w3 0 4 5 (X 0) (X 4) (X 5) v = X v
    intro h
    rcases hv' with rfl | rfl | rfl | rfl | rfl | rfl | rfl | rfl | rfl | rfl | rfl | rfl <;> (simp only [w3]; simp; try omega)
  · show X 0 + X 5 + X 1 = X 0 + X 1 + X 2 + X 3 + X 4 + X 5 + X 6 + X 7 + X 8 + X 9 + X 10 + X 11 → w3 0 5 1 (X 0) (X 5) (X 1) v = X v
    intro h
    rcases hv' with rfl | rfl | rfl | rfl | rfl | rfl | rfl | rfl | rfl | rfl | rfl | rfl <;> (simp only [w3]; simp; try omega)
  · show X 1 + X 6 + X 2 = X 0 + X 1 + X 2 + X 3 + X 4 + X 5 + X 6 + X 7 + X 8 + X 9 + X 10 + X 11 → w3 1 6 2 (X 1) (X 6) (X 2) v = X v
    intro h
    rcases hv' with rfl | rfl | rfl | rfl | rfl | rfl | rfl | rfl | rfl | rfl | rfl | rfl <;> (simp only [w3]; simp; try omega)
  · show X 2 + X 7 + X 3 = X 0 + X 1 + X 2 + X 3 + X 4 + X 5 + X 6 + X 7 + X 8 + X 9 + X 10 + X 11 → w3 2 7 3 (X 2) (X 7) (X 3) v = X v
    intro h
    rcases hv' with rfl | rfl | rfl | rfl | rfl | rfl | rfl | rfl | rfl | rfl | rfl | rfl <;> (simp only [w3]; simp; try omega)
  · show X 3 + X 8 + X 4 = X 0 + X 1 + X 2 + X 3 + X 4 + X 5 + X 6 + X 7 + X 8 + X 9 + X 10 + X 11 → w3 3 8 4 (X 3) (X 8) (X 4) v = X v
    intro h
    rcases hv' with rfl | rfl | rfl | rfl | rfl | rfl | rfl | rfl | rfl | rfl | rfl | rfl <;> (simp only [w3]; simp; try omega)
  · show X 4 + X 9 + X 5 = X 0 + X 1 + X 2 + X 3 + X 4 + X 5 + X 6 + X 7 + X 8 + X 9 + X 10 + X 11 → w3 4 9 5 (X 4) (X 9) (X 5) v = X v
    intro h
    rcases hv' with rfl | rfl | rfl | rfl | rfl | rfl | rfl | rfl | rfl | rfl | rfl | rfl <;> (simp only [w3]; simp; try omega)
  · show X 5 + X 10 + X 1 = X 0 + X 1 + X 2 + X 3 + X 4 + X 5 + X 6 + X 7 + X 8 + X 9 + X 10 + X 11 → w3 5 10 1 (X 5) (X 10) (X 1) v = X v
    intro h
    rcases hv' with rfl | rfl | rfl | rfl | rfl | rfl | rfl | rfl | rfl | rfl | rfl | rfl <;> (simp only [w3]; simp; try omega)
  · show X 6 + X 7 + X 2 = X 0 + X 1 + X 2 + X 3 + X 4 + X 5 + X 6 + X 7 + X 8 + X 9 + X 10 + X 11 → w3 6 7 2 (X 6) (X 7) (X 2) v = X v
    intro h
    rcases hv' with rfl | rfl | rfl | rfl | rfl | rfl | rfl | rfl | rfl | rfl | rfl | rfl <;> (simp only [w3]; simp; try omega)
  · show X 7 + X 8 + X 3 = X 0 + X 1 + X 2 + X 3 + X 4 + X 5 + X 6 + X 7 + X 8 + X 9 + X 10 + X 11 → w3 7 8 3 (X 7) (X 8) (X 3) v = X v
    intro h
    rcases hv' with rfl | rfl | rfl | rfl | rfl | rfl | rfl | rfl | rfl | rfl | rfl | rfl <;> (simp only [w3]; simp; try omega)
  · show X 8 + X 9 + X 4 = X 0 + X 1 + X 2 + X 3 + X 4 + X 5 + X 6 + X 7 + X 8 + X 9 + X 10 + X 11 → w3 8 9 4 (X 8) (X 9) (X 4) v = X v
    intro h
    rcases hv' with rfl | rfl | rfl | rfl | rfl | rfl | rfl | rfl | rfl | rfl | rfl | rfl <;> (simp only [w3]; simp; try omega)
  · show X 9 + X 10 + X 5 = X 0 + X 1 + X 2 + X 3 + X 4 + X 5 + X 6 + X 7 + X 8 + X 9 + X 10 + X 11 → w3 9 10 5 (X 9) (X 10) (X 5) v = X v
    intro h
    rcases hv' with rfl | rfl | rfl | rfl | rfl | rfl | rfl | rfl | rfl | rfl | rfl | rfl <;> (simp only [w3]; simp; try omega)
  · show X 10 + X 6 + X 1 = X 0 + X 1 + X 2 + X 3 + X 4 + X 5 + X 6 + X 7 + X 8 + X 9 + X 10 + X 11 → w3 10 6 1 (X 10) (X 6) (X 1) v = X v
    intro h
    rcases hv' with rfl | rfl | rfl | rfl | rfl | rfl | rfl | rfl | rfl | rfl | rfl | rfl <;> (simp only [w3]; simp; try omega)
  · show X 11 + X 7 + X 6 = X 0 + X 1 + X 2 + X 3 + X 4 + X 5 + X 6 + X 7 + X 8 + X 9 + X 10 + X 11 → w3 11 7 6 (X 11) (X 7) (X 6) v = X v
    intro h
    rcases hv' with rfl | rfl | rfl | rfl | rfl | rfl | rfl | rfl | rfl | rfl | rfl | rfl <;> (simp only [w3]; simp; try omega)
  · show X 11 + X 8 + X 7 = X 0 + X 1 + X 2 + X 3 + X 4 + X 5 + X 6 + X 7 + X 8 + X 9 + X 10 + X 11 → w3 11 8 7 (X 11) (X 8) (X 7) v = X v
    intro h
    rcases hv' with rfl | rfl | rfl | rfl | rfl | rfl | rfl | rfl | rfl | rfl | rfl | rfl <;> (simp only [w3]; simp; try omega)
  · show X 11 + X 9 + X 8 = X 0 + X 1 + X 2 + X 3 + X 4 + X 5 + X 6 + X 7 + X 8 + X 9 + X 10 + X 11 → w3 11 9 8 (X 11) (X 9) (X 8) v = X v
    intro h
    rcases hv' with rfl | rfl | rfl | rfl | rfl | rfl | rfl | rfl | rfl | rfl | rfl | rfl <;> (simp only [w3]; simp; try omega)
  · show X 11 + X 10 + X 9 = X 0 + X 1 + X 2 + X 3 + X 4 + X 5 + X 6 + X 7 + X 8 + X 9 + X 10 + X 11 → w3 11 10 9 (X 11) (X 10) (X 9) v = X v
    intro h
    rcases hv' with rfl | rfl | rfl | rfl | rfl | rfl | rfl | rfl | rfl | rfl | rfl | rfl <;> (simp only [w3]; simp; try omega)
  · show X 11 + X 6 + X 10 = X 0 + X 1 + X 2 + X 3 + X 4 + X 5 + X 6 + X 7 + X 8 + X 9 + X 10 + X 11 → w3 11 6 10 (X 11) (X 6) (X 10) v = X v
    intro h
    rcases hv' with rfl | rfl | rfl | rfl | rfl | rfl | rfl | rfl | rfl | rfl | rfl | rfl <;> (simp only [w3]; simp; try omega)
theorem w3_out (n : Nat) (hn : n < 20) (a b c : Int) (v : Nat) (hv : 12 ≤ v) : w3 (cor n 0) (cor n 1) (cor n 2) a b c v = 0 := by
  have h : cor n 0 < 12 ∧ cor n 1 < 12 ∧ cor n 2 < 12 := by
    revert n
    decide
  unfold w3
  rw [if_neg (by omega), if_neg (by omega), if_neg (by omega)]
theorem wt_nonneg (f a b c : Int) (hv : validB f a b c = true) (j : Nat) : 0 ≤ wt f a b c j := by
  obtain ⟨_, _, h⟩ := (validB_iff ..).1 hv
  unfold wt
  split
  · omega
  split
  · omega
  split
  · omega
  · omega
/-- The normal place has the same weights. -/
theorem wt_norm (f a b c : Int) (hv : validB f a b c = true) : wt (nf f a b c) (nc f a b c 0) (nc f a b c 1) (nc f a b c 2) = wt f a b c := by
  have hb := (validB_iff ..).1 hv
  obtain ⟨hn, _, hok, _⟩ := nf_spec f a b c hv
  have hs := sum_w3 f.toNat (by omega) a b c
  rw [← wt_w3] at hs
  unfold okAt at hok
  have hk := (validB_iff ..).1 hok
  funext v
  rw [wt_w3, Int.toNat_natCast]
  by_cases h12 : v < 12
  · exact corner_le _ hn (wt f a b c) (wt_nonneg f a b c hv) v h12 (by omega)
  · rw [w3_out _ hn _ _ _ v (by omega), wt_w3, w3_out _ (by omega) _ _ _ v (by omega)]
theorem norm_valid (f a b c : Int) (hv : validB f a b c = true) : validB (nf f a b c) (nc f a b c 0) (nc f a b c 1) (nc f a b c 2) = true := (nf_spec f a b c hv).2.2.1
theorem nf_norm (f a b c : Int) (hv : validB f a b c = true) : nf (nf f a b c) (nc f a b c 0) (nc f a b c 1) (nc f a b c 2) = nf f a b c := by
  unfold nf
  exact congrArg firstOk (wt_norm f a b c hv)
theorem nc_norm (f a b c : Int) (hv : validB f a b c = true) (i : Nat) : nc (nf f a b c) (nc f a b c 0) (nc f a b c 1) (nc f a b c 2) i = nc f a b c i := by
  have h1 := nf_norm f a b c hv
  have h2 := wt_norm f a b c hv
  show wt (nf f a b c) (nc f a b c 0) (nc f a b c 1) (nc f a b c 2) (cor (nf (nf f a b c) (nc f a b c 0) (nc f a b c 1) (nc f a b c 2)) i) = wt f a b c (cor (nf f a b c) i)
  rw [h1, h2]
theorem isNode_norm (f a b c : Int) (hv : validB f a b c = true) : isNode ⟨nf f a b c, nc f a b c 0, nc f a b c 1, nc f a b c 2⟩ = true := by
  simp only [isNode, qEq, nf_norm f a b c hv, nc_norm f a b c hv, beq_self_eq_true, Bool.and_self]
/-- Two valid places of one face with the same normal place are the same. -/
theorem norm_inj (f a b c a' b' c' : Int) (hv : validB f a b c = true) (hv' : validB f a' b' c' = true) (h0 : nf f a b c = nf f a' b' c') (h : ∀ i, i < 3 → nc f a b c i = nc f a' b' c' i) : a = a' ∧ b = b' ∧ c = c' := by
  have e := wt_norm f a b c hv
  rw [h0, h 0 (by omega), h 1 (by omega), h 2 (by omega), wt_norm f a' b' c' hv'] at e
  obtain ⟨x0, x1, x2⟩ := wt_own f a b c hv
  obtain ⟨y0, y1, y2⟩ := wt_own f a' b' c' hv'
  rw [← e] at x0 x1 x2
  exact ⟨x0.symm.trans y0, x1.symm.trans y1, x2.symm.trans y2⟩
theorem mem_nodes (n h f a b : Nat) (hq : 840 / n = h) (hf : f < 20) (hab : a + b ≤ n) (hn : isNode (plN h n f a b) = true) : plN h n f a b ∈ nodes n := by
  subst hq
  unfold nodes nodesTo colTo rowTo
  simp only [List.mem_flatMap, List.mem_range, List.mem_filter, List.mem_map]
  exact ⟨f, hf, a, by omega, ⟨b, by omega, rfl⟩, hn⟩
theorem wt_dvd (h f a b c : Int) (ha : h ∣ a) (hb : h ∣ b) (hc : h ∣ c) (v : Nat) : h ∣ wt f a b c v := by
  unfold wt
  split
  · exact ha
  split
  · exact hb
  split
  · exact hc
  · exact Int.dvd_zero h
/-- The normal place of a valid place on the grid is a node. -/
theorem grid_node (n h : Nat) (h1 : 1 ≤ n) (hq : 840 / n = h) (hh : n * h = 840) (f a b c : Int) (hv : validB f a b c = true) (ha : (h : Int) ∣ a) (hb : (h : Int) ∣ b) (hc : (h : Int) ∣ c) :
    (⟨nf f a b c, nc f a b c 0, nc f a b c 1, nc f a b c 2⟩ : Pl) ∈ nodes n := by
  have hN := norm_valid f a b c hv
  have hI := isNode_norm f a b c hv
  obtain ⟨hn, _, _⟩ := nf_spec f a b c hv
  obtain ⟨x, hx⟩ := wt_dvd _ f a b c ha hb hc (cor (nf f a b c) 0)
  obtain ⟨y, hy⟩ := wt_dvd _ f a b c ha hb hc (cor (nf f a b c) 1)
  obtain ⟨z, hz⟩ := wt_dvd _ f a b c ha hb hc (cor (nf f a b c) 2)
  change nc f a b c 0 = _ at hx
  change nc f a b c 1 = _ at hy
  change nc f a b c 2 = _ at hz
  rw [hx, hy, hz] at hN hI ⊢
  obtain ⟨_, _, a0, _, b0, _, c0, _, hs⟩ := (validB_iff ..).1 hN
  have hpos : (0 : Int) < (h : Int) := by
    rcases Nat.eq_zero_or_pos h with e | e
    · subst e; omega
    · omega
  have x0 : 0 ≤ x := Int.nonneg_of_mul_nonneg_right a0 hpos
  have y0 : 0 ≤ y := Int.nonneg_of_mul_nonneg_right b0 hpos
  have z0 : 0 ≤ z := Int.nonneg_of_mul_nonneg_right c0 hpos
  have hxyz : x + y + z = (n : Int) := by
    have : (h : Int) * (x + y + z) = (h : Int) * (n : Int) := by
      rw [Int.mul_add, Int.mul_add, hs, ← Int.natCast_mul, Nat.mul_comm, hh]
      rfl
    exact Int.eq_of_mul_eq_mul_left (by omega) this
  obtain ⟨x, rfl⟩ := Int.eq_ofNat_of_zero_le x0
  obtain ⟨y, rfl⟩ := Int.eq_ofNat_of_zero_le y0
  have hz' : z = (n : Int) - x - y := by omega
  have hp : (⟨nf f a b c, h * (x : Int), h * (y : Int), h * z⟩ : Pl) = plN h n (nf f a b c) x y := by
    unfold plN
    rw [hz', Int.mul_comm (h : Int) x, Int.mul_comm (h : Int) y, Int.mul_comm (h : Int)]
  rw [hp] at hI ⊢
  exact mem_nodes n h _ _ _ hq hn (by omega) hI
end Go.Proofs.YtcoddcdiimpndaaGreatDoor
set_option linter.unusedVariables false
set_option linter.unusedSimpArgs false
namespace Go.Proofs.YtcoddcdiimpndaaGreatDoor
instance : Inhabited Pl := ⟨⟨0, 0, 0, 0⟩⟩
theorem bang_eq {α : Type} [Inhabited α] (l : List α) (i : Nat) (h : i < l.length) : l[i]! = l[i] := getElem!_pos l i h
/-- The index of p in l, -1 if it is not there. -/
def findI (l : List Pl) (p : Pl) : Int := if p ∈ l then (l.idxOf p : Nat) else -1
theorem idx_at_eq : ∀ (l : List Pl) (i : Nat), l.Nodup → ∀ h : i < l.length, l.idxOf (l[i]) = i
  | [], i, _, h => by simp at h
  | p :: l, i, hnd, h => by
    obtain ⟨hn, hnd'⟩ := List.nodup_cons.1 hnd
    cases i with
    | zero => simp [List.idxOf_cons]
    | succ i =>
      have h' : i < l.length := by simpa using h
      have ih := idx_at_eq l i hnd' h'
      have hne : (p == l[i]) = false := by
        rw [beq_eq_false_iff_ne]
        intro e
        exact hn (e ▸ List.getElem_mem h')
      simp only [List.getElem_cons_succ, List.idxOf_cons, hne, cond_false, ih]
theorem rise_lt {l : List Pl} (hr : l.Pairwise (fun p q => ltP p q = true)) (i j : Nat) (hij : i < j) (hj : j < l.length) : ltP l[i]! l[j]! = true := by
  rw [bang_eq l i (by omega), bang_eq l j hj]
  exact List.pairwise_iff_getElem.1 hr i j (by omega) hj hij
theorem rise_nodup {l : List Pl} (hr : l.Pairwise (fun p q => ltP p q = true)) : l.Nodup :=
  hr.imp (fun {p q} h e => by subst e; rw [ltP_irrefl] at h; cases h)
theorem find_hit {l : List Pl} (hr : l.Pairwise (fun p q => ltP p q = true)) (p : Pl) (i : Nat) (hi : i < l.length) (h : l[i]! = p) : findI l p = i := by
  have hm : p ∈ l := by rw [← h, bang_eq l i hi]; exact List.getElem_mem hi
  have := idx_at_eq l i (rise_nodup hr) hi
  rw [← bang_eq l i hi, h] at this
  unfold findI
  rw [if_pos hm, this]
theorem find_miss {l : List Pl} (hr : l.Pairwise (fun p q => ltP p q = true)) (p : Pl) (lo : Nat) (h1 : ∀ i, i < lo → i < l.length → ltP l[i]! p = true) (h2 : ∀ i, lo ≤ i → i < l.length → ltP l[i]! p = false) (h3 : ∀ _ : lo < l.length, l[lo]! ≠ p) : findI l p = -1 := by
  have hm : p ∉ l := by
    intro hm
    obtain ⟨j, hj, he⟩ := List.getElem_of_mem hm
    rw [← bang_eq l j hj] at he
    rcases Nat.lt_trichotomy j lo with h | h | h
    · have := h1 j h hj
      rw [he, ltP_irrefl] at this
      cases this
    · subst h
      exact h3 hj he
    · have h4 := rise_lt hr lo j h hj
      have h5 := h2 lo (Nat.le_refl _) (by omega)
      rw [he, h5] at h4
      cases h4
  unfold findI
  rw [if_neg hm]
/-- What a step of the search keeps. -/
theorem find_up {l : List Pl} (hr : l.Pairwise (fun p q => ltP p q = true)) (p : Pl) (m : Nat) (hm : m < l.length) (h : ltP l[m]! p = true) (i : Nat) (hi : i < m + 1) : ltP l[i]! p = true := by
  rcases Nat.lt_or_ge i m with h1 | h1
  · exact ltP_trans (rise_lt hr i m h1 hm) h
  · obtain rfl : i = m := by omega
    exact h
theorem find_down {l : List Pl} (hr : l.Pairwise (fun p q => ltP p q = true)) (p : Pl) (m : Nat) (h : ltP l[m]! p = false) (i : Nat) (hi : m ≤ i) (hl : i < l.length) : ltP l[i]! p = false := by
  rcases Nat.lt_or_ge m i with h1 | h1
  · have h2 := rise_lt hr m i h1 hl
    cases h3 : ltP l[i]! p
    · rfl
    · rw [ltP_trans h2 h3] at h
      cases h
  · obtain rfl : i = m := by omega
    exact h
end Go.Proofs.YtcoddcdiimpndaaGreatDoor
set_option linter.unusedVariables false
set_option linter.unusedSimpArgs false
namespace Go.Proofs.YtcoddcdiimpndaaGreatDoor
open Go.RowKit

set_option maxHeartbeats 8000000 in
theorem corners2_any (n : Nat) (hn : n < 20) (w : World) : Calls Tryz.prog 61 #[.int .i64 n] w fun e w' =>
    e = .returned (.tuple #[.agg #[.int .i64 (cor n 0 : Nat), .int .i64 (cor n 1 : Nat), .int .i64 (cor n 2 : Nat)], .int .i64 0]) ∧ w.alloc (.cells #[.int .i64 (cor n 0 : Nat), .int .i64 (cor n 1 : Nat), .int .i64 (cor n 2 : Nat)] 97) = w' := by
  have h20 : n = 0 ∨ n = 1 ∨ n = 2 ∨ n = 3 ∨ n = 4 ∨ n = 5 ∨ n = 6 ∨ n = 7 ∨ n = 8 ∨ n = 9 ∨ n = 10 ∨ n = 11 ∨ n = 12 ∨ n = 13 ∨ n = 14 ∨ n = 15 ∨ n = 16 ∨ n = 17 ∨ n = 18 ∨ n = 19 := by omega
  clear hn
  rcases h20 with rfl | rfl | rfl | rfl | rfl | rfl | rfl | rfl | rfl | rfl | rfl | rfl | rfl | rfl | rfl | rfl | rfl | rfl | rfl | rfl
  all_goals
    go_enter Tryz.func61, Tryz.ntmps61
    go_wp2
    refine bodyPost_ret (by simp [results, Tryz.results61, go_sem]; decide) rfl ⟨rfl, rfl⟩

set_option maxHeartbeats 2000000 in
theorem valid2_any (f a b c : Int) (w : World) : Calls Tryz.prog 62 #[.agg #[.int .i64 f, .int .i64 a, .int .i64 b, .int .i64 c]] w fun e w' => e = .returned (.bool (validB f a b c)) ∧ Below w.heap.size w w' := by
  go_enter Tryz.func62, Tryz.ntmps62
  go_wp2
  all_goals go_ret
  all_goals
    refine ⟨ret_bool ?_, (Below.refl _ _).alloc (Nat.le_refl _) _⟩
    unfold validB
    rw [Bool.eq_iff_iff]
    simp only [decide_eq_true_eq, beq_iff_eq, Bool.false_eq_true, false_iff]
    omega

set_option maxHeartbeats 2000000 in
theorem weights_core (n : Nat) (hn : n < 20) (c0 c1 c2 : Nat) (k0 : c0 < 12) (k1 : c1 < 12) (k2 : c2 < 12) (n1 : c0 ≠ c1) (n2 : c0 ≠ c2) (n3 : c1 ≠ c2) (a b c : Int) (w : World)
    (hcor : ∀ W : World, Calls Tryz.prog 61 #[.int .i64 n] W fun e w' => e = .returned (.tuple #[.agg #[.int .i64 c0, .int .i64 c1, .int .i64 c2], .int .i64 0]) ∧ W.alloc (.cells #[.int .i64 c0, .int .i64 c1, .int .i64 c2] 97) = w')
    (Y : Nat → Int) (hY : ∀ j, j < 12 → ∀ h, (((([.int .i64 0, .int .i64 0, .int .i64 0, .int .i64 0, .int .i64 0, .int .i64 0, .int .i64 0, .int .i64 0, .int .i64 0, .int .i64 0, .int .i64 0, .int .i64 0] : List Value).set c0 (.int .i64 a)).set c1 (.int .i64 b)).set c2 (.int .i64 c))[j]'h = .int .i64 (Y j)) :
    Calls Tryz.prog 28 #[.agg #[.int .i64 n, .int .i64 a, .int .i64 b, .int .i64 c]] w fun e w' =>
      e = .returned (.agg #[.int .i64 (Y 0), .int .i64 (Y 1), .int .i64 (Y 2), .int .i64 (Y 3), .int .i64 (Y 4), .int .i64 (Y 5), .int .i64 (Y 6), .int .i64 (Y 7), .int .i64 (Y 8), .int .i64 (Y 9), .int .i64 (Y 10), .int .i64 (Y 11)]) ∧ Below w.heap.size w w' := by
  have m0 : (c0 : Int) < 12 := by omega
  have m1 : (c1 : Int) < 12 := by omega
  have m2 : (c2 : Int) < 12 := by omega
  have HC := Lib.hid hcor
  have y0 := hY 0 (by omega)
  have y1 := hY 1 (by omega)
  have y2 := hY 2 (by omega)
  have y3 := hY 3 (by omega)
  have y4 := hY 4 (by omega)
  have y5 := hY 5 (by omega)
  have y6 := hY 6 (by omega)
  have y7 := hY 7 (by omega)
  have y8 := hY 8 (by omega)
  have y9 := hY 9 (by omega)
  have y10 := hY 10 (by omega)
  have y11 := hY 11 (by omega)
  clear hY hcor
  go_enter Tryz.func28, Tryz.ntmps28
  go_wp2_with fail
  refine (HC.out _).mono ?_
  rintro e w1 ⟨rfl, rfl⟩
  go_wp2
  go_region
  go_wp2
  refine bodyPost_ret (v := .agg #[.int .i64 (Y 0), .int .i64 (Y 1), .int .i64 (Y 2), .int .i64 (Y 3), .int .i64 (Y 4), .int .i64 (Y 5), .int .i64 (Y 6), .int .i64 (Y 7), .int .i64 (Y 8), .int .i64 (Y 9), .int .i64 (Y 10), .int .i64 (Y 11)]) (by simp [results, Tryz.results28, go_sem]) rfl ⟨rfl, ?_⟩
  refine Below.drew ?_
  repeat (first | refine below_alloc ?_ _ | refine Below.drew ?_)
  exact Below.refl _ _

theorem weights_any (f a b c : Int) (hf0 : 0 ≤ f) (hf1 : f < 20) (w : World) :
    Calls Tryz.prog 28 #[.agg #[.int .i64 f, .int .i64 a, .int .i64 b, .int .i64 c]] w fun e w' =>
      e = .returned (.agg #[.int .i64 (wt f a b c 0), .int .i64 (wt f a b c 1), .int .i64 (wt f a b c 2), .int .i64 (wt f a b c 3), .int .i64 (wt f a b c 4), .int .i64 (wt f a b c 5), .int .i64 (wt f a b c 6), .int .i64 (wt f a b c 7), .int .i64 (wt f a b c 8), .int .i64 (wt f a b c 9), .int .i64 (wt f a b c 10), .int .i64 (wt f a b c 11)]) ∧ Below w.heap.size w w' := by
  obtain ⟨n, rfl⟩ := Int.eq_ofNat_of_zero_le hf0
  have hn : n < 20 := by omega
  obtain ⟨k0, k1, k2, n1, n2, n3⟩ := cor_lt n hn
  refine weights_core n hn _ _ _ k0 k1 k2 n1 n2 n3 a b c w (corners2_any n hn) (wt n a b c) ?_
  intro j hj h
  rw [set12 _ _ _ k0 k1 k2 a b c j hj h]
  unfold wt
  rw [show Int.toNat (n : Int) = n from rfl]
  by_cases h0 : j = cor n 0
  · rw [if_pos h0, if_neg (by omega), if_neg (by omega), if_pos h0]
  · rw [if_neg h0, if_neg h0]
    by_cases h1 : j = cor n 1
    · rw [if_pos h1, if_neg (by omega), if_pos h1]
    · rw [if_neg h1, if_neg h1]
end Go.Proofs.YtcoddcdiimpndaaGreatDoor
