/-
  The sorted shares of a place are the entered ones.
  The law of Locate: the nodes' shares, as both programs reckon them.
-/
import Derived.Test.YtcoddcdiimpndaaGreatDoorM21
import Derived.Test.YtcoddcdiimpndaaGreatDoorM17
import Derived.Test.YtcoddcdiimpndaaGreatDoorM10
set_option linter.unusedVariables false
set_option linter.unusedSimpArgs false
namespace Go.Proofs.YtcoddcdiimpndaaGreatDoor
open Go.RowKit Go.Sort
def okSh (s : Sh) : Prop := 0 ≤ s.node ∧ s.node ≤ 1000000
theorem lt_node {x y : Sh} (hx : okSh x) (hy : okSh y) : ltOf cmpS x y = decide (x.node < y.node) := by
  unfold ltOf cmpS
  obtain ⟨a, b⟩ := hx
  obtain ⟨c, d⟩ := hy
  have e : IntKind.i64.wrap (x.node - y.node) = x.node - y.node := IntWalk.i64_in _ (by omega)
  rw [e]
  rw [Bool.eq_iff_iff]
  simp only [decide_eq_true_eq]
  omega
theorem sort1 (x : Sh) : sortS [x] = [x] := by
  simp [sortS, Sort.insertionSort, Sort.insOuter]
theorem sort0 : sortS [] = [] := by
  simp [sortS, Sort.insertionSort, Sort.insOuter]
theorem sort2 (x y : Sh) (hx : okSh x) (hy : okSh y) : sortS [x, y] = if y.node < x.node then [y, x] else [x, y] := by
  have h := lt_node hy hx
  by_cases hlt : y.node < x.node
  · rw [if_pos hlt]
    simp [hlt] at h
    unfold sortS Sort.insertionSort
    rw [Sort.insOuter, if_pos (by simp)]
    rw [Sort.insOuter, if_neg (by simp)]
    simp [Sort.insInner, h, swp]
  · rw [if_neg hlt]
    simp [hlt] at h
    unfold sortS Sort.insertionSort
    rw [Sort.insOuter, if_pos (by simp)]
    rw [Sort.insOuter, if_neg (by simp)]
    simp [Sort.insInner, h]
theorem sort3 (x y z : Sh) (hx : okSh x) (hy : okSh y) (hz : okSh z) : sortS [x, y, z] = ins (ins [x] y) z ∨ x.node = y.node ∨ x.node = z.node ∨ y.node = z.node := by
  have h1 := lt_node hy hx
  have h2 := lt_node hz hx
  have h3 := lt_node hz hy
  unfold sortS Sort.insertionSort
  rw [show ([x, y, z] : List Sh).toArray = #[x, y, z] from rfl, show ([x, y, z] : List Sh).length = 3 from rfl]
  rw [Sort.insOuter, if_pos (by omega)]
  rw [Sort.insOuter, if_pos (by omega)]
  rw [Sort.insOuter, if_neg (by omega)]
  rcases Int.lt_trichotomy y.node x.node with a | a | a
  · rcases Int.lt_trichotomy z.node x.node with b | b | b
    · rcases Int.lt_trichotomy z.node y.node with c | c | c
      · simp [a, b, c] at h1 h2 h3
        left
        have a' : ¬ x.node < y.node := by omega
        have c' : ¬ y.node < z.node := by omega
        simp [Sort.insInner, h1, h2, h3, swp, ins, a, b, c, a', c']
      · right; right; right; omega
      · simp [a, b, Int.le_of_lt c, Int.not_lt.2 (Int.le_of_lt c)] at h1 h2 h3
        left
        have c' : ¬ x.node < y.node := by omega
        have c'' : ¬ x.node < z.node := by omega
        simp [Sort.insInner, h1, h2, h3, swp, ins, a, b, c, c', c'']
    · right; right; left; omega
    · have c : ¬ z.node < y.node := by omega
      have b' : ¬ z.node < x.node := by omega
      have c2 : y.node < z.node := by omega
      have a' : ¬ x.node < y.node := by omega
      simp [a, b', c] at h1 h2 h3
      left
      simp [Sort.insInner, h1, h2, h3, swp, ins, a, b, c, c2, a']
  · right; left; omega
  · have a' : ¬ y.node < x.node := by omega
    rcases Int.lt_trichotomy z.node y.node with c | c | c
    · rcases Int.lt_trichotomy z.node x.node with b | b | b
      · simp [a', b, c] at h1 h2 h3
        left
        have b' : ¬ x.node < z.node := by omega
        have c' : ¬ y.node < z.node := by omega
        simp [Sort.insInner, h1, h2, h3, swp, ins, a, b, c, b', c']
      · right; right; left; omega
      · have b' : ¬ z.node < x.node := by omega
        have c' : ¬ y.node < z.node := by omega
        simp [a', b', c] at h1 h2 h3
        left
        simp [Sort.insInner, h1, h2, h3, swp, ins, a, b, c, c']
    · right; right; right; omega
    · have c' : ¬ z.node < y.node := by omega
      have b : x.node < z.node := by omega
      simp [a', c', show ¬ z.node < x.node by omega] at h1 h2 h3
      left
      simp [Sort.insInner, h1, h2, h3, swp, ins, a, b, c]
/-- Three corners with their weights: entered one after the other, and sorted. -/
theorem three_sorted (n0 n1 n2 w0 w1 w2 : Int) (h0 : 0 ≤ n0 ∧ n0 ≤ 1000000) (h1 : 0 ≤ n1 ∧ n1 ≤ 1000000) (h2 : 0 ≤ n2 ∧ n2 ≤ 1000000) (d1 : n0 ≠ n1) (d2 : n0 ≠ n2) (d3 : n1 ≠ n2) (p0 : 0 ≤ w0) (p1 : 0 ≤ w1) (p2 : 0 ≤ w2) :
    shareL (shareL (shareL [] n0 w0) n1 w1) n2 w2 = sortS ((([] ++ if 0 < w0 then [⟨n0, w0⟩] else []) ++ if 0 < w1 then [⟨n1, w1⟩] else []) ++ if 0 < w2 then [⟨n2, w2⟩] else []) := by
  have k0 : okSh ⟨n0, w0⟩ := h0
  have k1 : okSh ⟨n1, w1⟩ := h1
  have k2 : okSh ⟨n2, w2⟩ := h2
  have t2 : ∀ (a b : Sh), okSh a → okSh b → a.node ≠ b.node → sortS [a, b] = ins [a] b := by
    intro a b ha hb hne
    rw [sort2 a b ha hb]
    simp only [ins]
    by_cases h : b.node < a.node
    · rw [if_pos h, if_neg (by omega)]
    · rw [if_neg h, if_pos (by omega)]
  by_cases c0 : w0 = 0 <;> by_cases c1 : w1 = 0 <;> by_cases c2 : w2 = 0
  all_goals
    simp only [shareL]
    first | rw [if_pos c0] | rw [if_neg c0]
    first | rw [if_pos c1] | rw [if_neg c1]
    first | rw [if_pos c2] | rw [if_neg c2]
    first | rw [if_neg (show ¬ 0 < w0 by omega)] | rw [if_pos (show 0 < w0 by omega)]
    first | rw [if_neg (show ¬ 0 < w1 by omega)] | rw [if_pos (show 0 < w1 by omega)]
    first | rw [if_neg (show ¬ 0 < w2 by omega)] | rw [if_pos (show 0 < w2 by omega)]
    simp only [List.nil_append, List.append_nil, List.singleton_append, List.cons_append]
    first
      | exact sort0.symm
      | (rw [sort1]; rfl)
      | (rw [t2 _ _ (by assumption) (by assumption) (by assumption)]; rfl)
      | (rcases sort3 _ _ _ k0 k1 k2 with h | h | h | h
         · rw [h]; rfl
         · exact absurd h d1
         · exact absurd h d2
         · exact absurd h d3)
end Go.Proofs.YtcoddcdiimpndaaGreatDoor
set_option linter.unusedVariables false
set_option linter.unusedSimpArgs false
namespace Go.Proofs.YtcoddcdiimpndaaGreatDoor
open Go.RowKit
theorem findI_mem {l : List Pl} {p : Pl} (h : p ∈ l) : findI l p = ((ix l p : Nat) : Int) := by simp [findI, ix, h]
theorem ix_lt {l : List Pl} {p : Pl} (h : p ∈ l) : ix l p < l.length := by
  unfold ix
  rw [if_pos h]
  exact List.idxOf_lt_length_of_mem h
theorem ix_inj {l : List Pl} {p q : Pl} (hp : p ∈ l) (hq : q ∈ l) (h : ix l p = ix l q) : p = q := by
  unfold ix at h
  rw [if_pos hp, if_pos hq] at h
  have h1 := List.getElem_idxOf (List.idxOf_lt_length_of_mem hp)
  have h2 := List.getElem_idxOf (List.idxOf_lt_length_of_mem hq)
  rw [← h1, ← h2]
  simp only [h]
/-- What a coordinate and its remainder are. -/
theorem rem_facts (a : Int) (h n : Nat) (hh : n * h = 840) (hn : 1 ≤ n) (h0 : 0 ≤ a) (h1 : a ≤ 840) :
    0 ≤ a / (h : Int) ∧ a / (h : Int) ≤ 840 ∧ 0 ≤ a / (h : Int) * (h : Int) ∧ a / (h : Int) * (h : Int) ≤ a ∧ a - a / (h : Int) * (h : Int) = a % (h : Int) ∧ (n : Int) * (a - a / (h : Int) * (h : Int)) = a % (h : Int) * (n : Int) ∧ (h : Int) ∣ a / (h : Int) * (h : Int) ∧ a - a % (h : Int) = a / (h : Int) * (h : Int) := by
  have hp : 0 < h := Nat.pos_of_ne_zero (fun e => by rw [e, Nat.mul_zero] at hh; exact absurd hh (by decide))
  have e0 := Int.emod_nonneg a (show (h : Int) ≠ 0 by omega)
  have e1 := Int.mul_ediv_add_emod a h
  have e2 : a / (h : Int) * (h : Int) = (h : Int) * (a / (h : Int)) := Int.mul_comm _ _
  have e3 : 0 ≤ a / (h : Int) := Int.ediv_nonneg h0 (by omega)
  have e4 : a / (h : Int) ≤ a := Int.ediv_le_self _ h0
  have e5 : 0 ≤ a / (h : Int) * (h : Int) := Int.mul_nonneg e3 (by omega)
  have e6 : a - a / (h : Int) * (h : Int) = a % (h : Int) := by omega
  exact ⟨e3, by omega, e5, by omega, e6, by rw [e6, Int.mul_comm], ⟨a / (h : Int), e2⟩, by omega⟩
section
variable (n h : Nat) (h1 : 1 ≤ n) (h8 : n ≤ 8) (hq : 840 / n = h) (hh : n * h = 840) (f : Int)
/-- The index of a place of face f. -/
def atF (f x y z : Int) : Int := findI (nodes n) (normPl f x y z)
include h1 h8 hq hh
theorem corner_at (x y z : Int) (hv : validB f x y z = true) (hx : (h : Int) ∣ x) (hy : (h : Int) ∣ y) (hz : (h : Int) ∣ z) : normPl f x y z ∈ nodes n ∧ atF n f x y z = ((ix (nodes n) (normPl f x y z) : Nat) : Int) ∧ 0 ≤ atF n f x y z ∧ atF n f x y z ≤ 1000000 := by
  have hm : normPl f x y z ∈ nodes n := grid_node n h h1 hq hh f x y z hv hx hy hz
  have he := findI_mem hm
  have hl := ix_lt hm
  have hn := (nodes_len n h1 h8).2
  refine ⟨hm, he, ?_, ?_⟩ <;> (unfold atF; rw [he]; omega)
theorem corner_ne (x y z x' y' z' : Int) (hv : validB f x y z = true) (hv' : validB f x' y' z' = true) (hx : (h : Int) ∣ x) (hy : (h : Int) ∣ y) (hz : (h : Int) ∣ z) (hx' : (h : Int) ∣ x') (hy' : (h : Int) ∣ y') (hz' : (h : Int) ∣ z') (hne : ¬ (x = x' ∧ y = y' ∧ z = z')) : atF n f x y z ≠ atF n f x' y' z' := by
  obtain ⟨m1, e1, _⟩ := corner_at n h h1 h8 hq hh f x y z hv hx hy hz
  obtain ⟨m2, e2, _⟩ := corner_at n h h1 h8 hq hh f x' y' z' hv' hx' hy' hz'
  rw [e1, e2]
  intro e
  have e := ix_inj m1 m2 (by omega)
  unfold normPl at e
  injection e with a0 a1 a2 a3
  refine hne (norm_inj f x y z x' y' z' hv hv' (by omega) ?_)
  intro i hi
  have : i = 0 ∨ i = 1 ∨ i = 2 := by omega
  rcases this with rfl | rfl | rfl <;> assumption
theorem loc_zero (a b c : Int) (hv : validB f a b c = true) (hs : a % (h : Int) * (n : Int) + b % (h : Int) * (n : Int) + c % (h : Int) * (n : Int) = 0) : shareL [] (atF n f a b c) 840 = locS (nodes n) h n f a b c := by
  obtain ⟨hf0, hf1, ha0, ha1, hb0, hb1, hc0, hc1, hsum⟩ := (validB_iff ..).1 hv
  have qa := mod_facts a h n hh h1 ha0 ha1
  have qb := mod_facts b h n hh h1 hb0 hb1
  have qc := mod_facts c h n hh h1 hc0 hc1
  have hz : ∀ x : Int, x * (n : Int) = 0 → x = 0 := fun x hx => by
    rcases Int.mul_eq_zero.1 hx with h | h
    · exact h
    · omega
  obtain ⟨hm, he, _⟩ := corner_at n h h1 h8 hq hh f a b c hv (Int.dvd_of_emod_eq_zero (hz _ (by omega))) (Int.dvd_of_emod_eq_zero (hz _ (by omega))) (Int.dvd_of_emod_eq_zero (hz _ (by omega)))
  simp only [locS]
  rw [if_pos hs, he]
  rfl
theorem loc_up (a b c : Int) (hv : validB f a b c = true) (ra rb rc : Int) (hra : ra = a / (h : Int) * (h : Int)) (hrb : rb = b / (h : Int) * (h : Int)) (hrc : rc = c / (h : Int) * (h : Int)) (hs : a % (h : Int) * (n : Int) + b % (h : Int) * (n : Int) + c % (h : Int) * (n : Int) = 840) :
    validB f (ra + h) rb rc = true ∧ validB f ra (rb + h) rc = true ∧ validB f ra rb (rc + h) = true ∧
    shareL (shareL (shareL [] (atF n f (ra + h) rb rc) (a % (h : Int) * (n : Int))) (atF n f ra (rb + h) rc) (b % (h : Int) * (n : Int))) (atF n f ra rb (rc + h)) (c % (h : Int) * (n : Int)) = locS (nodes n) h n f a b c := by
  obtain ⟨hf0, hf1, ha0, ha1, hb0, hb1, hc0, hc1, hsum⟩ := (validB_iff ..).1 hv
  have hp : 0 < h := Nat.pos_of_ne_zero (fun e => by rw [e, Nat.mul_zero] at hh; exact absurd hh (by decide))
  have qa := mod_facts a h n hh h1 ha0 ha1
  have qb := mod_facts b h n hh h1 hb0 hb1
  have qc' := mod_facts c h n hh h1 hc0 hc1
  obtain ⟨_, _, sa0, sa1, _, _, da, ea⟩ := rem_facts a h n hh h1 ha0 ha1
  obtain ⟨_, _, sb0, sb1, _, _, db, eb⟩ := rem_facts b h n hh h1 hb0 hb1
  obtain ⟨_, _, sc0, sc1, _, _, dc, ec⟩ := rem_facts c h n hh h1 hc0 hc1
  rw [← hra] at sa0 sa1 da ea
  rw [← hrb] at sb0 sb1 db eb
  rw [← hrc] at sc0 sc1 dc ec
  have hrem : a % (h : Int) + b % (h : Int) + c % (h : Int) = h := by
    have e1 : (a % (h : Int) + b % (h : Int) + c % (h : Int)) * (n : Int) = (h : Int) * (n : Int) := by
      rw [Int.add_mul, Int.add_mul, hs, Int.mul_comm, ← Int.natCast_mul, hh]; rfl
    exact Int.eq_of_mul_eq_mul_right (by omega) e1
  have dh : (h : Int) ∣ (h : Int) := Int.dvd_refl _
  have v0 : validB f (ra + h) rb rc = true := by rw [validB_iff]; omega
  have v1 : validB f ra (rb + h) rc = true := by rw [validB_iff]; omega
  have v2 : validB f ra rb (rc + h) = true := by rw [validB_iff]; omega
  refine ⟨v0, v1, v2, ?_⟩
  have da' := Int.dvd_add da dh
  have db' := Int.dvd_add db dh
  have dc' := Int.dvd_add dc dh
  obtain ⟨_, e0, b0, b0'⟩ := corner_at n h h1 h8 hq hh f (ra + h) rb rc v0 da' db dc
  obtain ⟨_, e1, b1, b1'⟩ := corner_at n h h1 h8 hq hh f ra (rb + h) rc v1 da db' dc
  obtain ⟨_, e2, b2, b2'⟩ := corner_at n h h1 h8 hq hh f ra rb (rc + h) v2 da db dc'
  have n0 := corner_ne n h h1 h8 hq hh f _ _ _ _ _ _ v0 v1 da' db dc da db' dc (by omega)
  have n1 := corner_ne n h h1 h8 hq hh f _ _ _ _ _ _ v0 v2 da' db dc da db dc' (by omega)
  have n2 := corner_ne n h h1 h8 hq hh f _ _ _ _ _ _ v1 v2 da db' dc da db dc' (by omega)
  have hR : locS (nodes n) h n f a b c = sortS (rawTo (nodes n) f (qc true h ra 0) (qc true h rb 1) (qc true h rc 2) (lw true (a % (h : Int) * (n : Int)) (b % (h : Int) * (n : Int)) (c % (h : Int) * (n : Int))) 3) := by
    simp only [locS]
    rw [if_neg (by omega), decide_eq_true hs, ea, eb, ec]
  rw [three_sorted _ _ _ _ _ _ ⟨b0, b0'⟩ ⟨b1, b1'⟩ ⟨b2, b2'⟩ n0 n1 n2 qa.2.2.1 qb.2.2.1 qc'.2.2.1, hR, e0, e1, e2]
  simp only [rawTo, qc, lw]
  simp
theorem loc_down (a b c : Int) (hv : validB f a b c = true) (ra rb rc : Int) (hra : ra = a / (h : Int) * (h : Int)) (hrb : rb = b / (h : Int) * (h : Int)) (hrc : rc = c / (h : Int) * (h : Int)) (hs0 : a % (h : Int) * (n : Int) + b % (h : Int) * (n : Int) + c % (h : Int) * (n : Int) ≠ 0) (hs : a % (h : Int) * (n : Int) + b % (h : Int) * (n : Int) + c % (h : Int) * (n : Int) ≠ 840) :
    validB f ra (rb + h) (rc + h) = true ∧ validB f (ra + h) rb (rc + h) = true ∧ validB f (ra + h) (rb + h) rc = true ∧
    shareL (shareL (shareL [] (atF n f ra (rb + h) (rc + h)) (840 - a % (h : Int) * (n : Int))) (atF n f (ra + h) rb (rc + h)) (840 - b % (h : Int) * (n : Int))) (atF n f (ra + h) (rb + h) rc) (840 - c % (h : Int) * (n : Int)) = locS (nodes n) h n f a b c := by
  obtain ⟨hf0, hf1, ha0, ha1, hb0, hb1, hc0, hc1, hsum⟩ := (validB_iff ..).1 hv
  have hp : 0 < h := Nat.pos_of_ne_zero (fun e => by rw [e, Nat.mul_zero] at hh; exact absurd hh (by decide))
  have qa := mod_facts a h n hh h1 ha0 ha1
  have qb := mod_facts b h n hh h1 hb0 hb1
  have qc' := mod_facts c h n hh h1 hc0 hc1
  obtain ⟨_, _, sa0, sa1, _, _, da, ea⟩ := rem_facts a h n hh h1 ha0 ha1
  obtain ⟨_, _, sb0, sb1, _, _, db, eb⟩ := rem_facts b h n hh h1 hb0 hb1
  obtain ⟨_, _, sc0, sc1, _, _, dc, ec⟩ := rem_facts c h n hh h1 hc0 hc1
  rw [← hra] at sa0 sa1 da ea
  rw [← hrb] at sb0 sb1 db eb
  rw [← hrc] at sc0 sc1 dc ec
  have hrem : a % (h : Int) + b % (h : Int) + c % (h : Int) = 2 * h := by
    have e1 : a % (h : Int) * (n : Int) + b % (h : Int) * (n : Int) + c % (h : Int) * (n : Int) = (a % (h : Int) + b % (h : Int) + c % (h : Int)) * (n : Int) := by rw [Int.add_mul, Int.add_mul]
    rcases mod_cases a b c h n hh h1 hsum ha0 hb0 hc0 with hr | hr | hr
    · rw [hr, Int.zero_mul] at e1
      exact absurd e1 hs0
    · rw [hr, Int.mul_comm (h : Int) (n : Int), ← Int.natCast_mul, hh] at e1
      exact absurd e1 hs
    · exact hr
  have dh : (h : Int) ∣ (h : Int) := Int.dvd_refl _
  have v0 : validB f ra (rb + h) (rc + h) = true := by rw [validB_iff]; omega
  have v1 : validB f (ra + h) rb (rc + h) = true := by rw [validB_iff]; omega
  have v2 : validB f (ra + h) (rb + h) rc = true := by rw [validB_iff]; omega
  refine ⟨v0, v1, v2, ?_⟩
  have da' := Int.dvd_add da dh
  have db' := Int.dvd_add db dh
  have dc' := Int.dvd_add dc dh
  obtain ⟨_, e0, b0, b0'⟩ := corner_at n h h1 h8 hq hh f ra (rb + h) (rc + h) v0 da db' dc'
  obtain ⟨_, e1, b1, b1'⟩ := corner_at n h h1 h8 hq hh f (ra + h) rb (rc + h) v1 da' db dc'
  obtain ⟨_, e2, b2, b2'⟩ := corner_at n h h1 h8 hq hh f (ra + h) (rb + h) rc v2 da' db' dc
  have n0 := corner_ne n h h1 h8 hq hh f _ _ _ _ _ _ v0 v1 da db' dc' da' db dc' (by omega)
  have n1 := corner_ne n h h1 h8 hq hh f _ _ _ _ _ _ v0 v2 da db' dc' da' db' dc (by omega)
  have n2 := corner_ne n h h1 h8 hq hh f _ _ _ _ _ _ v1 v2 da' db dc' da' db' dc (by omega)
  have hR : locS (nodes n) h n f a b c = sortS (rawTo (nodes n) f (qc false h ra 0) (qc false h rb 1) (qc false h rc 2) (lw false (a % (h : Int) * (n : Int)) (b % (h : Int) * (n : Int)) (c % (h : Int) * (n : Int))) 3) := by
    simp only [locS]
    rw [if_neg hs0, decide_eq_false hs, ea, eb, ec]
  rw [three_sorted _ _ _ _ _ _ ⟨b0, b0'⟩ ⟨b1, b1'⟩ ⟨b2, b2'⟩ n0 n1 n2 (by omega) (by omega) (by omega), hR, e0, e1, e2]
  simp only [rawTo, qc, lw]
  simp
end
end Go.Proofs.YtcoddcdiimpndaaGreatDoor
