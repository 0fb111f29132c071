/-
  The law of Locate: the nodes' shares, as both programs reckon them.
-/
import Derived.Test.YtcoddcdiimpndaaDoorPv9
import Derived.Test.YtcoddcdiimpndaaDoorPa7
import Derived.Test.YtcoddcdiimpndaaDoorPw11
set_option linter.unusedVariables false
set_option linter.unusedSimpArgs false
namespace Go.Proofs.YtcoddcdiimpndaaDoor
open Go.RowKit
theorem findI_mem {l : List Pl} {p : Pl} (h : p ∈ l) : findI l p = ((ix l p : Nat) : Int) := by simp [findI, ix, h]
theorem ix_lt {l : List Pl} {p : Pl} (h : p ∈ l) : ix l p < l.length := by
  unfold ix
  rw [if_pos h]
  exact List.idxOf_lt_length_of_mem h
theorem ix_inj {l : List Pl} {p q : Pl} (hp : p ∈ l) (hq : q ∈ l) (h : ix l p = ix l q) : p = q := by
  unfold ix at h
  rw [if_pos hp, if_pos hq] at h
  have h1 := List.getElem_idxOf (List.idxOf_lt_length_of_mem hp)
  have h2 := List.getElem_idxOf (List.idxOf_lt_length_of_mem hq)
  rw [← h1, ← h2]
  simp only [h]
/-- What a coordinate and its remainder are. -/
theorem rem_facts (a : Int) (h n : Nat) (hh : n * h = 840) (hn : 1 ≤ n) (h0 : 0 ≤ a) (h1 : a ≤ 840) :
    0 ≤ a / (h : Int) ∧ a / (h : Int) ≤ 840 ∧ 0 ≤ a / (h : Int) * (h : Int) ∧ a / (h : Int) * (h : Int) ≤ a ∧ a - a / (h : Int) * (h : Int) = a % (h : Int) ∧ (n : Int) * (a - a / (h : Int) * (h : Int)) = a % (h : Int) * (n : Int) ∧ (h : Int) ∣ a / (h : Int) * (h : Int) ∧ a - a % (h : Int) = a / (h : Int) * (h : Int) := by
  have hp : 0 < h := Nat.pos_of_ne_zero (fun e => by rw [e, Nat.mul_zero] at hh; exact absurd hh (by decide))
  have e0 := Int.emod_nonneg a (show (h : Int) ≠ 0 by omega)
  have e1 := Int.mul_ediv_add_emod a h
  have e2 : a / (h : Int) * (h : Int) = (h : Int) * (a / (h : Int)) := Int.mul_comm _ _
  have e3 : 0 ≤ a / (h : Int) := Int.ediv_nonneg h0 (by omega)
  have e4 : a / (h : Int) ≤ a := Int.ediv_le_self _ h0
  have e5 : 0 ≤ a / (h : Int) * (h : Int) := Int.mul_nonneg e3 (by omega)
  have e6 : a - a / (h : Int) * (h : Int) = a % (h : Int) := by omega
  exact ⟨e3, by omega, e5, by omega, e6, by rw [e6, Int.mul_comm], ⟨a / (h : Int), e2⟩, by omega⟩
section
variable (n h : Nat) (h1 : 1 ≤ n) (h8 : n ≤ 8) (hq : 840 / n = h) (hh : n * h = 840) (f : Int)
/-- The index of a place of face f. -/
def atF (f x y z : Int) : Int := findI (nodes n) (normPl f x y z)
include h1 h8 hq hh
theorem corner_at (x y z : Int) (hv : validB f x y z = true) (hx : (h : Int) ∣ x) (hy : (h : Int) ∣ y) (hz : (h : Int) ∣ z) : normPl f x y z ∈ nodes n ∧ atF n f x y z = ((ix (nodes n) (normPl f x y z) : Nat) : Int) ∧ 0 ≤ atF n f x y z ∧ atF n f x y z ≤ 1000000 := by
  have hm : normPl f x y z ∈ nodes n := grid_node n h h1 hq hh f x y z hv hx hy hz
  have he := findI_mem hm
  have hl := ix_lt hm
  have hn := (nodes_len n h1 h8).2
  refine ⟨hm, he, ?_, ?_⟩ <;> (unfold atF; rw [he]; omega)
theorem corner_ne (x y z x' y' z' : Int) (hv : validB f x y z = true) (hv' : validB f x' y' z' = true) (hx : (h : Int) ∣ x) (hy : (h : Int) ∣ y) (hz : (h : Int) ∣ z) (hx' : (h : Int) ∣ x') (hy' : (h : Int) ∣ y') (hz' : (h : Int) ∣ z') (hne : ¬ (x = x' ∧ y = y' ∧ z = z')) : atF n f x y z ≠ atF n f x' y' z' := by
  obtain ⟨m1, e1, _⟩ := corner_at n h h1 h8 hq hh f x y z hv hx hy hz
  obtain ⟨m2, e2, _⟩ := corner_at n h h1 h8 hq hh f x' y' z' hv' hx' hy' hz'
  rw [e1, e2]
  intro e
  have e := ix_inj m1 m2 (by omega)
  unfold normPl at e
  injection e with a0 a1 a2 a3
  refine hne (norm_inj f x y z x' y' z' hv hv' (by omega) ?_)
  intro i hi
  have : i = 0 ∨ i = 1 ∨ i = 2 := by omega
  rcases this with rfl | rfl | rfl <;> assumption
theorem loc_zero (a b c : Int) (hv : validB f a b c = true) (hs : a % (h : Int) * (n : Int) + b % (h : Int) * (n : Int) + c % (h : Int) * (n : Int) = 0) : shareL [] (atF n f a b c) 840 = locS (nodes n) h n f a b c := by
  obtain ⟨hf0, hf1, ha0, ha1, hb0, hb1, hc0, hc1, hsum⟩ := (validB_iff ..).1 hv
  have qa := mod_facts a h n hh h1 ha0 ha1
  have qb := mod_facts b h n hh h1 hb0 hb1
  have qc := mod_facts c h n hh h1 hc0 hc1
  have hz : ∀ x : Int, x * (n : Int) = 0 → x = 0 := fun x hx => by
    rcases Int.mul_eq_zero.1 hx with h | h
    · exact h
    · omega
  obtain ⟨hm, he, _⟩ := corner_at n h h1 h8 hq hh f a b c hv (Int.dvd_of_emod_eq_zero (hz _ (by omega))) (Int.dvd_of_emod_eq_zero (hz _ (by omega))) (Int.dvd_of_emod_eq_zero (hz _ (by omega)))
  simp only [locS]
  rw [if_pos hs, he]
  rfl
theorem loc_up (a b c : Int) (hv : validB f a b c = true) (ra rb rc : Int) (hra : ra = a / (h : Int) * (h : Int)) (hrb : rb = b / (h : Int) * (h : Int)) (hrc : rc = c / (h : Int) * (h : Int)) (hs : a % (h : Int) * (n : Int) + b % (h : Int) * (n : Int) + c % (h : Int) * (n : Int) = 840) :
    validB f (ra + h) rb rc = true ∧ validB f ra (rb + h) rc = true ∧ validB f ra rb (rc + h) = true ∧
    shareL (shareL (shareL [] (atF n f (ra + h) rb rc) (a % (h : Int) * (n : Int))) (atF n f ra (rb + h) rc) (b % (h : Int) * (n : Int))) (atF n f ra rb (rc + h)) (c % (h : Int) * (n : Int)) = locS (nodes n) h n f a b c := by
  obtain ⟨hf0, hf1, ha0, ha1, hb0, hb1, hc0, hc1, hsum⟩ := (validB_iff ..).1 hv
  have hp : 0 < h := Nat.pos_of_ne_zero (fun e => by rw [e, Nat.mul_zero] at hh; exact absurd hh (by decide))
  have qa := mod_facts a h n hh h1 ha0 ha1
  have qb := mod_facts b h n hh h1 hb0 hb1
  have qc' := mod_facts c h n hh h1 hc0 hc1
  obtain ⟨_, _, sa0, sa1, _, _, da, ea⟩ := rem_facts a h n hh h1 ha0 ha1
  obtain ⟨_, _, sb0, sb1, _, _, db, eb⟩ := rem_facts b h n hh h1 hb0 hb1
  obtain ⟨_, _, sc0, sc1, _, _, dc, ec⟩ := rem_facts c h n hh h1 hc0 hc1
  rw [← hra] at sa0 sa1 da ea
  rw [← hrb] at sb0 sb1 db eb
  rw [← hrc] at sc0 sc1 dc ec
  have hrem : a % (h : Int) + b % (h : Int) + c % (h : Int) = h := by
    have e1 : (a % (h : Int) + b % (h : Int) + c % (h : Int)) * (n : Int) = (h : Int) * (n : Int) := by
      rw [Int.add_mul, Int.add_mul, hs, Int.mul_comm, ← Int.natCast_mul, hh]; rfl
    exact Int.eq_of_mul_eq_mul_right (by omega) e1
  have dh : (h : Int) ∣ (h : Int) := Int.dvd_refl _
  have v0 : validB f (ra + h) rb rc = true := by rw [validB_iff]; omega
  have v1 : validB f ra (rb + h) rc = true := by rw [validB_iff]; omega
  have v2 : validB f ra rb (rc + h) = true := by rw [validB_iff]; omega
  refine ⟨v0, v1, v2, ?_⟩
  have da' := Int.dvd_add da dh
  have db' := Int.dvd_add db dh
  have dc' := Int.dvd_add dc dh
  obtain ⟨_, e0, b0, b0'⟩ := corner_at n h h1 h8 hq hh f (ra + h) rb rc v0 da' db dc
  obtain ⟨_, e1, b1, b1'⟩ := corner_at n h h1 h8 hq hh f ra (rb + h) rc v1 da db' dc
  obtain ⟨_, e2, b2, b2'⟩ := corner_at n h h1 h8 hq hh f ra rb (rc + h) v2 da db dc'
  have n0 := corner_ne n h h1 h8 hq hh f _ _ _ _ _ _ v0 v1 da' db dc da db' dc (by omega)
  have n1 := corner_ne n h h1 h8 hq hh f _ _ _ _ _ _ v0 v2 da' db dc da db dc' (by omega)
  have n2 := corner_ne n h h1 h8 hq hh f _ _ _ _ _ _ v1 v2 da db' dc da db dc' (by omega)
  have hR : locS (nodes n) h n f a b c = sortS (rawTo (nodes n) f (qc true h ra 0) (qc true h rb 1) (qc true h rc 2) (lw true (a % (h : Int) * (n : Int)) (b % (h : Int) * (n : Int)) (c % (h : Int) * (n : Int))) 3) := by
    simp only [locS]
    rw [if_neg (by omega), decide_eq_true hs, ea, eb, ec]
  rw [three_sorted _ _ _ _ _ _ ⟨b0, b0'⟩ ⟨b1, b1'⟩ ⟨b2, b2'⟩ n0 n1 n2 qa.2.2.1 qb.2.2.1 qc'.2.2.1, hR, e0, e1, e2]
  simp only [rawTo, qc, lw]
  simp
theorem loc_down (a b c : Int) (hv : validB f a b c = true) (ra rb rc : Int) (hra : ra = a / (h : Int) * (h : Int)) (hrb : rb = b / (h : Int) * (h : Int)) (hrc : rc = c / (h : Int) * (h : Int)) (hs0 : a % (h : Int) * (n : Int) + b % (h : Int) * (n : Int) + c % (h : Int) * (n : Int) ≠ 0) (hs : a % (h : Int) * (n : Int) + b % (h : Int) * (n : Int) + c % (h : Int) * (n : Int) ≠ 840) :
    validB f ra (rb + h) (rc + h) = true ∧ validB f (ra + h) rb (rc + h) = true ∧ validB f (ra + h) (rb + h) rc = true ∧
    shareL (shareL (shareL [] (atF n f ra (rb + h) (rc + h)) (840 - a % (h : Int) * (n : Int))) (atF n f (ra + h) rb (rc + h)) (840 - b % (h : Int) * (n : Int))) (atF n f (ra + h) (rb + h) rc) (840 - c % (h : Int) * (n : Int)) = locS (nodes n) h n f a b c := by
  obtain ⟨hf0, hf1, ha0, ha1, hb0, hb1, hc0, hc1, hsum⟩ := (validB_iff ..).1 hv
  have hp : 0 < h := Nat.pos_of_ne_zero (fun e => by rw [e, Nat.mul_zero] at hh; exact absurd hh (by decide))
  have qa := mod_facts a h n hh h1 ha0 ha1
  have qb := mod_facts b h n hh h1 hb0 hb1
  have qc' := mod_facts c h n hh h1 hc0 hc1
  obtain ⟨_, _, sa0, sa1, _, _, da, ea⟩ := rem_facts a h n hh h1 ha0 ha1
  obtain ⟨_, _, sb0, sb1, _, _, db, eb⟩ := rem_facts b h n hh h1 hb0 hb1
  obtain ⟨_, _, sc0, sc1, _, _, dc, ec⟩ := rem_facts c h n hh h1 hc0 hc1
  rw [← hra] at sa0 sa1 da ea
  rw [← hrb] at sb0 sb1 db eb
  rw [← hrc] at sc0 sc1 dc ec
  have hrem : a % (h : Int) + b % (h : Int) + c % (h : Int) = 2 * h := by
    have e1 : a % (h : Int) * (n : Int) + b % (h : Int) * (n : Int) + c % (h : Int) * (n : Int) = (a % (h : Int) + b % (h : Int) + c % (h : Int)) * (n : Int) := by rw [Int.add_mul, Int.add_mul]
    rcases mod_cases a b c h n hh h1 hsum ha0 hb0 hc0 with hr | hr | hr
    · rw [hr, Int.zero_mul] at e1
      exact absurd e1 hs0
    · rw [hr, Int.mul_comm (h : Int) (n : Int), ← Int.natCast_mul, hh] at e1
      exact absurd e1 hs
    · exact hr
  have dh : (h : Int) ∣ (h : Int) := Int.dvd_refl _
  have v0 : validB f ra (rb + h) (rc + h) = true := by rw [validB_iff]; omega
  have v1 : validB f (ra + h) rb (rc + h) = true := by rw [validB_iff]; omega
  have v2 : validB f (ra + h) (rb + h) rc = true := by rw [validB_iff]; omega
  refine ⟨v0, v1, v2, ?_⟩
  have da' := Int.dvd_add da dh
  have db' := Int.dvd_add db dh
  have dc' := Int.dvd_add dc dh
  obtain ⟨_, e0, b0, b0'⟩ := corner_at n h h1 h8 hq hh f ra (rb + h) (rc + h) v0 da db' dc'
  obtain ⟨_, e1, b1, b1'⟩ := corner_at n h h1 h8 hq hh f (ra + h) rb (rc + h) v1 da' db dc'
  obtain ⟨_, e2, b2, b2'⟩ := corner_at n h h1 h8 hq hh f (ra + h) (rb + h) rc v2 da' db' dc
  have n0 := corner_ne n h h1 h8 hq hh f _ _ _ _ _ _ v0 v1 da db' dc' da' db dc' (by omega)
  have n1 := corner_ne n h h1 h8 hq hh f _ _ _ _ _ _ v0 v2 da db' dc' da' db' dc (by omega)
  have n2 := corner_ne n h h1 h8 hq hh f _ _ _ _ _ _ v1 v2 da' db dc' da' db' dc (by omega)
  have hR : locS (nodes n) h n f a b c = sortS (rawTo (nodes n) f (qc false h ra 0) (qc false h rb 1) (qc false h rc 2) (lw false (a % (h : Int) * (n : Int)) (b % (h : Int) * (n : Int)) (c % (h : Int) * (n : Int))) 3) := by
    simp only [locS]
    rw [if_neg hs0, decide_eq_false hs, ea, eb, ec]
  rw [three_sorted _ _ _ _ _ _ ⟨b0, b0'⟩ ⟨b1, b1'⟩ ⟨b2, b2'⟩ n0 n1 n2 (by omega) (by omega) (by omega), hR, e0, e1, e2]
  simp only [rawTo, qc, lw]
  simp
end
end Go.Proofs.YtcoddcdiimpndaaDoor
