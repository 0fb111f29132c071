/-
  The law of Locate: the nodes' shares, as both programs reckon them.
  grid.Index.
  The reference's Count and Nodes.
  The reference's at and Index.
-/
import Derived.Test.YtcoddcdiimpndaaDoorM19
import Derived.Test.YtcoddcdiimpndaaDoorM15
import Derived.Test.YtcoddcdiimpndaaDoorM06
import Derived.Test.YtcoddcdiimpndaaDoorM08
import Derived.Test.YtcoddcdiimpndaaDoorM09
import Derived.Deep.RegionLaw
import Derived.Deep.RegionHeldLaw
import Derived.Test.YtcoddcdiimpndaaDoorM13
set_option linter.unusedVariables false
set_option linter.unusedSimpArgs false
namespace Go.Proofs.YtcoddcdiimpndaaDoor
open Go.RowKit
theorem findI_mem {l : List Pl} {p : Pl} (h : p ∈ l) : findI l p = ((ix l p : Nat) : Int) := by simp [findI, ix, h]
theorem ix_lt {l : List Pl} {p : Pl} (h : p ∈ l) : ix l p < l.length := by
  unfold ix
  rw [if_pos h]
  exact List.idxOf_lt_length_of_mem h
theorem ix_inj {l : List Pl} {p q : Pl} (hp : p ∈ l) (hq : q ∈ l) (h : ix l p = ix l q) : p = q := by
  unfold ix at h
  rw [if_pos hp, if_pos hq] at h
  have h1 := List.getElem_idxOf (List.idxOf_lt_length_of_mem hp)
  have h2 := List.getElem_idxOf (List.idxOf_lt_length_of_mem hq)
  rw [← h1, ← h2]
  simp only [h]
/-- What a coordinate and its remainder are. -/
theorem rem_facts (a : Int) (h n : Nat) (hh : n * h = 840) (hn : 1 ≤ n) (h0 : 0 ≤ a) (h1 : a ≤ 840) :
    0 ≤ a / (h : Int) ∧ a / (h : Int) ≤ 840 ∧ 0 ≤ a / (h : Int) * (h : Int) ∧ a / (h : Int) * (h : Int) ≤ a ∧ a - a / (h : Int) * (h : Int) = a % (h : Int) ∧ (n : Int) * (a - a / (h : Int) * (h : Int)) = a % (h : Int) * (n : Int) ∧ (h : Int) ∣ a / (h : Int) * (h : Int) ∧ a - a % (h : Int) = a / (h : Int) * (h : Int) := by
  have hp : 0 < h := Nat.pos_of_ne_zero (fun e => by rw [e, Nat.mul_zero] at hh; exact absurd hh (by decide))
  have e0 := Int.emod_nonneg a (show (h : Int) ≠ 0 by omega)
  have e1 := Int.mul_ediv_add_emod a h
  have e2 : a / (h : Int) * (h : Int) = (h : Int) * (a / (h : Int)) := Int.mul_comm _ _
  have e3 : 0 ≤ a / (h : Int) := Int.ediv_nonneg h0 (by omega)
  have e4 : a / (h : Int) ≤ a := Int.ediv_le_self _ h0
  have e5 : 0 ≤ a / (h : Int) * (h : Int) := Int.mul_nonneg e3 (by omega)
  have e6 : a - a / (h : Int) * (h : Int) = a % (h : Int) := by omega
  exact ⟨e3, by omega, e5, by omega, e6, by rw [e6, Int.mul_comm], ⟨a / (h : Int), e2⟩, by omega⟩
section
variable (n h : Nat) (h1 : 1 ≤ n) (h8 : n ≤ 8) (hq : 840 / n = h) (hh : n * h = 840) (f : Int)
/-- The index of a place of face f. -/
def atF (f x y z : Int) : Int := findI (nodes n) (normPl f x y z)
include h1 h8 hq hh
theorem corner_at (x y z : Int) (hv : validB f x y z = true) (hx : (h : Int) ∣ x) (hy : (h : Int) ∣ y) (hz : (h : Int) ∣ z) : normPl f x y z ∈ nodes n ∧ atF n f x y z = ((ix (nodes n) (normPl f x y z) : Nat) : Int) ∧ 0 ≤ atF n f x y z ∧ atF n f x y z ≤ 1000000 := by
  have hm : normPl f x y z ∈ nodes n := grid_node n h h1 hq hh f x y z hv hx hy hz
  have he := findI_mem hm
  have hl := ix_lt hm
  have hn := (nodes_len n h1 h8).2
  refine ⟨hm, he, ?_, ?_⟩ <;> (unfold atF; rw [he]; omega)
theorem corner_ne (x y z x' y' z' : Int) (hv : validB f x y z = true) (hv' : validB f x' y' z' = true) (hx : (h : Int) ∣ x) (hy : (h : Int) ∣ y) (hz : (h : Int) ∣ z) (hx' : (h : Int) ∣ x') (hy' : (h : Int) ∣ y') (hz' : (h : Int) ∣ z') (hne : ¬ (x = x' ∧ y = y' ∧ z = z')) : atF n f x y z ≠ atF n f x' y' z' := by
  obtain ⟨m1, e1, _⟩ := corner_at n h h1 h8 hq hh f x y z hv hx hy hz
  obtain ⟨m2, e2, _⟩ := corner_at n h h1 h8 hq hh f x' y' z' hv' hx' hy' hz'
  rw [e1, e2]
  intro e
  have e := ix_inj m1 m2 (by omega)
  unfold normPl at e
  injection e with a0 a1 a2 a3
  refine hne (norm_inj f x y z x' y' z' hv hv' (by omega) ?_)
  intro i hi
  have : i = 0 ∨ i = 1 ∨ i = 2 := by omega
  rcases this with rfl | rfl | rfl <;> assumption
theorem loc_zero (a b c : Int) (hv : validB f a b c = true) (hs : a % (h : Int) * (n : Int) + b % (h : Int) * (n : Int) + c % (h : Int) * (n : Int) = 0) : shareL [] (atF n f a b c) 840 = locS (nodes n) h n f a b c := by
  obtain ⟨hf0, hf1, ha0, ha1, hb0, hb1, hc0, hc1, hsum⟩ := (validB_iff ..).1 hv
  have qa := mod_facts a h n hh h1 ha0 ha1
  have qb := mod_facts b h n hh h1 hb0 hb1
  have qc := mod_facts c h n hh h1 hc0 hc1
  have hz : ∀ x : Int, x * (n : Int) = 0 → x = 0 := fun x hx => by
    rcases Int.mul_eq_zero.1 hx with h | h
    · exact h
    · omega
  obtain ⟨hm, he, _⟩ := corner_at n h h1 h8 hq hh f a b c hv (Int.dvd_of_emod_eq_zero (hz _ (by omega))) (Int.dvd_of_emod_eq_zero (hz _ (by omega))) (Int.dvd_of_emod_eq_zero (hz _ (by omega)))
  simp only [locS]
  rw [if_pos hs, he]
  rfl
theorem loc_up (a b c : Int) (hv : validB f a b c = true) (ra rb rc : Int) (hra : ra = a / (h : Int) * (h : Int)) (hrb : rb = b / (h : Int) * (h : Int)) (hrc : rc = c / (h : Int) * (h : Int)) (hs : a % (h : Int) * (n : Int) + b % (h : Int) * (n : Int) + c % (h : Int) * (n : Int) = 840) :
    validB f (ra + h) rb rc = true ∧ validB f ra (rb + h) rc = true ∧ validB f ra rb (rc + h) = true ∧
    shareL (shareL (shareL [] (atF n f (ra + h) rb rc) (a % (h : Int) * (n : Int))) (atF n f ra (rb + h) rc) (b % (h : Int) * (n : Int))) (atF n f ra rb (rc + h)) (c % (h : Int) * (n : Int)) = locS (nodes n) h n f a b c := by
  obtain ⟨hf0, hf1, ha0, ha1, hb0, hb1, hc0, hc1, hsum⟩ := (validB_iff ..).1 hv
  have hp : 0 < h := Nat.pos_of_ne_zero (fun e => by rw [e, Nat.mul_zero] at hh; exact absurd hh (by decide))
  have qa := mod_facts a h n hh h1 ha0 ha1
  have qb := mod_facts b h n hh h1 hb0 hb1
  have qc' := mod_facts c h n hh h1 hc0 hc1
  obtain ⟨_, _, sa0, sa1, _, _, da, ea⟩ := rem_facts a h n hh h1 ha0 ha1
  obtain ⟨_, _, sb0, sb1, _, _, db, eb⟩ := rem_facts b h n hh h1 hb0 hb1
  obtain ⟨_, _, sc0, sc1, _, _, dc, ec⟩ := rem_facts c h n hh h1 hc0 hc1
  rw [← hra] at sa0 sa1 da ea
  rw [← hrb] at sb0 sb1 db eb
  rw [← hrc] at sc0 sc1 dc ec
  have hrem : a % (h : Int) + b % (h : Int) + c % (h : Int) = h := by
    have e1 : (a % (h : Int) + b % (h : Int) + c % (h : Int)) * (n : Int) = (h : Int) * (n : Int) := by
      rw [Int.add_mul, Int.add_mul, hs, Int.mul_comm, ← Int.natCast_mul, hh]; rfl
    exact Int.eq_of_mul_eq_mul_right (by omega) e1
  have dh : (h : Int) ∣ (h : Int) := Int.dvd_refl _
  have v0 : validB f (ra + h) rb rc = true := by rw [validB_iff]; omega
  have v1 : validB f ra (rb + h) rc = true := by rw [validB_iff]; omega
  have v2 : validB f ra rb (rc + h) = true := by rw [validB_iff]; omega
  refine ⟨v0, v1, v2, ?_⟩
  have da' := Int.dvd_add da dh
  have db' := Int.dvd_add db dh
  have dc' := Int.dvd_add dc dh
  obtain ⟨_, e0, b0, b0'⟩ := corner_at n h h1 h8 hq hh f (ra + h) rb rc v0 da' db dc
  obtain ⟨_, e1, b1, b1'⟩ := corner_at n h h1 h8 hq hh f ra (rb + h) rc v1 da db' dc
  obtain ⟨_, e2, b2, b2'⟩ := corner_at n h h1 h8 hq hh f ra rb (rc + h) v2 da db dc'
  have n0 := corner_ne n h h1 h8 hq hh f _ _ _ _ _ _ v0 v1 da' db dc da db' dc (by omega)
  have n1 := corner_ne n h h1 h8 hq hh f _ _ _ _ _ _ v0 v2 da' db dc da db dc' (by omega)
  have n2 := corner_ne n h h1 h8 hq hh f _ _ _ _ _ _ v1 v2 da db' dc da db dc' (by omega)
  have hR : locS (nodes n) h n f a b c = sortS (rawTo (nodes n) f (qc true h ra 0) (qc true h rb 1) (qc true h rc 2) (lw true (a % (h : Int) * (n : Int)) (b % (h : Int) * (n : Int)) (c % (h : Int) * (n : Int))) 3) := by
    simp only [locS]
    rw [if_neg (by omega), decide_eq_true hs, ea, eb, ec]
  rw [three_sorted _ _ _ _ _ _ ⟨b0, b0'⟩ ⟨b1, b1'⟩ ⟨b2, b2'⟩ n0 n1 n2 qa.2.2.1 qb.2.2.1 qc'.2.2.1, hR, e0, e1, e2]
  simp only [rawTo, qc, lw]
  simp
theorem loc_down (a b c : Int) (hv : validB f a b c = true) (ra rb rc : Int) (hra : ra = a / (h : Int) * (h : Int)) (hrb : rb = b / (h : Int) * (h : Int)) (hrc : rc = c / (h : Int) * (h : Int)) (hs0 : a % (h : Int) * (n : Int) + b % (h : Int) * (n : Int) + c % (h : Int) * (n : Int) ≠ 0) (hs : a % (h : Int) * (n : Int) + b % (h : Int) * (n : Int) + c % (h : Int) * (n : Int) ≠ 840) :
    validB f ra (rb + h) (rc + h) = true ∧ validB f (ra + h) rb (rc + h) = true ∧ validB f (ra + h) (rb + h) rc = true ∧
    shareL (shareL (shareL [] (atF n f ra (rb + h) (rc + h)) (840 - a % (h : Int) * (n : Int))) (atF n f (ra + h) rb (rc + h)) (840 - b % (h : Int) * (n : Int))) (atF n f (ra + h) (rb + h) rc) (840 - c % (h : Int) * (n : Int)) = locS (nodes n) h n f a b c := by
  obtain ⟨hf0, hf1, ha0, ha1, hb0, hb1, hc0, hc1, hsum⟩ := (validB_iff ..).1 hv
  have hp : 0 < h := Nat.pos_of_ne_zero (fun e => by rw [e, Nat.mul_zero] at hh; exact absurd hh (by decide))
  have qa := mod_facts a h n hh h1 ha0 ha1
  have qb := mod_facts b h n hh h1 hb0 hb1
  have qc' := mod_facts c h n hh h1 hc0 hc1
  obtain ⟨_, _, sa0, sa1, _, _, da, ea⟩ := rem_facts a h n hh h1 ha0 ha1
  obtain ⟨_, _, sb0, sb1, _, _, db, eb⟩ := rem_facts b h n hh h1 hb0 hb1
  obtain ⟨_, _, sc0, sc1, _, _, dc, ec⟩ := rem_facts c h n hh h1 hc0 hc1
  rw [← hra] at sa0 sa1 da ea
  rw [← hrb] at sb0 sb1 db eb
  rw [← hrc] at sc0 sc1 dc ec
  have hrem : a % (h : Int) + b % (h : Int) + c % (h : Int) = 2 * h := by
    have e1 : a % (h : Int) * (n : Int) + b % (h : Int) * (n : Int) + c % (h : Int) * (n : Int) = (a % (h : Int) + b % (h : Int) + c % (h : Int)) * (n : Int) := by rw [Int.add_mul, Int.add_mul]
    rcases mod_cases a b c h n hh h1 hsum ha0 hb0 hc0 with hr | hr | hr
    · rw [hr, Int.zero_mul] at e1
      exact absurd e1 hs0
    · rw [hr, Int.mul_comm (h : Int) (n : Int), ← Int.natCast_mul, hh] at e1
      exact absurd e1 hs
    · exact hr
  have dh : (h : Int) ∣ (h : Int) := Int.dvd_refl _
  have v0 : validB f ra (rb + h) (rc + h) = true := by rw [validB_iff]; omega
  have v1 : validB f (ra + h) rb (rc + h) = true := by rw [validB_iff]; omega
  have v2 : validB f (ra + h) (rb + h) rc = true := by rw [validB_iff]; omega
  refine ⟨v0, v1, v2, ?_⟩
  have da' := Int.dvd_add da dh
  have db' := Int.dvd_add db dh
  have dc' := Int.dvd_add dc dh
  obtain ⟨_, e0, b0, b0'⟩ := corner_at n h h1 h8 hq hh f ra (rb + h) (rc + h) v0 da db' dc'
  obtain ⟨_, e1, b1, b1'⟩ := corner_at n h h1 h8 hq hh f (ra + h) rb (rc + h) v1 da' db dc'
  obtain ⟨_, e2, b2, b2'⟩ := corner_at n h h1 h8 hq hh f (ra + h) (rb + h) rc v2 da' db' dc
  have n0 := corner_ne n h h1 h8 hq hh f _ _ _ _ _ _ v0 v1 da db' dc' da' db dc' (by omega)
  have n1 := corner_ne n h h1 h8 hq hh f _ _ _ _ _ _ v0 v2 da db' dc' da' db' dc (by omega)
  have n2 := corner_ne n h h1 h8 hq hh f _ _ _ _ _ _ v1 v2 da' db dc' da' db' dc (by omega)
  have hR : locS (nodes n) h n f a b c = sortS (rawTo (nodes n) f (qc false h ra 0) (qc false h rb 1) (qc false h rc 2) (lw false (a % (h : Int) * (n : Int)) (b % (h : Int) * (n : Int)) (c % (h : Int) * (n : Int))) 3) := by
    simp only [locS]
    rw [if_neg hs0, decide_eq_false hs, ea, eb, ec]
  rw [three_sorted _ _ _ _ _ _ ⟨b0, b0'⟩ ⟨b1, b1'⟩ ⟨b2, b2'⟩ n0 n1 n2 (by omega) (by omega) (by omega), hR, e0, e1, e2]
  simp only [rawTo, qc, lw]
  simp
end
end Go.Proofs.YtcoddcdiimpndaaDoor
set_option linter.unusedVariables false
set_option linter.unusedSimpArgs false
namespace Go.Proofs.YtcoddcdiimpndaaDoor
open Go.RowKit
def gIErr (n f a b c : Int) : Int := if okB n f a b c then (if normPl f a b c ∈ nodes n.toNat then 0 else 9) else 1
def gIdx (n f a b c : Int) : Int := if okB n f a b c then (if normPl f a b c ∈ nodes n.toNat then ((ix (nodes n.toNat) (normPl f a b c) : Nat) : Int) else 0) else 0
set_option maxRecDepth 100000 in
set_option maxHeartbeats 2000000 in
theorem gindex_any (n f a b c : Int) (w : World) (hT : TabOk w) : Calls Tryd.prog 11 #[.int .i64 n, .agg #[.int .i64 f, .int .i64 a, .int .i64 b, .int .i64 c]] w fun e w' =>
    e = .returned (.tuple #[.int .i64 (gIdx n f a b c), .int .i64 (gIErr n f a b c)]) ∧ Below w.heap.size w w' := by
  have hba : Below w.heap.size w (w.alloc (.cells #[.int .i64 f, .int .i64 a, .int .i64 b, .int .i64 c] 23)) := (Below.refl _ _).alloc (Nat.le_refl _) _
  have hB := blk_new w (.cells #[.int .i64 f, .int .i64 a, .int .i64 b, .int .i64 c] 23)
  have HT := Lib.hid (hT.below hba)
  have HBA := Lib.hid hba
  clear hT hba
  have hfr := fun W => freq_any n W
  cases hq : freqB n
  · have he : gIErr n f a b c = 1 := by simp [gIErr, okB, hq]
    have hl : gIdx n f a b c = 0 := by simp [gIdx, okB, hq]
    rw [he, hl]
    rw [hq] at hfr
    clear he hl
    go_enter Tryd.func11, Tryd.ntmps11
    go_wp2_with fail
    refine (hfr _).mono ?_
    rintro e w1 ⟨rfl, rfl⟩
    go_wp2_with fail
    go_ret2
    exact ⟨rfl, HBA.out⟩
  · obtain ⟨m, rfl, h1, h8, hh⟩ := freq_nat hq
    rw [hq] at hfr
    cases hv : validB f a b c
    · have he : gIErr m f a b c = 1 := by simp [gIErr, okB, hv]
      have hl : gIdx m f a b c = 0 := by simp [gIdx, okB, hv]
      rw [he, hl]
      have hva := fun W => valid_any f a b c W
      rw [hv] at hva
      clear he hl
      go_enter Tryd.func11, Tryd.ntmps11
      go_wp2_with fail
      refine (hfr _).mono ?_
      rintro e w1 ⟨rfl, rfl⟩
      go_wp2_with fail
      refine (hva _).mono ?_
      rintro e w2 ⟨rfl, hb2⟩
      have HB2 := Lib.hid (below_then HBA.out hb2 HBA.out.size)
      clear hb2
      go_wp2_with fail
      go_ret2
      exact ⟨rfl, HB2.out⟩
    · have HE := Lib.hid (show gIErr m f a b c = if normPl f a b c ∈ nodes m then 0 else 9 by simp [gIErr, okB, hv, hq])
      have HL := Lib.hid (show gIdx m f a b c = if normPl f a b c ∈ nodes m then ((ix (nodes m) (normPl f a b c) : Nat) : Int) else 0 by simp [gIdx, okB, hv, hq])
      have hva := fun W => valid_any f a b c W
      have HV := Lib.hid hv
      rw [hv] at hva
      have HH := Lib.hid hh
      have HF := Lib.hid (fine_nodes m h1 h8)
      clear hh
      go_enter Tryd.func11, Tryd.ntmps11
      go_wp2_with fail
      refine (hfr _).mono ?_
      rintro e w1 ⟨rfl, rfl⟩
      go_wp2_with fail
      refine (hva _).mono ?_
      rintro e w2 ⟨rfl, hb2⟩
      have hB2 := blk_below hb2 hB (blk_lt hB)
      have p0 := blk_cell hB2 0 (.int .i64 f) rfl
      have p1 := blk_cell hB2 1 (.int .i64 a) rfl
      have p2 := blk_cell hB2 2 (.int .i64 b) rfl
      have p3 := blk_cell hB2 3 (.int .i64 c) rfl
      have HT2 := Lib.hid (HT.out.below hb2)
      have HB2 := Lib.hid (below_then HBA.out hb2 HBA.out.size)
      clear hb2 hB hB2
      go_wp2_with fail
      go_region_held3 (fun w' => w'.cell? ⟨w.heap.size, 0, none⟩ = some (.int .i64 f) ∧ w'.cell? ⟨w.heap.size, 1, none⟩ = some (.int .i64 a) ∧ w'.cell? ⟨w.heap.size, 2, none⟩ = some (.int .i64 b) ∧ w'.cell? ⟨w.heap.size, 3, none⟩ = some (.int .i64 c))
        (first | assumption | (refine ⟨?_, ?_, ?_, ?_⟩ <;> go_simp))
        (first
          | (go_at_call 26; go_must (refine (points_any m h1 h8 _ (by first | exact HT2.out | exact HT2.out.below (drewN_below (Below.refl _ _) _))).mono ?_; rintro e w3 ⟨V, rfl, hnet, hb3'⟩; have hb3 : Below w2.heap.size w2 w3 := ⟨hb3'.os, hb3'.tape, hb3'.output, hb3'.size, hb3'.block⟩; have HN3 := Lib.hid hnet.reads; have HT3 := Lib.hid (HT2.out.below hb3); have HB3 := Lib.hid (below_then HB2.out hb3 HB2.out.size); have k3 := keep4 ⟨p0, p1, p2, p3⟩ hb3; clear hb3 hb3' hnet))
          | (go_at_call 27; go_must (refine (netIndex_any f a b c HV.out _ HT3.out (840 / m) m _ _ _ HN3.out HF.out).mono ?_; rintro e w4 ⟨rfl, hb4⟩; have HB4 := Lib.hid (below_then HB3.out hb4 HB3.out.size); have k4 := keep4 k3 hb4; clear hb4)))
      all_goals
        by_cases hin : normPl f a b c ∈ nodes m
        · have hd : decide (normPl f a b c ∈ nodes m) = true := decide_eq_true hin
          rw [hd]
          go_wp2_with fail
          go_ret2
          rw [HE.out, HL.out, if_pos hin, if_pos hin]
          exact ⟨rfl, HB4.out⟩
        · have hd : decide (normPl f a b c ∈ nodes m) = false := decide_eq_false hin
          rw [hd]
          go_wp2_with fail
          go_ret2
          rw [HE.out, HL.out, if_neg hin, if_neg hin]
          exact ⟨rfl, HB4.out⟩
end Go.Proofs.YtcoddcdiimpndaaDoor
set_option linter.unusedVariables false
set_option linter.unusedSimpArgs false
namespace Go.Proofs.YtcoddcdiimpndaaDoor
open Go.RowKit
theorem rcount_any (n : Int) (w : World) : Calls Tryd.prog 10 #[.int .i64 n] w fun e w' => e = .returned (.int .i64 (gCount n)) ∧ w = w' := by
  cases hq : freqB n
  · have hg : gCount n = 0 := by simp [gCount, hq]
    have hn : ¬ (1 ≤ n ∧ n ≤ 8) := by simpa [freqB] using hq
    rw [hg]
    clear hg
    by_cases h1 : n < 1
    · have hd : decide (n < 1) = true := decide_eq_true h1
      go_enter Tryd.func10, Tryd.ntmps10
      go_wp2
      go_ret
      exact ⟨rfl, rfl⟩
    · have hd : decide (n < 1) = false := decide_eq_false h1
      have hd8 : decide (8 < n) = true := decide_eq_true (by omega)
      have h8 : 8 < n := by omega
      go_enter Tryd.func10, Tryd.ntmps10
      go_wp2
      go_ret
      exact ⟨rfl, rfl⟩
  · have hg : gCount n = 10 * (n * n) + 2 := by simp [gCount, hq]
    rw [hg]
    have hn : 1 ≤ n ∧ n ≤ 8 := by simpa [freqB] using hq
    have h64 : n * n ≤ 8 * 8 := Int.mul_le_mul hn.2 hn.2 (by omega) (by omega)
    have hnn : 0 ≤ n * n := Int.mul_nonneg (by omega) (by omega)
    have he : 10 * n * n = 10 * (n * n) := Int.mul_assoc ..
    have hd : decide (n < 1) = false := decide_eq_false (by omega)
    have hd8 : decide (8 < n) = false := decide_eq_false (by omega)
    have h1 := hn.1
    have h8 := hn.2
    clear hg hq
    go_enter Tryd.func10, Tryd.ntmps10
    go_wp2
    go_ret
    exact ⟨rfl, rfl⟩
end Go.Proofs.YtcoddcdiimpndaaDoor
set_option linter.unusedVariables false
set_option linter.unusedSimpArgs false
namespace Go.Proofs.YtcoddcdiimpndaaDoor
open Go.RowKit
theorem gCount_pos {m : Nat} (h1 : 1 ≤ m) (h8 : m ≤ 8) : (gCount m == 0) = false := by
  have : m = 1 ∨ m = 2 ∨ m = 3 ∨ m = 4 ∨ m = 5 ∨ m = 6 ∨ m = 7 ∨ m = 8 := by omega
  rcases this with rfl | rfl | rfl | rfl | rfl | rfl | rfl | rfl <;> decide
/-- The reference's list of nodes, as what reads it sees it. -/
theorem rnodes_rd (m : Nat) (h1 : 1 ≤ m) (h8 : m ≤ 8) (w : World) :
    Calls Tryd.prog 29 #[.int .i64 m] w fun e w' => ∃ g cap, e = .returned (.tuple #[.slice (some ⟨g, 0, none⟩) (nodes m).length cap, .int .i64 0]) ∧ RdE w' g (fun i => (nodes m)[i]!) (nodes m).length ∧ Below w.heap.size w w' := by
  refine (rnodes_any m h1 h8 (gCount m) (gCount_pos h1 h8) (fun W => rcount_any m W) w).mono ?_
  rintro e w1 ⟨V, he, hown, hb⟩
  obtain ⟨g, cap, rfl, _, _⟩ := hown.form (nodes_len m h1 h8).1
  exact ⟨g, cap, he, RdE.of_own hown, hb⟩
set_option maxHeartbeats 2000000 in
theorem rat_any (l : List Pl) (hr : l.Pairwise (fun p q => ltP p q = true)) (hn : l.length ≤ 1000000) (f a b c : Int) (hv : validB f a b c = true) (g cap : Nat) (w : World) (hR : RdE w g (fun i => l[i]!) l.length) :
    Calls Tryd.prog 34 #[.slice (some ⟨g, 0, none⟩) l.length cap, .int .i64 f, .int .i64 a, .int .i64 b] w fun e w' => e = .returned (.int .i64 (findI l (normPl f a b c))) ∧ Below w.heap.size w w' := by
  have hb := (validB_iff ..).1 hv
  obtain ⟨hf0, hf1, ha0, ha1, hb0, hb1, hc0, hc1, hs⟩ := hb
  have hc : 840 - a - b = c := by omega
  have HR := Lib.hid hR
  have HV := Lib.hid hv
  have HC := Lib.hid hc
  have hglt := hR.lt
  have hfind := fun (W : World) (hRW : RdE W g (fun i => l[i]!) l.length) => find_any l hr hn (normPl f a b c) g cap W hRW
  have HF := Lib.hid hfind
  generalize hlen : l.length = n at *
  have HL := Lib.hid hlen
  clear hR hv hs hr hfind hlen
  go_enter Tryd.func34, Tryd.ntmps34
  go_wp2_with fail
  refine (normal2_yes f a b c HV.out _).mono ?_
  rintro e w1 ⟨rfl, hb1⟩
  have hB1 := Lib.hid hb1
  have hsz1 := hb1.size
  clear hb1 hc
  go_wp2_with fail
  refine (HF.out _ ((HR.out.below hB1.out hglt).below ((Below.refl _ _).alloc (Nat.le_refl _) _) (by omega))).mono ?_
  rintro e w2 ⟨rfl, hb2⟩
  have HB2 := Lib.hid (below_then (below_then hB1.out ((Below.refl _ _).alloc (Nat.le_refl _) _) hsz1) hb2 (by simp; omega))
  clear hb2
  go_wp2_with fail
  go_ret
  exact ⟨rfl, HB2.out⟩
set_option maxRecDepth 100000 in
set_option maxHeartbeats 4000000 in
theorem rindex_any (n f a b c : Int) (w : World) : Calls Tryd.prog 12 #[.int .i64 n, .agg #[.int .i64 f, .int .i64 a, .int .i64 b, .int .i64 c]] w fun e w' =>
    e = .returned (.tuple #[.int .i64 (gIdx n f a b c), .int .i64 (gIErr n f a b c)]) ∧ Below w.heap.size w w' := by
  have hba : Below w.heap.size w (w.alloc (.cells #[.int .i64 f, .int .i64 a, .int .i64 b, .int .i64 c] 23)) := (Below.refl _ _).alloc (Nat.le_refl _) _
  have HBA := Lib.hid hba
  have hcnt := fun W => rcount_any n W
  clear hba
  cases hv : validB f a b c
  · have he : gIErr n f a b c = 1 := by simp [gIErr, okB, hv]
    have hl : gIdx n f a b c = 0 := by simp [gIdx, okB, hv]
    rw [he, hl]
    clear he hl
    generalize gCount n = cn at hcnt
    cases hz : cn == 0
    all_goals
      go_enter Tryd.func12, Tryd.ntmps12
      go_wp2_with fail
      refine (normal2_no f a b c hv _).mono ?_
      rintro e w1 ⟨rfl, hb1⟩
      have HB1 := Lib.hid (below_then HBA.out hb1 HBA.out.size)
      clear hb1
      go_wp2_with fail
      refine (hcnt _).mono ?_
      rintro e w2 ⟨rfl, rfl⟩
      go_wp2_with fail
      go_ret2
      exact ⟨rfl, below_alloc HB1.out _⟩
  · cases hq : freqB n
    · have he : gIErr n f a b c = 1 := by simp [gIErr, okB, hq]
      have hl : gIdx n f a b c = 0 := by simp [gIdx, okB, hq]
      have hg : gCount n = 0 := by simp [gCount, hq]
      rw [he, hl]
      rw [hg] at hcnt
      clear he hl hg
      go_enter Tryd.func12, Tryd.ntmps12
      go_wp2_with fail
      refine (normal2_yes f a b c hv _).mono ?_
      rintro e w1 ⟨rfl, hb1⟩
      have HB1 := Lib.hid (below_then HBA.out hb1 HBA.out.size)
      clear hb1
      go_wp2_with fail
      refine (hcnt _).mono ?_
      rintro e w2 ⟨rfl, rfl⟩
      go_wp2_with fail
      go_ret2
      exact ⟨rfl, below_alloc HB1.out _⟩
    · obtain ⟨m, rfl, h1, h8, hh⟩ := freq_nat hq
      have HE := Lib.hid (show gIErr m f a b c = if normPl f a b c ∈ nodes m then 0 else 9 by simp [gIErr, okB, hv, hq])
      have HL := Lib.hid (show gIdx m f a b c = if normPl f a b c ∈ nodes m then ((ix (nodes m) (normPl f a b c) : Nat) : Int) else 0 by simp [gIdx, okB, hv, hq])
      have hz := gCount_pos h1 h8
      have HFIND := Lib.hid (fun (g cap : Nat) (W : World) (hR : RdE W g (fun i => (nodes m)[i]!) (nodes m).length) => find_any (nodes m) (nodes_rise m h1 h8) (nodes_len m h1 h8).2 (normPl f a b c) g cap W hR)
      generalize gCount m = cn at hcnt hz
      clear hh
      go_enter Tryd.func12, Tryd.ntmps12
      go_wp2_with fail
      refine (normal2_yes f a b c hv _).mono ?_
      rintro e w1 ⟨rfl, hb1⟩
      have HB1 := Lib.hid (below_then HBA.out hb1 HBA.out.size)
      have hs1 := hb1.size
      clear hb1
      go_wp2_with fail
      refine (hcnt _).mono ?_
      rintro e w2 ⟨rfl, rfl⟩
      go_wp2_with fail
      refine (rnodes_rd m h1 h8 _).mono ?_
      rintro e w3 ⟨g, cap, rfl, hR, hb3⟩
      have hs3 := hb3.size
      simp at hs3
      have B6 := blk_below hb3 (blk_new w1 _) (by simp)
      have p0 := blk_cell B6 0 (.int .i64 (nf f a b c : Nat)) rfl
      have p1 := blk_cell B6 1 (.int .i64 (nc f a b c 0)) rfl
      have p2 := blk_cell B6 2 (.int .i64 (nc f a b c 1)) rfl
      have p3 := blk_cell B6 3 (.int .i64 (nc f a b c 2)) rfl
      have HB3 := Lib.hid (below_then (below_alloc HB1.out _) hb3 (by have := HB1.out.size; simp; omega))
      have HR := Lib.hid hR
      clear hb3 hR B6
      go_wp2_with fail
      refine (HFIND.out g cap _ HR.out).mono ?_
      rintro e w4 ⟨rfl, hb4⟩
      have HB4 := Lib.hid (below_then HB3.out hb4 HB3.out.size)
      clear hb4 p0 p1 p2 p3
      by_cases hin : normPl f a b c ∈ nodes m
      · have hi : findI (nodes m) (normPl f a b c) = ((ix (nodes m) (normPl f a b c) : Nat) : Int) := by simp [findI, ix, hin]
        rw [hi]
        clear hi
        go_wp2_with fail
        go_ret2
        rw [HE.out, HL.out, if_pos hin, if_pos hin]
        exact ⟨rfl, HB4.out⟩
      · have hi : findI (nodes m) (normPl f a b c) = -1 := by simp [findI, hin]
        rw [hi]
        clear hi
        go_wp2_with fail
        go_ret2
        rw [HE.out, HL.out, if_neg hin, if_neg hin]
        exact ⟨rfl, HB4.out⟩
end Go.Proofs.YtcoddcdiimpndaaDoor
