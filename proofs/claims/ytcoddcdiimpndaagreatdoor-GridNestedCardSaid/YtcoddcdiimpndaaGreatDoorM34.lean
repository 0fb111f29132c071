/-
  grid.Index.
-/
import Derived.Test.YtcoddcdiimpndaaGreatDoorM30
set_option linter.unusedVariables false
set_option linter.unusedSimpArgs false
namespace Go.Proofs.YtcoddcdiimpndaaGreatDoor
open Go.RowKit
def gIErr (n f a b c : Int) : Int := if okB n f a b c then (if normPl f a b c ∈ nodes n.toNat then 0 else 9) else 1
def gIdx (n f a b c : Int) : Int := if okB n f a b c then (if normPl f a b c ∈ nodes n.toNat then ((ix (nodes n.toNat) (normPl f a b c) : Nat) : Int) else 0) else 0
set_option maxRecDepth 100000 in
set_option maxHeartbeats 2000000 in
theorem gindex_any (n f a b c : Int) (w : World) (hT : TabOk w) : Calls Tryz.prog 35 #[.int .i64 n, .agg #[.int .i64 f, .int .i64 a, .int .i64 b, .int .i64 c]] w fun e w' =>
    e = .returned (.tuple #[.int .i64 (gIdx n f a b c), .int .i64 (gIErr n f a b c)]) ∧ Below w.heap.size w w' := by
  have hba : Below w.heap.size w (w.alloc (.cells #[.int .i64 f, .int .i64 a, .int .i64 b, .int .i64 c] 32)) := (Below.refl _ _).alloc (Nat.le_refl _) _
  have hB := blk_new w (.cells #[.int .i64 f, .int .i64 a, .int .i64 b, .int .i64 c] 32)
  have HT := Lib.hid (hT.below hba)
  have HBA := Lib.hid hba
  clear hT hba
  have hfr := fun W => freq_any n W
  cases hq : freqB n
  · have he : gIErr n f a b c = 1 := by simp [gIErr, okB, hq]
    have hl : gIdx n f a b c = 0 := by simp [gIdx, okB, hq]
    rw [he, hl]
    rw [hq] at hfr
    clear he hl
    go_enter Tryz.func35, Tryz.ntmps35
    go_wp2_with fail
    refine (hfr _).mono ?_
    rintro e w1 ⟨rfl, rfl⟩
    go_wp2_with fail
    go_ret2
    exact ⟨rfl, HBA.out⟩
  · obtain ⟨m, rfl, h1, h8, hh⟩ := freq_nat hq
    rw [hq] at hfr
    cases hv : validB f a b c
    · have he : gIErr m f a b c = 1 := by simp [gIErr, okB, hv]
      have hl : gIdx m f a b c = 0 := by simp [gIdx, okB, hv]
      rw [he, hl]
      have hva := fun W => valid_any f a b c W
      rw [hv] at hva
      clear he hl
      go_enter Tryz.func35, Tryz.ntmps35
      go_wp2_with fail
      refine (hfr _).mono ?_
      rintro e w1 ⟨rfl, rfl⟩
      go_wp2_with fail
      refine (hva _).mono ?_
      rintro e w2 ⟨rfl, hb2⟩
      have HB2 := Lib.hid (below_then HBA.out hb2 HBA.out.size)
      clear hb2
      go_wp2_with fail
      go_ret2
      exact ⟨rfl, HB2.out⟩
    · have HE := Lib.hid (show gIErr m f a b c = if normPl f a b c ∈ nodes m then 0 else 9 by simp [gIErr, okB, hv, hq])
      have HL := Lib.hid (show gIdx m f a b c = if normPl f a b c ∈ nodes m then ((ix (nodes m) (normPl f a b c) : Nat) : Int) else 0 by simp [gIdx, okB, hv, hq])
      have hva := fun W => valid_any f a b c W
      have HV := Lib.hid hv
      rw [hv] at hva
      have HH := Lib.hid hh
      have HF := Lib.hid (fine_nodes m h1 h8)
      clear hh
      go_enter Tryz.func35, Tryz.ntmps35
      go_wp2_with fail
      refine (hfr _).mono ?_
      rintro e w1 ⟨rfl, rfl⟩
      go_wp2_with fail
      refine (hva _).mono ?_
      rintro e w2 ⟨rfl, hb2⟩
      have hB2 := blk_below hb2 hB (blk_lt hB)
      have p0 := blk_cell hB2 0 (.int .i64 f) rfl
      have p1 := blk_cell hB2 1 (.int .i64 a) rfl
      have p2 := blk_cell hB2 2 (.int .i64 b) rfl
      have p3 := blk_cell hB2 3 (.int .i64 c) rfl
      have HT2 := Lib.hid (HT.out.below hb2)
      have HB2 := Lib.hid (below_then HBA.out hb2 HBA.out.size)
      clear hb2 hB hB2
      go_wp2_with fail
      go_region_held3 (fun w' => w'.cell? ⟨w.heap.size, 0, none⟩ = some (.int .i64 f) ∧ w'.cell? ⟨w.heap.size, 1, none⟩ = some (.int .i64 a) ∧ w'.cell? ⟨w.heap.size, 2, none⟩ = some (.int .i64 b) ∧ w'.cell? ⟨w.heap.size, 3, none⟩ = some (.int .i64 c))
        (first | assumption | (refine ⟨?_, ?_, ?_, ?_⟩ <;> go_simp))
        (first
          | (go_at_call 50; go_must (refine (points_any m h1 h8 _ (by first | exact HT2.out | exact HT2.out.below (drewN_below (Below.refl _ _) _))).mono ?_; rintro e w3 ⟨V, rfl, hnet, hb3'⟩; have hb3 : Below w2.heap.size w2 w3 := ⟨hb3'.os, hb3'.tape, hb3'.output, hb3'.size, hb3'.block⟩; have HN3 := Lib.hid hnet.reads; have HT3 := Lib.hid (HT2.out.below hb3); have HB3 := Lib.hid (below_then HB2.out hb3 HB2.out.size); have k3 := keep4 ⟨p0, p1, p2, p3⟩ hb3; clear hb3 hb3' hnet))
          | (go_at_call 67; go_must (refine (netIndex_any f a b c HV.out _ HT3.out (840 / m) m _ _ _ HN3.out HF.out).mono ?_; rintro e w4 ⟨rfl, hb4⟩; have HB4 := Lib.hid (below_then HB3.out hb4 HB3.out.size); have k4 := keep4 k3 hb4; clear hb4)))
      all_goals
        by_cases hin : normPl f a b c ∈ nodes m
        · have hd : decide (normPl f a b c ∈ nodes m) = true := decide_eq_true hin
          rw [hd]
          go_wp2_with fail
          go_ret2
          rw [HE.out, HL.out, if_pos hin, if_pos hin]
          exact ⟨rfl, HB4.out⟩
        · have hd : decide (normPl f a b c ∈ nodes m) = false := decide_eq_false hin
          rw [hd]
          go_wp2_with fail
          go_ret2
          rw [HE.out, HL.out, if_neg hin, if_neg hin]
          exact ⟨rfl, HB4.out⟩
end Go.Proofs.YtcoddcdiimpndaaGreatDoor
