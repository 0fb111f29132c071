/-
  Package grid: Count, Index, Locate, Nearest.
-/
import Derived.Test.YtcoddcdiimpndaaGreatDoorM29
import Derived.Test.YtcoddcdiimpndaaGreatDoorM13
import Derived.Deep.RegionHeld3
import Derived.Deep.DrawnRows
import Derived.Deep.DeepCutAuto
import Derived.Deep.DeepMust
set_option linter.unusedVariables false
set_option linter.unusedSimpArgs false
namespace Go.Proofs.YtcoddcdiimpndaaGreatDoor
open Go.RowKit
def okB (n f a b c : Int) : Bool := freqB n && validB f a b c
def gLoc (n f a b c : Int) : List Sh := if okB n f a b c then locS (nodes n.toNat) (840 / n.toNat) n.toNat f a b c else []
def gNear (n f a b c : Int) : Int := if okB n f a b c then nearS (gLoc n f a b c) else 0
def gErr (n f a b c : Int) : Int := if okB n f a b c then 0 else 1
def gCount (n : Int) : Int := if freqB n then 10 * (n * n) + 2 else 0
theorem freq_nat {n : Int} (h : freqB n = true) : ∃ m : Nat, n = m ∧ 1 ≤ m ∧ m ≤ 8 ∧ m * (840 / m) = 840 := by
  have h1 : 1 ≤ n ∧ n ≤ 8 := by simpa [freqB] using h
  refine ⟨n.toNat, by omega, by omega, by omega, ?_⟩
  have : n.toNat = 1 ∨ n.toNat = 2 ∨ n.toNat = 3 ∨ n.toNat = 4 ∨ n.toNat = 5 ∨ n.toNat = 6 ∨ n.toNat = 7 ∨ n.toNat = 8 := by omega
  rcases this with e | e | e | e | e | e | e | e <;> rw [e] <;> decide
theorem count_any (n : Int) (w : World) : Calls Tryz.prog 58 #[.int .i64 n] w fun e w' => e = .returned (.int .i64 (gCount n)) ∧ w = w' := by
  cases hq : freqB n
  · have hg : gCount n = 0 := by simp [gCount, hq]
    rw [hg]
    have hf := freq_any n w
    rw [hq] at hf
    clear hg
    go_enter Tryz.func58, Tryz.ntmps58
    go_wp2_with fail
    refine hf.mono ?_
    rintro e w1 ⟨rfl, rfl⟩
    go_wp2_with fail
    go_ret
    exact ⟨rfl, rfl⟩
  · have hg : gCount n = 10 * (n * n) + 2 := by simp [gCount, hq]
    rw [hg]
    have hf := freq_any n w
    have hn : 1 ≤ n ∧ n ≤ 8 := by simpa [freqB] using hq
    have h64 : n * n ≤ 8 * 8 := Int.mul_le_mul hn.2 hn.2 (by omega) (by omega)
    have hnn : 0 ≤ n * n := Int.mul_nonneg (by omega) (by omega)
    have he : 10 * n * n = 10 * (n * n) := Int.mul_assoc ..
    rw [hq] at hf
    clear hg
    go_enter Tryz.func58, Tryz.ntmps58
    go_wp2_with fail
    refine hf.mono ?_
    rintro e w1 ⟨rfl, rfl⟩
    go_wp2_with fail
    go_ret
    exact ⟨rfl, rfl⟩
/-- A grid's nodes are fine. -/
theorem fine_nodes (m : Nat) (h1 : 1 ≤ m) (h8 : m ≤ 8) : Fine (nodes m) := by
  refine ⟨fun q hq => ?_, nodes_nodup m h1 h8⟩
  have := (validB_iff ..).1 (nodes_valid m h1 h8 q hq)
  exact ⟨WalkArith.wf_i64 (by omega), WalkArith.wf_i64 (by omega), WalkArith.wf_i64 (by omega), WalkArith.wf_i64 (by omega)⟩
set_option maxRecDepth 100000 in
set_option maxHeartbeats 2000000 in
theorem glocate_any (n f a b c : Int) (w : World) (hT : TabOk w) : Calls Tryz.prog 27 #[.int .i64 n, .agg #[.int .i64 f, .int .i64 a, .int .i64 b, .int .i64 c]] w fun e w' =>
    ∃ v, e = .returned (.tuple #[v, .int .i64 (gErr n f a b c)]) ∧ w'.ownsRow w.heap.size 54 2 v (gLoc n f a b c).length (cellsS (gLoc n f a b c)) ∧ Below w.heap.size w w' := by
  have hba : Below w.heap.size w (w.alloc (.cells #[.int .i64 f, .int .i64 a, .int .i64 b, .int .i64 c] 32)) := (Below.refl _ _).alloc (Nat.le_refl _) _
  have hB := blk_new w (.cells #[.int .i64 f, .int .i64 a, .int .i64 b, .int .i64 c] 32)
  have HT := Lib.hid (hT.below hba)
  have HBA := Lib.hid hba
  clear hT hba
  have hfr := fun W => freq_any n W
  cases hq : freqB n
  · have he : gErr n f a b c = 1 := by simp [gErr, okB, hq]
    have hl : gLoc n f a b c = [] := by simp [gLoc, okB, hq]
    rw [he, hl]
    rw [hq] at hfr
    clear he hl
    go_enter Tryz.func27, Tryz.ntmps27
    go_wp2_with fail
    refine (hfr _).mono ?_
    rintro e w1 ⟨rfl, rfl⟩
    go_wp2_with fail
    go_ret2
    exact ⟨_, rfl, World.ownsRow_nil _ _ _ _, HBA.out⟩
  · obtain ⟨m, rfl, h1, h8, hh⟩ := freq_nat hq
    rw [hq] at hfr
    cases hv : validB f a b c
    · have he : gErr m f a b c = 1 := by simp [gErr, okB, hv]
      have hl : gLoc m f a b c = [] := by simp [gLoc, okB, hv]
      rw [he, hl]
      have hva := fun W => valid_any f a b c W
      rw [hv] at hva
      clear he hl
      go_enter Tryz.func27, Tryz.ntmps27
      go_wp2_with fail
      refine (hfr _).mono ?_
      rintro e w1 ⟨rfl, rfl⟩
      go_wp2_with fail
      refine (hva _).mono ?_
      rintro e w2 ⟨rfl, hb2⟩
      have HB2 := Lib.hid (below_then HBA.out hb2 HBA.out.size)
      clear hb2
      go_wp2_with fail
      go_ret2
      exact ⟨_, rfl, World.ownsRow_nil _ _ _ _, HB2.out⟩
    · have he : gErr m f a b c = 0 := by simp [gErr, okB, hv, hq]
      have hl : gLoc m f a b c = locS (nodes m) (840 / m) m f a b c := by simp [gLoc, okB, hv, hq]
      rw [he, hl]
      have hva := fun W => valid_any f a b c W
      have HV := Lib.hid hv
      rw [hv] at hva
      have HH := Lib.hid hh
      have HF := Lib.hid (fine_nodes m h1 h8)
      clear he hl hh
      go_enter Tryz.func27, Tryz.ntmps27
      go_wp2_with fail
      refine (hfr _).mono ?_
      rintro e w1 ⟨rfl, rfl⟩
      go_wp2_with fail
      refine (hva _).mono ?_
      rintro e w2 ⟨rfl, hb2⟩
      have hB2 := blk_below hb2 hB (blk_lt hB)
      have p0 := blk_cell hB2 0 (.int .i64 f) rfl
      have p1 := blk_cell hB2 1 (.int .i64 a) rfl
      have p2 := blk_cell hB2 2 (.int .i64 b) rfl
      have p3 := blk_cell hB2 3 (.int .i64 c) rfl
      have HT2 := Lib.hid (HT.out.below hb2)
      have HB2 := Lib.hid (below_then HBA.out hb2 HBA.out.size)
      clear hb2 hB hB2
      go_wp2_with fail
      go_region_held3 (fun w' => w'.cell? ⟨w.heap.size, 0, none⟩ = some (.int .i64 f) ∧ w'.cell? ⟨w.heap.size, 1, none⟩ = some (.int .i64 a) ∧ w'.cell? ⟨w.heap.size, 2, none⟩ = some (.int .i64 b) ∧ w'.cell? ⟨w.heap.size, 3, none⟩ = some (.int .i64 c))
        (first | assumption | (refine ⟨?_, ?_, ?_, ?_⟩ <;> go_simp))
        (first
          | (go_at_call 50; go_must (refine (points_any m h1 h8 _ (by first | exact HT2.out | exact HT2.out.below (drewN_below (Below.refl _ _) _))).mono ?_; rintro e w3 ⟨V, rfl, hnet, hb3'⟩; have hb3 : Below w2.heap.size w2 w3 := ⟨hb3'.os, hb3'.tape, hb3'.output, hb3'.size, hb3'.block⟩; have HN3 := Lib.hid hnet.reads; have HT3 := Lib.hid (HT2.out.below hb3); have HB3 := Lib.hid (below_then HB2.out hb3 HB2.out.size); have k3 := keep4 ⟨p0, p1, p2, p3⟩ hb3; clear hb3 hb3' hnet))
          | (go_at_call 60; go_must (refine (locate_core f a b c HV.out _ HT3.out (840 / m) m _ _ h1 h8 HH.out _ HN3.out HF.out).mono ?_; rintro e w4 ⟨v, rfl, hown, hb4⟩; have HO4 := Lib.hid (own_mono hown HB3.out.size); have HB4 := Lib.hid (below_then HB3.out hb4 HB3.out.size); have k4 := keep4 k3 hb4; clear hown hb4)))
      all_goals
        go_wp2_with fail
        go_ret2
        exact ⟨v, rfl, HO4.out, HB4.out⟩
end Go.Proofs.YtcoddcdiimpndaaGreatDoor
