/-
  The walks of package place: each function's contract (what it returns; all that lay in memory before is left as it was), where the table of the corners holds what its initialiser lays.
-/
import Derived.Test.YtcoddcdiimpndaaDoorProg
import Derived.Test.YtcoddcdiimpndaaDoorPa1
import Derived.Test.YtcoddcdiimpndaaDoorPw0
import Derived.WalkKit
import Derived.Deep.QuietTactic
import Derived.BigQuiet
import Derived.BigRegion
import Derived.RegionTactic
import Derived.Deep.RegionWith
import Derived.ChangeAlike
import Derived.Lib.Hide
import Derived.Handy
set_option linter.unusedVariables false
set_option linter.unusedSimpArgs false
namespace Go.Proofs.YtcoddcdiimpndaaDoor
open Go.RowKit

/-- The table of the corners lies as its initialiser lays it. -/
structure TabOk (w : World) : Prop where
  pos : 0 < w.heap.size
  cell : ∀ i, i < 60 → w.cell? ⟨0, i, none⟩ = some (.int .i64 (tabL.getD i 0 : Nat))
theorem TabOk.below {w w' : World} (h : TabOk w) (hb : Below w.heap.size w w') : TabOk w' :=
  ⟨Nat.lt_of_lt_of_le h.pos hb.size, fun i hi => (hb.cell (p := ⟨0, i, none⟩) h.pos).trans (h.cell i hi)⟩
theorem TabOk.alloc {w : World} (h : TabOk w) (o : Obj) : TabOk (w.alloc o) := h.below ((Below.refl _ _).alloc (Nat.le_refl _) o)
theorem TabOk.drew {w : World} (h : TabOk w) : TabOk w.drew := h.below (Below.refl _ _).drew
theorem TabOk.cor {w : World} (h : TabOk w) (n i : Nat) (hn : n < 20) (hi : i < 3) : w.cell? ⟨0, n * 3 + i, none⟩ = some (.int .i64 (cor n i : Nat)) := by
  have := h.cell (n * 3 + i) (by omega)
  rw [this]
  unfold Proofs.YtcoddcdiimpndaaDoor.cor
  rw [Nat.mul_comm]
theorem cor_lt : ∀ n, n < 20 → cor n 0 < 12 ∧ cor n 1 < 12 ∧ cor n 2 < 12 ∧ cor n 0 ≠ cor n 1 ∧ cor n 0 ≠ cor n 2 ∧ cor n 1 ≠ cor n 2 := by decide

theorem face_any (n : Int) (w : World) : Calls Tryd.prog 38 #[.int .i64 n] w fun e w' => e = .returned (.bool (faceB n)) ∧ w = w' := by
  by_cases h : 0 ≤ n
  · have e : faceB n = decide (n < 20) := by simp [faceB, h]
    rw [e]
    clear e
    go_enter Tryd.func38, Tryd.ntmps38
    go_wp2
    go_ret
    exact ⟨rfl, rfl⟩
  · have e : faceB n = false := by simp [faceB, h]
    rw [e]
    clear e
    go_enter Tryd.func38, Tryd.ntmps38
    go_wp2
    go_ret
    exact ⟨rfl, rfl⟩

set_option maxHeartbeats 1000000 in
theorem valid_any (f a b c : Int) (w : World) : Calls Tryd.prog 25 #[.agg #[.int .i64 f, .int .i64 a, .int .i64 b, .int .i64 c]] w fun e w' => e = .returned (.bool (validB f a b c)) ∧ Below w.heap.size w w' := by
  have i0 : ∀ w, (Instr.index 75 (.agg #[.int .i64 a, .int .i64 b, .int .i64 c]) (.int .i64 0)).run Tryd.prog w = .ok (.int .i64 a) w := fun _ => by kernel_rfl
  have i1 : ∀ w, (Instr.index 75 (.agg #[.int .i64 a, .int .i64 b, .int .i64 c]) (.int .i64 1)).run Tryd.prog w = .ok (.int .i64 b) w := fun _ => by kernel_rfl
  have i2 : ∀ w, (Instr.index 75 (.agg #[.int .i64 a, .int .i64 b, .int .i64 c]) (.int .i64 2)).run Tryd.prog w = .ok (.int .i64 c) w := fun _ => by kernel_rfl
  by_cases ha : 0 ≤ a ∧ a ≤ 840
  · obtain ⟨a0, a1⟩ := ha
    by_cases hb : 0 ≤ b ∧ b ≤ 840
    · obtain ⟨b0, b1⟩ := hb
      by_cases hc : 0 ≤ c ∧ c ≤ 840
      · obtain ⟨c0, c1⟩ := hc
        have e : validB f a b c = (faceB f && (a + b + c == 840)) := by
          unfold validB faceB
          rw [Bool.eq_iff_iff]
          simp only [decide_eq_true_eq, Bool.and_eq_true, beq_iff_eq]
          omega
        rw [e]
        clear e
        go_enter Tryd.func25, Tryd.ntmps25
        go_wp2
        refine wp_loop_rounds 4 ?_
        rw [rounds_succ]; go_wp2
        rw [rounds_succ]; go_wp2
        rw [rounds_succ]; go_wp2
        rw [rounds_succ]; go_wp2_with fail
        refine (face_any _ _).mono ?_
        rintro e w' ⟨rfl, rfl⟩
        clear i0 i1 i2
        cases hf : faceB f
        all_goals
          go_wp2
          go_ret
          exact ⟨ret_bool (by simp [hf]), (Below.refl _ _).alloc (Nat.le_refl _) _⟩
      · have hn : c < 0 ∨ 840 < c := by omega
        have hv : validB f a b c = false := by unfold validB; rw [decide_eq_false_iff_not]; omega
        rw [hv]
        clear hc hv
        rcases hn with hn | hn
        all_goals
          go_enter Tryd.func25, Tryd.ntmps25
          go_wp2
          refine wp_loop_rounds 3 ?_
          rw [rounds_succ]; go_wp2
          rw [rounds_succ]; go_wp2
          rw [rounds_succ]; go_wp2
          go_ret
          exact ⟨rfl, (Below.refl _ _).alloc (Nat.le_refl _) _⟩
    · have hn : b < 0 ∨ 840 < b := by omega
      have hv : validB f a b c = false := by unfold validB; rw [decide_eq_false_iff_not]; omega
      rw [hv]
      clear hb hv
      rcases hn with hn | hn
      all_goals
        go_enter Tryd.func25, Tryd.ntmps25
        go_wp2
        refine wp_loop_rounds 2 ?_
        rw [rounds_succ]; go_wp2
        rw [rounds_succ]; go_wp2
        go_ret
        exact ⟨rfl, (Below.refl _ _).alloc (Nat.le_refl _) _⟩
  · have hn : a < 0 ∨ 840 < a := by omega
    have hv : validB f a b c = false := by unfold validB; rw [decide_eq_false_iff_not]; omega
    rw [hv]
    clear ha hv
    rcases hn with hn | hn
    all_goals
      go_enter Tryd.func25, Tryd.ntmps25
      go_wp2
      refine wp_loop_rounds 1 ?_
      rw [rounds_succ]; go_wp2
      go_ret
      exact ⟨rfl, (Below.refl _ _).alloc (Nat.le_refl _) _⟩

theorem list12 (X : Nat → Int) : ∀ j, j < 12 → ∀ h, ([.int .i64 (X 0), .int .i64 (X 1), .int .i64 (X 2), .int .i64 (X 3), .int .i64 (X 4), .int .i64 (X 5), .int .i64 (X 6), .int .i64 (X 7), .int .i64 (X 8), .int .i64 (X 9), .int .i64 (X 10), .int .i64 (X 11)] : List Value)[j]'h = .int .i64 (X j) := by
  intro j hj
  match j, hj with
  | 0, _ | 1, _ | 2, _ | 3, _ | 4, _ | 5, _ | 6, _ | 7, _ | 8, _ | 9, _ | 10, _ | 11, _ => intro _; rfl

set_option maxHeartbeats 2000000 in
theorem on_core (n : Nat) (hn : n < 20) (c0 c1 c2 : Nat) (k0 : c0 < 12) (k1 : c1 < 12) (k2 : c2 < 12) (X : Nat → Int) (w : World) (h0 : w.cell? ⟨0, n * 3, none⟩ = some (.int .i64 c0)) (h1 : w.cell? ⟨0, n * 3 + 1, none⟩ = some (.int .i64 c1)) (h2 : w.cell? ⟨0, n * 3 + 2, none⟩ = some (.int .i64 c2)) (hz : 0 < w.heap.size) :
    Calls Tryd.prog 61 #[.int .i64 n, .agg #[.int .i64 (X 0), .int .i64 (X 1), .int .i64 (X 2), .int .i64 (X 3), .int .i64 (X 4), .int .i64 (X 5), .int .i64 (X 6), .int .i64 (X 7), .int .i64 (X 8), .int .i64 (X 9), .int .i64 (X 10), .int .i64 (X 11)]] w fun e w' =>
      e = .returned (.tuple #[.agg #[.int .i64 n, .int .i64 (X c0), .int .i64 (X c1), .int .i64 (X c2)], .bool (validB n (X c0) (X c1) (X c2))]) ∧ Below w.heap.size w w' := by
  have X0 := list12 X c0 k0
  have X1 := list12 X c1 k1
  have X2 := list12 X c2 k2
  have m0 : (c0 : Int) < 12 := by omega
  have m1 : (c1 : Int) < 12 := by omega
  have m2 : (c2 : Int) < 12 := by omega
  go_enter Tryd.func61, Tryd.ntmps61
  go_wp2
  go_region
  go_wp2
  clear X0 X1 X2 h0 h1 h2
  go_region_with (go_at_call 25; refine (valid_any _ _ _ _ _).mono ?_; rintro e w1 ⟨rfl, hb⟩; obtain ⟨hc, hf⟩ := bcell hb)
  all_goals go_wp2
  all_goals
    have g0 : w1.cell? ⟨w.heap.size + 1, 0, none⟩ = some (.int .i64 0) := by rw [hc _ _ (by simp)]; simp [go_sem]
    have g1 : w1.cell? ⟨w.heap.size + 1, 1, none⟩ = some (.int .i64 0) := by rw [hc _ _ (by simp)]; simp [go_sem]
    have g2 : w1.cell? ⟨w.heap.size + 1, 2, none⟩ = some (.int .i64 0) := by rw [hc _ _ (by simp)]; simp [go_sem]
    have g3 : w1.cell? ⟨w.heap.size + 1, 3, none⟩ = some (.int .i64 0) := by rw [hc _ _ (by simp)]; simp [go_sem]
    clear hc hf
    refine bodyPost_ret (v := .tuple #[.agg #[.int .i64 n, .int .i64 (X c0), .int .i64 (X c1), .int .i64 (X c2)], .bool (validB n (X c0) (X c1) (X c2))]) ?_ rfl ⟨rfl, ?_⟩
    · simp [results, Tryd.results61, go_sem, g0, g1, g2, g3]
    · have hb2 : Below w.heap.size w w1 := ((((((Below.refl _ _).alloc (Nat.le_refl _) _).alloc (by simp) _).alloc (by simp; omega) _).alloc (by simp; omega) _).drew.drew).trans (hb.mono (by simp; omega))
      exact (((hb2.setCell (by simp) _).setCell (by simp) _).setCell (by simp) _).setCell (by simp) _

theorem on_any (n : Nat) (hn : n < 20) (X : Nat → Int) (w : World) (hT : TabOk w) :
    Calls Tryd.prog 61 #[.int .i64 n, .agg #[.int .i64 (X 0), .int .i64 (X 1), .int .i64 (X 2), .int .i64 (X 3), .int .i64 (X 4), .int .i64 (X 5), .int .i64 (X 6), .int .i64 (X 7), .int .i64 (X 8), .int .i64 (X 9), .int .i64 (X 10), .int .i64 (X 11)]] w fun e w' =>
      e = .returned (.tuple #[.agg #[.int .i64 n, .int .i64 (X (cor n 0)), .int .i64 (X (cor n 1)), .int .i64 (X (cor n 2))], .bool (validB n (X (cor n 0)) (X (cor n 1)) (X (cor n 2)))]) ∧ Below w.heap.size w w' := by
  obtain ⟨a, b, c, _⟩ := cor_lt n hn
  exact on_core n hn _ _ _ a b c X w (hT.cor n 0 hn (by omega)) (hT.cor n 1 hn (by omega)) (hT.cor n 2 hn (by omega)) hT.pos

theorem set12 (c0 c1 c2 : Nat) (k0 : c0 < 12) (k1 : c1 < 12) (k2 : c2 < 12) (a b c : Int) : ∀ j, j < 12 → ∀ h, (((([.int .i64 0, .int .i64 0, .int .i64 0, .int .i64 0, .int .i64 0, .int .i64 0, .int .i64 0, .int .i64 0, .int .i64 0, .int .i64 0, .int .i64 0, .int .i64 0] : List Value).set c0 (.int .i64 a)).set c1 (.int .i64 b)).set c2 (.int .i64 c))[j]'h = .int .i64 (if j = c2 then c else if j = c1 then b else if j = c0 then a else 0) := by
  intro j hj h
  simp only [List.getElem_set]
  have hz : ([.int .i64 0, .int .i64 0, .int .i64 0, .int .i64 0, .int .i64 0, .int .i64 0, .int .i64 0, .int .i64 0, .int .i64 0, .int .i64 0, .int .i64 0, .int .i64 0] : List Value)[j]'(by simpa using hj) = .int .i64 0 := list12 (fun _ => 0) j hj _
  rw [hz]
  by_cases h2 : c2 = j
  · rw [if_pos h2, if_pos h2.symm]
  · rw [if_neg h2, if_neg (Ne.symm h2)]
    by_cases h1 : c1 = j
    · rw [if_pos h1, if_pos h1.symm]
    · rw [if_neg h1, if_neg (Ne.symm h1)]
      by_cases h0 : c0 = j
      · rw [if_pos h0, if_pos h0.symm]
      · rw [if_neg h0, if_neg (Ne.symm h0)]

set_option maxHeartbeats 2000000 in
theorem of_core (n : Nat) (hn : n < 20) (c0 c1 c2 : Nat) (k0 : c0 < 12) (k1 : c1 < 12) (k2 : c2 < 12) (n1 : c0 ≠ c1) (n2 : c0 ≠ c2) (n3 : c1 ≠ c2) (a b c : Int) (w : World) (h0 : w.cell? ⟨0, n * 3, none⟩ = some (.int .i64 c0)) (h1 : w.cell? ⟨0, n * 3 + 1, none⟩ = some (.int .i64 c1)) (h2 : w.cell? ⟨0, n * 3 + 2, none⟩ = some (.int .i64 c2)) (hz : 0 < w.heap.size)
    (Y : Nat → Int) (hY : ∀ j, j < 12 → ∀ h, (((([.int .i64 0, .int .i64 0, .int .i64 0, .int .i64 0, .int .i64 0, .int .i64 0, .int .i64 0, .int .i64 0, .int .i64 0, .int .i64 0, .int .i64 0, .int .i64 0] : List Value).set c0 (.int .i64 a)).set c1 (.int .i64 b)).set c2 (.int .i64 c))[j]'h = .int .i64 (Y j)) :
    Calls Tryd.prog 60 #[.agg #[.int .i64 n, .int .i64 a, .int .i64 b, .int .i64 c]] w fun e w' =>
      e = .returned (.agg #[.int .i64 (Y 0), .int .i64 (Y 1), .int .i64 (Y 2), .int .i64 (Y 3), .int .i64 (Y 4), .int .i64 (Y 5), .int .i64 (Y 6), .int .i64 (Y 7), .int .i64 (Y 8), .int .i64 (Y 9), .int .i64 (Y 10), .int .i64 (Y 11)]) ∧ Below w.heap.size w w' := by
  have m0 : (c0 : Int) < 12 := by omega
  have m1 : (c1 : Int) < 12 := by omega
  have m2 : (c2 : Int) < 12 := by omega
  have y0 := hY 0 (by omega)
  have y1 := hY 1 (by omega)
  have y2 := hY 2 (by omega)
  have y3 := hY 3 (by omega)
  have y4 := hY 4 (by omega)
  have y5 := hY 5 (by omega)
  have y6 := hY 6 (by omega)
  have y7 := hY 7 (by omega)
  have y8 := hY 8 (by omega)
  have y9 := hY 9 (by omega)
  have y10 := hY 10 (by omega)
  have y11 := hY 11 (by omega)
  clear hY
  go_enter Tryd.func60, Tryd.ntmps60
  go_wp2
  go_region
  go_wp2
  refine bodyPost_ret (v := .agg #[.int .i64 (Y 0), .int .i64 (Y 1), .int .i64 (Y 2), .int .i64 (Y 3), .int .i64 (Y 4), .int .i64 (Y 5), .int .i64 (Y 6), .int .i64 (Y 7), .int .i64 (Y 8), .int .i64 (Y 9), .int .i64 (Y 10), .int .i64 (Y 11)]) (by simp [results, Tryd.results60, go_sem]) rfl ⟨rfl, ?_⟩
  exact (((((Below.refl _ _).alloc (Nat.le_refl _) _).alloc (by simp) _).alloc (by simp; omega) _).alloc (by simp; omega) _).drew

theorem of_any (f a b c : Int) (hf0 : 0 ≤ f) (hf1 : f < 20) (w : World) (hT : TabOk w) :
    Calls Tryd.prog 60 #[.agg #[.int .i64 f, .int .i64 a, .int .i64 b, .int .i64 c]] w fun e w' =>
      e = .returned (.agg #[.int .i64 (wt f a b c 0), .int .i64 (wt f a b c 1), .int .i64 (wt f a b c 2), .int .i64 (wt f a b c 3), .int .i64 (wt f a b c 4), .int .i64 (wt f a b c 5), .int .i64 (wt f a b c 6), .int .i64 (wt f a b c 7), .int .i64 (wt f a b c 8), .int .i64 (wt f a b c 9), .int .i64 (wt f a b c 10), .int .i64 (wt f a b c 11)]) ∧ Below w.heap.size w w' := by
  obtain ⟨n, rfl⟩ := Int.eq_ofNat_of_zero_le hf0
  have hn : n < 20 := by omega
  obtain ⟨k0, k1, k2, n1, n2, n3⟩ := cor_lt n hn
  refine of_core n hn _ _ _ k0 k1 k2 n1 n2 n3 a b c w (hT.cor n 0 hn (by omega)) (hT.cor n 1 hn (by omega)) (hT.cor n 2 hn (by omega)) hT.pos (wt n a b c) ?_
  intro j hj h
  rw [set12 _ _ _ k0 k1 k2 a b c j hj h]
  unfold wt
  rw [show Int.toNat (n : Int) = n from rfl]
  by_cases h0 : j = cor n 0
  · rw [if_pos h0, if_neg (by omega), if_neg (by omega), if_pos h0]
  · rw [if_neg h0, if_neg h0]
    by_cases h1 : j = cor n 1
    · rw [if_pos h1, if_neg (by omega), if_pos h1]
    · rw [if_neg h1, if_neg h1]
end Go.Proofs.YtcoddcdiimpndaaDoor
