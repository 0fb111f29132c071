/-
  The walks of mesh that read a grid: at, Index, moved, upward, downward; Frequency.
-/
import Derived.Test.YtcoddcdiimpndaaGreatDoorM01
import Derived.Test.YtcoddcdiimpndaaGreatDoorM02
set_option linter.unusedVariables false
set_option linter.unusedSimpArgs false
namespace Go.Proofs.YtcoddcdiimpndaaGreatDoor
open Go.RowKit

def freqB (n : Int) : Bool := decide (1 ≤ n ∧ n ≤ 8)
theorem freq_any (n : Int) (w : World) : Calls Tryz.prog 49 #[.int .i64 n] w fun e w' => e = .returned (.bool (freqB n)) ∧ w = w' := by
  by_cases h : 1 ≤ n
  · have e : freqB n = decide (n ≤ 8) := by simp [freqB, h]
    rw [e]
    clear e
    go_enter Tryz.func49, Tryz.ntmps49
    go_wp2
    go_ret
    exact ⟨rfl, rfl⟩
  · have e : freqB n = false := by simp [freqB, h]
    rw [e]
    clear e
    go_enter Tryz.func49, Tryz.ntmps49
    go_wp2
    go_ret
    exact ⟨rfl, rfl⟩

set_option maxHeartbeats 2000000 in
theorem at_any (f a b c : Int) (hv : validB f a b c = true) (w : World) (hT : TabOk w) (h n g gm : Nat) (l : List Pl) (hN : NetR w h n g gm l) (hl : Fine l) :
    Calls Tryz.prog 100 #[.pointer (some ⟨g, 0, none⟩), .agg #[.int .i64 f, .int .i64 a, .int .i64 b, .int .i64 c]] w fun e w' => e = .returned (.int .i64 (ix l (normPl f a b c) : Nat)) ∧ Below w.heap.size w w' := by
  have HT := Lib.hid hT
  have HN := Lib.hid hN
  clear hT hN
  go_enter Tryz.func100, Tryz.ntmps100
  go_wp2_with fail
  refine (normal_yes f a b c hv _ (HT.out.alloc _)).mono ?_
  rintro e w1 ⟨rfl, hb1⟩
  have hs1 := hb1.size
  simp at hs1
  have hbw1 : Below w.heap.size w w1 := below_then ((Below.refl _ _).alloc (Nat.le_refl _) _) hb1 (by simp)
  have HB1 := Lib.hid hbw1
  have hN1 := HN.out.below hbw1
  have c3 := hN1.c3
  have hlt := hN1.lt
  have hlook := (hN1.map.below ((Below.refl _ _).alloc (Nat.le_refl _) (.cells #[.int .i64 (nf f a b c : Nat), .int .i64 (nc f a b c 0), .int .i64 (nc f a b c 1), .int .i64 (nc f a b c 2)] 32)).drew).look hl.wf hl.nodup (normPl f a b c) (normPl_wf f a b c hv)
  simp only [normPl] at hlook
  clear hb1 hbw1 hN1 hl hv
  go_wp2
  go_region
  go_wp2
  go_ret
  exact ⟨rfl, (below_alloc HB1.out _).drew⟩

set_option maxHeartbeats 2000000 in
theorem netIndex_any (f a b c : Int) (hv : validB f a b c = true) (w : World) (hT : TabOk w) (h n g gm : Nat) (l : List Pl) (hN : NetR w h n g gm l) (hl : Fine l) :
    Calls Tryz.prog 67 #[.pointer (some ⟨g, 0, none⟩), .agg #[.int .i64 f, .int .i64 a, .int .i64 b, .int .i64 c]] w fun e w' =>
      e = .returned (.tuple #[.int .i64 (ix l (normPl f a b c) : Nat), .bool (decide (normPl f a b c ∈ l))]) ∧ Below w.heap.size w w' := by
  generalize hdin : decide (normPl f a b c ∈ l) = din
  have HD := Lib.hid hdin
  have HT := Lib.hid hT
  have HN := Lib.hid hN
  clear hT hN hdin
  go_enter Tryz.func67, Tryz.ntmps67
  go_wp2_with fail
  refine (normal_yes f a b c hv _ (HT.out.alloc _)).mono ?_
  rintro e w1 ⟨rfl, hb1⟩
  have hs1 := hb1.size
  simp at hs1
  have hbw1 : Below w.heap.size w w1 := below_then ((Below.refl _ _).alloc (Nat.le_refl _) _) hb1 (by simp)
  have HB1 := Lib.hid hbw1
  have hN1 := HN.out.below hbw1
  have c3 := hN1.c3
  have hlt := hN1.lt
  have hlook := (hN1.map.below ((Below.refl _ _).alloc (Nat.le_refl _) (.cells #[.int .i64 (nf f a b c : Nat), .int .i64 (nc f a b c 0), .int .i64 (nc f a b c 1), .int .i64 (nc f a b c 2)] 32)).drew).look_ok hl.wf hl.nodup (normPl f a b c) (normPl_wf f a b c hv)
  rw [HD.out] at hlook
  simp only [normPl] at hlook
  clear hb1 hbw1 hN1 hl hv
  go_wp2
  go_region
  go_wp2
  go_ret2
  exact ⟨rfl, (below_alloc HB1.out _).drew⟩

set_option maxHeartbeats 2000000 in
theorem moved_any (f a b c x y z : Int) (h1 : 0 ≤ a + x ∧ a + x ≤ 1000000) (h2 : 0 ≤ b + y ∧ b + y ≤ 1000000) (h3 : 0 ≤ c + z ∧ c + z ≤ 1000000) (w : World) :
    Calls Tryz.prog 99 #[.agg #[.int .i64 f, .int .i64 a, .int .i64 b, .int .i64 c], .int .i64 x, .int .i64 y, .int .i64 z] w fun e w' =>
      e = .returned (.agg #[.int .i64 f, .int .i64 (a + x), .int .i64 (b + y), .int .i64 (c + z)]) ∧ (w.alloc (.cells #[.int .i64 f, .int .i64 a, .int .i64 b, .int .i64 c] 32)).alloc (.cells #[.int .i64 f, .int .i64 (a + x), .int .i64 (b + y), .int .i64 (c + z)] 32) = w' := by
  obtain ⟨h1a, h1b⟩ := h1
  obtain ⟨h2a, h2b⟩ := h2
  obtain ⟨h3a, h3b⟩ := h3
  go_enter Tryz.func99, Tryz.ntmps99
  go_wp2
  refine bodyPost_ret (v := .agg #[.int .i64 f, .int .i64 (a + x), .int .i64 (b + y), .int .i64 (c + z)]) (by simp [results, Tryz.results99, go_sem]) rfl ⟨rfl, rfl⟩
end Go.Proofs.YtcoddcdiimpndaaGreatDoor
