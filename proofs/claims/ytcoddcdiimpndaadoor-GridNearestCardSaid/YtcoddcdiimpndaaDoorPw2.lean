/-
  The walk of place.Normal: the normal place of a valid one; the zero place and the error of ranges else.
-/
import Derived.Test.YtcoddcdiimpndaaDoorPw1
set_option linter.unusedVariables false
set_option linter.unusedSimpArgs false
namespace Go.Proofs.YtcoddcdiimpndaaDoor
open Go.RowKit
set_option maxHeartbeats 2000000 in
theorem normal_core (f a b c : Int) (hv : validB f a b c = true) (w : World) (hT : TabOk w) (X : Nat → Int) (hX : wt f a b c = X) (m : Nat) (hm : m < 20) (h1 : okAt X m = true) (h2 : ∀ j, j < m → okAt X j = false) :
    Calls Tryd.prog 39 #[.agg #[.int .i64 f, .int .i64 a, .int .i64 b, .int .i64 c]] w fun e w' =>
      e = .returned (.tuple #[.agg #[.int .i64 m, .int .i64 (X (cor m 0)), .int .i64 (X (cor m 1)), .int .i64 (X (cor m 2))], .int .i64 0]) ∧ Below w.heap.size w w' := by
  have hf := (validB_iff ..).1 hv
  have HT := Lib.hid hT
  have H2 := Lib.hid h2
  have H1 := Lib.hid h1
  have hf0 := hf.1
  have hf1 := hf.2.1
  clear hT h1 h2 hf
  go_enter Tryd.func39, Tryd.ntmps39
  go_wp2_with fail
  refine (valid_any _ _ _ _ _).mono ?_
  rintro e w1 ⟨rfl, hb1⟩
  rw [hv]
  have hs1 := hb1.size
  simp at hs1
  have B1 : w1.heap[w.heap.size + 1]? = some (.cells #[.int .i64 0, .int .i64 0, .int .i64 0, .int .i64 0] 23 (0, 0)) := blk_below hb1 (by simpa using blk_new (w.alloc _) _) (by simp)
  have B0 : w1.heap[w.heap.size]? = some (.cells #[.int .i64 f, .int .i64 a, .int .i64 b, .int .i64 c] 23 (0, 0)) := blk_below hb1 (blk_old _ (blk_new w _)) (by simp only [World.size_alloc]; omega)
  have hbw1 : Below w.heap.size w w1 := below_then (((Below.refl _ _).alloc (Nat.le_refl _) _).alloc (by simp) _) hb1 (by simp; omega)
  have p0 := blk_cell B0 0 _ rfl
  have p1 := blk_cell B0 1 _ rfl
  have p2 := blk_cell B0 2 _ rfl
  have p3 := blk_cell B0 3 _ rfl
  have HB1 := Lib.hid B1
  have HBW1 := Lib.hid hbw1
  clear B1 B0 hb1 hbw1
  go_wp2_with fail
  refine (of_any f a b c hf0 hf1 _ (HT.out.below HBW1.out)).mono ?_
  rintro e w2 ⟨rfl, hb2⟩
  have hs2 := hb2.size
  have B2 := blk_below hb2 HB1.out (by omega)
  have HB2 := Lib.hid B2
  have hbw2 : Below w.heap.size w w2 := below_then HBW1.out hb2 HBW1.out.size
  have HT2 := Lib.hid (HT.out.below hbw2)
  have HBW2 := Lib.hid hbw2
  clear HT HB1 HBW1 hb2 p0 p1 p2 p3 hv B2 hbw2
  rw [hX]
  go_wp2
  go_loopw [14] (fun i wr => ∃ k : Nat, k ≤ m ∧ i = .int .i64 k ∧ Below (w2.heap.size + 1) (w2.alloc (.cells #[.int .i64 (X 0), .int .i64 (X 1), .int .i64 (X 2), .int .i64 (X 3), .int .i64 (X 4), .int .i64 (X 5), .int .i64 (X 6), .int .i64 (X 7), .int .i64 (X 8), .int .i64 (X 9), .int .i64 (X 10), .int .i64 (X 11)] 93)) wr) (fun i _ => 20 - (intOf i).toNat)
  case atStart => exact ⟨0, Nat.zero_le _, rfl, Below.refl _ _⟩
  case round =>
    obtain ⟨k, hk, rfl, hb⟩ := hrel
    have hk20 : k < 20 := by omega
    have hsz := hb.size
    simp at hsz
    have HBR := Lib.hid hb
    have BX := blk_below hb (blk_new w2 _) (by omega)
    have x0 := blk_cell BX 0 (.int .i64 (X 0)) rfl
    have x1 := blk_cell BX 1 (.int .i64 (X 1)) rfl
    have x2 := blk_cell BX 2 (.int .i64 (X 2)) rfl
    have x3 := blk_cell BX 3 (.int .i64 (X 3)) rfl
    have x4 := blk_cell BX 4 (.int .i64 (X 4)) rfl
    have x5 := blk_cell BX 5 (.int .i64 (X 5)) rfl
    have x6 := blk_cell BX 6 (.int .i64 (X 6)) rfl
    have x7 := blk_cell BX 7 (.int .i64 (X 7)) rfl
    have x8 := blk_cell BX 8 (.int .i64 (X 8)) rfl
    have x9 := blk_cell BX 9 (.int .i64 (X 9)) rfl
    have x10 := blk_cell BX 10 (.int .i64 (X 10)) rfl
    have x11 := blk_cell BX 11 (.int .i64 (X 11)) rfl
    have BR := blk_below hb (blk_old _ HB2.out) (by omega)
    have HTr := Lib.hid (HT2.out.below ((Below.refl _ _).alloc (Nat.le_refl _) _ |>.trans (hb.mono (by omega))))
    have HBR2 := Lib.hid BR
    clear BX BR hb
    go_wp2_with fail
    refine (on_any k hk20 X _ HTr.out).mono ?_
    rintro e w3 ⟨rfl, hb3⟩
    clear x0 x1 x2 x3 x4 x5 x6 x7 x8 x9 x10 x11
    have hs3 := hb3.size
    have B3 := blk_below hb3 HBR2.out (by omega)
    have y0 := blk_cell B3 0 (.int .i64 0) rfl
    have y1 := blk_cell B3 1 (.int .i64 0) rfl
    have y2 := blk_cell B3 2 (.int .i64 0) rfl
    have y3 := blk_cell B3 3 (.int .i64 0) rfl
    have yf := blk_free B3
    have hb4 := HBR.out.trans (hb3.mono hsz)
    have HB4 := Lib.hid hb4
    have hz3 : w.heap.size + 1 < w3.heap.size := blk_lt B3
    clear HBR2 B3 HTr hb3 hb4
    rcases Nat.lt_or_ge k m with hkm | hkm
    · have hno := H2.out k hkm
      unfold okAt at hno
      rw [hno]
      go_wp2
      go_roundw
      case rel => exact ⟨k + 1, by omega, by go_num, below_then HB4.out ((Below.refl _ _).alloc (Nat.le_refl _) _) (Nat.le_trans hsz hs3)⟩
      case measure => simp [intOf]; omega
    · obtain rfl : k = m := Nat.le_antisymm hk hkm
      have hyes := H1.out
      unfold okAt at hyes
      rw [hyes]
      go_wp2
      refine bodyPost_ret (v := .tuple #[.agg #[.int .i64 k, .int .i64 (X (cor k 0)), .int .i64 (X (cor k 1)), .int .i64 (X (cor k 2))], .int .i64 0]) (by simp [results, Tryd.results39, go_sem, y0, y1, y2, y3, hz3]) rfl ⟨rfl, ?_⟩
      repeat (first | refine below_alloc ?_ _ | refine Below.drew ?_ | refine Below.setCell ?_ (by exact Nat.le_succ _) _)
      exact (HBW2.out.alloc HBW2.out.size _).trans (HB4.out.mono (Nat.le_succ_of_le HBW2.out.size))

/-- The normal place of a valid one. -/
theorem normal_yes (f a b c : Int) (hv : validB f a b c = true) (w : World) (hT : TabOk w) :
    Calls Tryd.prog 39 #[.agg #[.int .i64 f, .int .i64 a, .int .i64 b, .int .i64 c]] w fun e w' =>
      e = .returned (.tuple #[.agg #[.int .i64 (nf f a b c), .int .i64 (nc f a b c 0), .int .i64 (nc f a b c 1), .int .i64 (nc f a b c 2)], .int .i64 0]) ∧ Below w.heap.size w w' := by
  obtain ⟨h1, _, h2, h3⟩ := nf_spec f a b c hv
  exact normal_core f a b c hv w hT _ rfl _ h1 h2 h3

/-- Of an invalid place. -/
theorem normal_no (f a b c : Int) (hv : validB f a b c = false) (w : World) :
    Calls Tryd.prog 39 #[.agg #[.int .i64 f, .int .i64 a, .int .i64 b, .int .i64 c]] w fun e w' =>
      e = .returned (.tuple #[.agg #[.int .i64 0, .int .i64 0, .int .i64 0, .int .i64 0], .int .i64 1]) ∧ Below w.heap.size w w' := by
  go_enter Tryd.func39, Tryd.ntmps39
  go_wp2_with fail
  refine (valid_any _ _ _ _ _).mono ?_
  rintro e w1 ⟨rfl, hb1⟩
  rw [hv]
  have hs1 := hb1.size
  simp at hs1
  have B1 : w1.heap[w.heap.size + 1]? = some (.cells #[.int .i64 0, .int .i64 0, .int .i64 0, .int .i64 0] 23 (0, 0)) := blk_below hb1 (by simpa using blk_new (w.alloc _) _) (by simp)
  have hbw1 : Below w.heap.size w w1 := below_then (((Below.refl _ _).alloc (Nat.le_refl _) _).alloc (by simp) _) hb1 (by simp; omega)
  have y0 := blk_cell B1 0 (.int .i64 0) rfl
  have y1 := blk_cell B1 1 (.int .i64 0) rfl
  have y2 := blk_cell B1 2 (.int .i64 0) rfl
  have y3 := blk_cell B1 3 (.int .i64 0) rfl
  have yf := blk_free B1
  have hz3 : w.heap.size + 1 < w1.heap.size := by omega
  have HBW1 := Lib.hid hbw1
  clear B1 hbw1 hb1
  go_wp2
  refine bodyPost_ret (v := .tuple #[.agg #[.int .i64 0, .int .i64 0, .int .i64 0, .int .i64 0], .int .i64 1]) (by simp [results, Tryd.results39, go_sem, y0, y1, y2, y3, hz3]) rfl ⟨rfl, ?_⟩
  repeat (first | refine below_alloc ?_ _ | refine Below.drew ?_ | refine Below.setCell ?_ (by exact Nat.le_succ _) _)
  exact HBW1.out
end Go.Proofs.YtcoddcdiimpndaaDoor
