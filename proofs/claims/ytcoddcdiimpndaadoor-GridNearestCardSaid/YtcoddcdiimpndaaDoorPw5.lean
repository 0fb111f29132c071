/-
  The walks of the reference of layer 2: all addresses of a place.
-/
import Derived.Test.YtcoddcdiimpndaaDoorPw4
import Derived.Test.YtcoddcdiimpndaaDoorPv0
set_option linter.unusedVariables false
set_option linter.unusedSimpArgs false
namespace Go.Proofs.YtcoddcdiimpndaaDoor
open Go.RowKit

/-- Do the weights X lie on face n? -/
def okS (X : Nat → Int) (n : Nat) : Bool := X (cor n 0) + X (cor n 1) + X (cor n 2) == 840
def plAt (X : Nat → Int) (n : Nat) : Pl := ⟨n, X (cor n 0), X (cor n 1), X (cor n 2)⟩
def adrTo (X : Nat → Int) (k : Nat) : List Pl := ((List.range k).filter (okS X)).map (plAt X)
theorem adrTo_zero (X : Nat → Int) : adrTo X 0 = [] := rfl
theorem adrTo_yes (X : Nat → Int) (k : Nat) (h : okS X k = true) : adrTo X (k + 1) = adrTo X k ++ [plAt X k] := by simp [adrTo, List.range_succ, List.filter_append, h]
theorem adrTo_no (X : Nat → Int) (k : Nat) (h : okS X k = false) : adrTo X (k + 1) = adrTo X k := by simp [adrTo, List.range_succ, List.filter_append, h]
theorem adrTo_length (X : Nat → Int) (k : Nat) : (adrTo X k).length ≤ k := by
  unfold adrTo
  rw [List.length_map]
  exact Nat.le_trans (List.length_filter_le _ _) (by simp)

theorem infoP : (Tryd.prog.info? 23).map (fun i => (i.zero, i.size, i.bytes)) = some (some (.agg #[.int .i64 0, .int .i64 0, .int .i64 0, .int .i64 0]), 4, 32) := by kernel_rfl

set_option maxHeartbeats 4000000 in
theorem addresses_core (f a b c : Int) (hv : validB f a b c = true) (w : World) (X : Nat → Int) (hX : wt f a b c = X) (hXb : ∀ j, 0 ≤ X j ∧ X j ≤ 840) :
    Calls Tryd.prog 40 #[.agg #[.int .i64 f, .int .i64 a, .int .i64 b, .int .i64 c]] w fun e w' =>
      ∃ v, e = .returned (.tuple #[v, .int .i64 0]) ∧ w'.ownsRow w.heap.size 23 4 v (adrTo X 20).length (cellsP (adrTo X 20)) ∧ Below w.heap.size w w' := by
  have hf := (validB_iff ..).1 hv
  have hf0 := hf.1
  have hf1 := hf.2.1
  have HXb := Lib.hid hXb
  clear hf hXb
  go_enter Tryd.func40, Tryd.ntmps40
  go_wp2_with fail
  refine (valid2_any _ _ _ _ _).mono ?_
  rintro e w1 ⟨rfl, hb1⟩
  rw [hv]
  have hs1 := hb1.size
  simp at hs1
  have B0 : w1.heap[w.heap.size]? = some (.cells #[.int .i64 f, .int .i64 a, .int .i64 b, .int .i64 c] 23 (0, 0)) := blk_below hb1 (blk_new w _) (by simp only [World.size_alloc]; omega)
  have hbw1 : Below w.heap.size w w1 := below_then ((Below.refl _ _).alloc (Nat.le_refl _) _) hb1 (by simp)
  have p0 := blk_cell B0 0 (.int .i64 f) rfl
  have p1 := blk_cell B0 1 (.int .i64 a) rfl
  have p2 := blk_cell B0 2 (.int .i64 b) rfl
  have p3 := blk_cell B0 3 (.int .i64 c) rfl
  have HBW1 := Lib.hid hbw1
  clear B0 hb1 hbw1
  go_wp2_with fail
  refine (weights_any f a b c hf0 hf1 _).mono ?_
  rintro e w2 ⟨rfl, hb2⟩
  have hs2 := hb2.size
  have HBW2 := Lib.hid (below_then HBW1.out hb2 HBW1.out.size)
  clear HBW1 hb2 p0 p1 p2 p3 hv
  rw [hX]
  go_wp2
  go_loopw [5, 6] (fun v i wr => ∃ k : Nat, k ≤ 20 ∧ i = .int .i64 k ∧ wr.ownsRow (w2.heap.size + 1) 23 4 v (adrTo X k).length (cellsP (adrTo X k)) ∧ Below (w2.heap.size + 1) (w2.alloc (.cells #[.int .i64 (X 0), .int .i64 (X 1), .int .i64 (X 2), .int .i64 (X 3), .int .i64 (X 4), .int .i64 (X 5), .int .i64 (X 6), .int .i64 (X 7), .int .i64 (X 8), .int .i64 (X 9), .int .i64 (X 10), .int .i64 (X 11)] 92)) wr) (fun _ i _ => 20 - (intOf i).toNat)
  case atStart => exact ⟨0, Nat.zero_le _, rfl, World.ownsRow_nil _ _ _ _, Below.refl _ _⟩
  case round =>
    obtain ⟨k, hk, rfl, hown, hb⟩ := hrel
    have hsz := hb.size
    simp at hsz
    have HBR := Lib.hid hb
    have HOWN := Lib.hid hown
    by_cases hk20 : k < 20
    · have BX := blk_below hb (blk_new w2 _) (by omega)
      have x0 := blk_cell BX 0 (.int .i64 (X 0)) rfl
      have x1 := blk_cell BX 1 (.int .i64 (X 1)) rfl
      have x2 := blk_cell BX 2 (.int .i64 (X 2)) rfl
      have x3 := blk_cell BX 3 (.int .i64 (X 3)) rfl
      have x4 := blk_cell BX 4 (.int .i64 (X 4)) rfl
      have x5 := blk_cell BX 5 (.int .i64 (X 5)) rfl
      have x6 := blk_cell BX 6 (.int .i64 (X 6)) rfl
      have x7 := blk_cell BX 7 (.int .i64 (X 7)) rfl
      have x8 := blk_cell BX 8 (.int .i64 (X 8)) rfl
      have x9 := blk_cell BX 9 (.int .i64 (X 9)) rfl
      have x10 := blk_cell BX 10 (.int .i64 (X 10)) rfl
      have x11 := blk_cell BX 11 (.int .i64 (X 11)) rfl
      clear BX hb hown
      go_wp2_with fail
      refine (on2_any k hk20 X HXb.out _).mono ?_
      rintro e w3 ⟨rfl, hb3⟩
      clear x0 x1 x2 x3 x4 x5 x6 x7 x8 x9 x10 x11
      have hs3 := hb3.size
      have HB4 := Lib.hid (HBR.out.trans (hb3.mono hsz))
      have HO3 := Lib.hid (own_below HOWN.out hb3)
      clear hb3
      cases hok : okS X k
      · have hno := hok
        unfold okS at hno
        rw [hno]
        have HN := Lib.hid (adrTo_no X k hok)
        clear hno hok
        go_wp2
        go_roundw
        case rel => exact ⟨k + 1, by omega, by go_num, by rw [HN.out]; exact HO3.out.alloc _, HB4.out.alloc (Nat.le_trans hsz hs3) _⟩
        case measure => simp [intOf]; omega
      · have hyes := hok
        unfold okS at hyes
        rw [hyes]
        have HN := Lib.hid (adrTo_yes X k hok)
        have hlen := adrTo_length X k
        clear hyes hok
        go_wp2_with (at_builtin; refine app_one (w2.heap.size + 1) rfl _ _ 30 23 _ 4 32 rfl Tryd.underlying30 infoP rfl (by decide) (by decide) _ _ _ [.int .i64 k, .int .i64 (X (cor k 0)), .int .i64 (X (cor k 1)), .int .i64 (X (cor k 2))] rfl (by simp [Value.oneCell']) rfl (by simp [go_sem, Act.eval]) (HO3.out.alloc _) (HB4.out.alloc (Nat.le_trans hsz hs3) _) (by simp; omega) (by omega) ?_; intro g cap w4 hown4 hb4 hg4 hlt4)
        go_roundw
        case rel => exact ⟨k + 1, by omega, by go_num, by rw [HN.out, cellsP_snoc, List.length_append]; exact hown4, hb4⟩
        case measure => simp [intOf]; omega
    · obtain rfl : k = 20 := by omega
      clear hb hown
      go_wp2
      go_ret2
      refine ⟨_, rfl, own_mono HOWN.out ?_, ?_⟩
      · have := HBW2.out.size
        omega
      · exact (HBW2.out.alloc HBW2.out.size _).trans (HBR.out.mono (Nat.le_succ_of_le HBW2.out.size))

end Go.Proofs.YtcoddcdiimpndaaDoor
