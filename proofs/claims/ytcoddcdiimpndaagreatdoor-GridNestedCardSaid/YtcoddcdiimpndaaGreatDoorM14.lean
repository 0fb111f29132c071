/-
  The walks of the reference of layer 2: the address of weights on a face; all addresses; the normal place; whether a place is normal.
  The walks of the reference of layer 2: all addresses of a place.
  The walks of the reference of layer 2: the normal place, and whether a place is normal.
  The walk of the reference of layer 2: whether a place is normal.
  The reference's less and find: comparing two places; a search in a rising list.
-/
import Derived.Test.YtcoddcdiimpndaaGreatDoorM13
import Derived.OwnWalk
import Derived.Deep.AppendLies
import Derived.Test.YtcoddcdiimpndaaGreatDoorM02
import Derived.Deep.RegionHeld3
import Derived.Deep.DrawnRows
import Derived.Deep.DeepCutAuto
import Derived.Deep.DeepMust
set_option linter.unusedVariables false
set_option linter.unusedSimpArgs false
namespace Go.Proofs.YtcoddcdiimpndaaGreatDoor
open Go.RowKit

set_option maxHeartbeats 2000000 in
theorem on2_core (n : Nat) (hn : n < 20) (c0 c1 c2 : Nat) (k0 : c0 < 12) (k1 : c1 < 12) (k2 : c2 < 12) (X : Nat → Int) (w : World)
    (b0 : 0 ≤ X c0) (b1 : 0 ≤ X c1) (b2 : 0 ≤ X c2) (d0 : X c0 ≤ 840) (d1 : X c1 ≤ 840) (d2 : X c2 ≤ 840)
    (hcor : ∀ W : World, Calls Tryz.prog 61 #[.int .i64 n] W fun e w' => e = .returned (.tuple #[.agg #[.int .i64 c0, .int .i64 c1, .int .i64 c2], .int .i64 0]) ∧ W.alloc (.cells #[.int .i64 c0, .int .i64 c1, .int .i64 c2] 97) = w') :
    Calls Tryz.prog 63 #[.int .i64 n, .agg #[.int .i64 (X 0), .int .i64 (X 1), .int .i64 (X 2), .int .i64 (X 3), .int .i64 (X 4), .int .i64 (X 5), .int .i64 (X 6), .int .i64 (X 7), .int .i64 (X 8), .int .i64 (X 9), .int .i64 (X 10), .int .i64 (X 11)]] w fun e w' =>
      e = .returned (.tuple #[.agg #[.int .i64 n, .int .i64 (X c0), .int .i64 (X c1), .int .i64 (X c2)], .bool (X c0 + X c1 + X c2 == 840)]) ∧ Below w.heap.size w w' := by
  have X0 := list12 X c0 k0
  have X1 := list12 X c1 k1
  have X2 := list12 X c2 k2
  have m0 : (c0 : Int) < 12 := by omega
  have m1 : (c1 : Int) < 12 := by omega
  have m2 : (c2 : Int) < 12 := by omega
  have HC := Lib.hid hcor
  clear hcor
  go_enter Tryz.func63, Tryz.ntmps63
  go_wp2_with fail
  refine (HC.out _).mono ?_
  rintro e w1 ⟨rfl, rfl⟩
  go_wp2
  go_region
  go_wp2
  clear X0 X1 X2
  go_region
  go_wp2
  refine bodyPost_ret (v := .tuple #[.agg #[.int .i64 n, .int .i64 (X c0), .int .i64 (X c1), .int .i64 (X c2)], .bool (X c0 + X c1 + X c2 == 840)]) (by simp [results, Tryz.results63, go_sem]) rfl ⟨rfl, ?_⟩
  repeat (first | refine below_alloc ?_ _ | refine Below.drew ?_)
  exact Below.refl _ _

theorem on2_any (n : Nat) (hn : n < 20) (X : Nat → Int) (hX : ∀ j, 0 ≤ X j ∧ X j ≤ 840) (w : World) :
    Calls Tryz.prog 63 #[.int .i64 n, .agg #[.int .i64 (X 0), .int .i64 (X 1), .int .i64 (X 2), .int .i64 (X 3), .int .i64 (X 4), .int .i64 (X 5), .int .i64 (X 6), .int .i64 (X 7), .int .i64 (X 8), .int .i64 (X 9), .int .i64 (X 10), .int .i64 (X 11)]] w fun e w' =>
      e = .returned (.tuple #[.agg #[.int .i64 n, .int .i64 (X (cor n 0)), .int .i64 (X (cor n 1)), .int .i64 (X (cor n 2))], .bool (X (cor n 0) + X (cor n 1) + X (cor n 2) == 840)]) ∧ Below w.heap.size w w' := by
  obtain ⟨k0, k1, k2, _⟩ := cor_lt n hn
  exact on2_core n hn _ _ _ k0 k1 k2 X w (hX _).1 (hX _).1 (hX _).1 (hX _).2 (hX _).2 (hX _).2 (corners2_any n hn)
end Go.Proofs.YtcoddcdiimpndaaGreatDoor
set_option linter.unusedVariables false
set_option linter.unusedSimpArgs false
namespace Go.Proofs.YtcoddcdiimpndaaGreatDoor
open Go.RowKit

/-- Do the weights X lie on face n? -/
def okS (X : Nat → Int) (n : Nat) : Bool := X (cor n 0) + X (cor n 1) + X (cor n 2) == 840
def plAt (X : Nat → Int) (n : Nat) : Pl := ⟨n, X (cor n 0), X (cor n 1), X (cor n 2)⟩
def adrTo (X : Nat → Int) (k : Nat) : List Pl := ((List.range k).filter (okS X)).map (plAt X)
theorem adrTo_zero (X : Nat → Int) : adrTo X 0 = [] := rfl
theorem adrTo_yes (X : Nat → Int) (k : Nat) (h : okS X k = true) : adrTo X (k + 1) = adrTo X k ++ [plAt X k] := by simp [adrTo, List.range_succ, List.filter_append, h]
theorem adrTo_no (X : Nat → Int) (k : Nat) (h : okS X k = false) : adrTo X (k + 1) = adrTo X k := by simp [adrTo, List.range_succ, List.filter_append, h]
theorem adrTo_length (X : Nat → Int) (k : Nat) : (adrTo X k).length ≤ k := by
  unfold adrTo
  rw [List.length_map]
  exact Nat.le_trans (List.length_filter_le _ _) (by simp)

theorem infoP : (Tryz.prog.info? 32).map (fun i => (i.zero, i.size, i.bytes)) = some (some (.agg #[.int .i64 0, .int .i64 0, .int .i64 0, .int .i64 0]), 4, 32) := by kernel_rfl

set_option maxHeartbeats 4000000 in
theorem addresses_core (f a b c : Int) (hv : validB f a b c = true) (w : World) (X : Nat → Int) (hX : wt f a b c = X) (hXb : ∀ j, 0 ≤ X j ∧ X j ≤ 840) :
    Calls Tryz.prog 29 #[.agg #[.int .i64 f, .int .i64 a, .int .i64 b, .int .i64 c]] w fun e w' =>
      ∃ v, e = .returned (.tuple #[v, .int .i64 0]) ∧ w'.ownsRow w.heap.size 32 4 v (adrTo X 20).length (cellsP (adrTo X 20)) ∧ Below w.heap.size w w' := by
  have hf := (validB_iff ..).1 hv
  have hf0 := hf.1
  have hf1 := hf.2.1
  have HXb := Lib.hid hXb
  clear hf hXb
  go_enter Tryz.func29, Tryz.ntmps29
  go_wp2_with fail
  refine (valid2_any _ _ _ _ _).mono ?_
  rintro e w1 ⟨rfl, hb1⟩
  rw [hv]
  have hs1 := hb1.size
  simp at hs1
  have B0 : w1.heap[w.heap.size]? = some (.cells #[.int .i64 f, .int .i64 a, .int .i64 b, .int .i64 c] 32 (0, 0)) := blk_below hb1 (blk_new w _) (by simp only [World.size_alloc]; omega)
  have hbw1 : Below w.heap.size w w1 := below_then ((Below.refl _ _).alloc (Nat.le_refl _) _) hb1 (by simp)
  have p0 := blk_cell B0 0 (.int .i64 f) rfl
  have p1 := blk_cell B0 1 (.int .i64 a) rfl
  have p2 := blk_cell B0 2 (.int .i64 b) rfl
  have p3 := blk_cell B0 3 (.int .i64 c) rfl
  have HBW1 := Lib.hid hbw1
  clear B0 hb1 hbw1
  go_wp2_with fail
  refine (weights_any f a b c hf0 hf1 _).mono ?_
  rintro e w2 ⟨rfl, hb2⟩
  have hs2 := hb2.size
  have HBW2 := Lib.hid (below_then HBW1.out hb2 HBW1.out.size)
  clear HBW1 hb2 p0 p1 p2 p3 hv
  rw [hX]
  go_wp2
  go_loopw [5, 6] (fun v i wr => ∃ k : Nat, k ≤ 20 ∧ i = .int .i64 k ∧ wr.ownsRow (w2.heap.size + 1) 32 4 v (adrTo X k).length (cellsP (adrTo X k)) ∧ Below (w2.heap.size + 1) (w2.alloc (.cells #[.int .i64 (X 0), .int .i64 (X 1), .int .i64 (X 2), .int .i64 (X 3), .int .i64 (X 4), .int .i64 (X 5), .int .i64 (X 6), .int .i64 (X 7), .int .i64 (X 8), .int .i64 (X 9), .int .i64 (X 10), .int .i64 (X 11)] 52)) wr) (fun _ i _ => 20 - (intOf i).toNat)
  case atStart => exact ⟨0, Nat.zero_le _, rfl, World.ownsRow_nil _ _ _ _, Below.refl _ _⟩
  case round =>
    obtain ⟨k, hk, rfl, hown, hb⟩ := hrel
    have hsz := hb.size
    simp at hsz
    have HBR := Lib.hid hb
    have HOWN := Lib.hid hown
    by_cases hk20 : k < 20
    · have BX := blk_below hb (blk_new w2 _) (by omega)
      have x0 := blk_cell BX 0 (.int .i64 (X 0)) rfl
      have x1 := blk_cell BX 1 (.int .i64 (X 1)) rfl
      have x2 := blk_cell BX 2 (.int .i64 (X 2)) rfl
      have x3 := blk_cell BX 3 (.int .i64 (X 3)) rfl
      have x4 := blk_cell BX 4 (.int .i64 (X 4)) rfl
      have x5 := blk_cell BX 5 (.int .i64 (X 5)) rfl
      have x6 := blk_cell BX 6 (.int .i64 (X 6)) rfl
      have x7 := blk_cell BX 7 (.int .i64 (X 7)) rfl
      have x8 := blk_cell BX 8 (.int .i64 (X 8)) rfl
      have x9 := blk_cell BX 9 (.int .i64 (X 9)) rfl
      have x10 := blk_cell BX 10 (.int .i64 (X 10)) rfl
      have x11 := blk_cell BX 11 (.int .i64 (X 11)) rfl
      clear BX hb hown
      go_wp2_with fail
      refine (on2_any k hk20 X HXb.out _).mono ?_
      rintro e w3 ⟨rfl, hb3⟩
      clear x0 x1 x2 x3 x4 x5 x6 x7 x8 x9 x10 x11
      have hs3 := hb3.size
      have HB4 := Lib.hid (HBR.out.trans (hb3.mono hsz))
      have HO3 := Lib.hid (own_below HOWN.out hb3)
      clear hb3
      cases hok : okS X k
      · have hno := hok
        unfold okS at hno
        rw [hno]
        have HN := Lib.hid (adrTo_no X k hok)
        clear hno hok
        go_wp2
        go_roundw
        case rel => exact ⟨k + 1, by omega, by go_num, by rw [HN.out]; exact HO3.out.alloc _, HB4.out.alloc (Nat.le_trans hsz hs3) _⟩
        case measure => simp [intOf]; omega
      · have hyes := hok
        unfold okS at hyes
        rw [hyes]
        have HN := Lib.hid (adrTo_yes X k hok)
        have hlen := adrTo_length X k
        clear hyes hok
        go_wp2_with (at_builtin; refine app_one (w2.heap.size + 1) rfl _ _ 24 32 _ 4 32 rfl Tryz.underlying24 infoP rfl (by decide) (by decide) _ _ _ [.int .i64 k, .int .i64 (X (cor k 0)), .int .i64 (X (cor k 1)), .int .i64 (X (cor k 2))] rfl (by simp [Value.oneCell']) rfl (by simp [go_sem, Act.eval]) (HO3.out.alloc _) (HB4.out.alloc (Nat.le_trans hsz hs3) _) (by simp; omega) (by omega) ?_; intro g cap w4 hown4 hb4 hg4 hlt4)
        go_roundw
        case rel => exact ⟨k + 1, by omega, by go_num, by rw [HN.out, cellsP_snoc, List.length_append]; exact hown4, hb4⟩
        case measure => simp [intOf]; omega
    · obtain rfl : k = 20 := by omega
      clear hb hown
      go_wp2
      go_ret2
      refine ⟨_, rfl, own_mono HOWN.out ?_, ?_⟩
      · have := HBW2.out.size
        omega
      · exact (HBW2.out.alloc HBW2.out.size _).trans (HBR.out.mono (Nat.le_succ_of_le HBW2.out.size))

end Go.Proofs.YtcoddcdiimpndaaGreatDoor
set_option linter.unusedVariables false
set_option linter.unusedSimpArgs false
namespace Go.Proofs.YtcoddcdiimpndaaGreatDoor
open Go.RowKit

theorem wt_bounds (f a b c : Int) (hv : validB f a b c = true) (j : Nat) : 0 ≤ wt f a b c j ∧ wt f a b c j ≤ 840 := by
  obtain ⟨_, _, h⟩ := (validB_iff ..).1 hv
  unfold wt
  split
  · omega
  split
  · omega
  split
  · omega
  · omega
theorem okS_okAt (f a b c : Int) (hv : validB f a b c = true) (n : Nat) (hn : n < 20) : okS (wt f a b c) n = okAt (wt f a b c) n := by
  unfold okS okAt
  have h0 := wt_bounds f a b c hv (cor n 0)
  have h1 := wt_bounds f a b c hv (cor n 1)
  have h2 := wt_bounds f a b c hv (cor n 2)
  unfold validB
  rw [Bool.eq_iff_iff]
  simp only [decide_eq_true_eq, beq_iff_eq]
  omega
theorem adr_head (f a b c : Int) (hv : validB f a b c = true) : (adrTo (wt f a b c) 20)[0]? = some (plAt (wt f a b c) (nf f a b c)) := by
  obtain ⟨h1, _, h2, h3⟩ := nf_spec f a b c hv
  unfold adrTo
  rw [List.getElem?_map, ← List.head?_eq_getElem?, List.head?_filter]
  have hf : (List.range 20).find? (okS (wt f a b c)) = some (nf f a b c) := by
    rw [List.find?_range_eq_some]
    refine ⟨by rw [okS_okAt f a b c hv _ h1]; exact h2, List.mem_range.2 h1, fun j hj => ?_⟩
    rw [okS_okAt f a b c hv j (by omega), h3 j hj]
    rfl
  rw [hf]
  rfl

set_option maxHeartbeats 2000000 in
theorem addresses_no (f a b c : Int) (hv : validB f a b c = false) (w : World) :
    Calls Tryz.prog 29 #[.agg #[.int .i64 f, .int .i64 a, .int .i64 b, .int .i64 c]] w fun e w' =>
      e = .returned (.tuple #[.slice none 0 0, .int .i64 1]) ∧ Below w.heap.size w w' := by
  go_enter Tryz.func29, Tryz.ntmps29
  go_wp2_with fail
  refine (valid2_any _ _ _ _ _).mono ?_
  rintro e w1 ⟨rfl, hb1⟩
  rw [hv]
  go_wp2
  go_ret2
  exact ⟨rfl, below_then ((Below.refl _ _).alloc (Nat.le_refl _) _) hb1 (by simp)⟩

set_option maxHeartbeats 2000000 in
theorem normal2_no (f a b c : Int) (hv : validB f a b c = false) (w : World) :
    Calls Tryz.prog 71 #[.agg #[.int .i64 f, .int .i64 a, .int .i64 b, .int .i64 c]] w fun e w' =>
      e = .returned (.tuple #[.agg #[.int .i64 0, .int .i64 0, .int .i64 0, .int .i64 0], .int .i64 1]) ∧ Below w.heap.size w w' := by
  go_enter Tryz.func71, Tryz.ntmps71
  go_wp2_with fail
  refine (addresses_no f a b c hv _).mono ?_
  rintro e w1 ⟨rfl, hb1⟩
  have hs1 := hb1.size
  simp at hs1
  have B1 : w1.heap[w.heap.size + 1]? = some (.cells #[.int .i64 0, .int .i64 0, .int .i64 0, .int .i64 0] 32 (0, 0)) := blk_below hb1 (by simpa using blk_new (w.alloc _) _) (by simp)
  have hbw1 : Below w.heap.size w w1 := below_then (((Below.refl _ _).alloc (Nat.le_refl _) _).alloc (by simp) _) hb1 (by simp; omega)
  have y0 := blk_cell B1 0 (.int .i64 0) rfl
  have y1 := blk_cell B1 1 (.int .i64 0) rfl
  have y2 := blk_cell B1 2 (.int .i64 0) rfl
  have y3 := blk_cell B1 3 (.int .i64 0) rfl
  have yf := blk_free B1
  have hz3 : w.heap.size + 1 < w1.heap.size := by omega
  have HBW1 := Lib.hid hbw1
  clear B1 hbw1 hb1
  go_wp2
  refine bodyPost_ret (v := .tuple #[.agg #[.int .i64 0, .int .i64 0, .int .i64 0, .int .i64 0], .int .i64 1]) (by simp [results, Tryz.results71, go_sem, y0, y1, y2, y3, hz3]) rfl ⟨rfl, ?_⟩
  repeat (first | refine below_alloc ?_ _ | refine Below.drew ?_ | refine Below.setCell ?_ (by exact Nat.le_succ _) _)
  exact HBW1.out

set_option maxHeartbeats 2000000 in
theorem normal2_core (f a b c : Int) (hv : validB f a b c = true) (w : World) (m x y z : Int) (hm : (adrTo (wt f a b c) 20)[0]? = some ⟨m, x, y, z⟩) :
    Calls Tryz.prog 71 #[.agg #[.int .i64 f, .int .i64 a, .int .i64 b, .int .i64 c]] w fun e w' =>
      e = .returned (.tuple #[.agg #[.int .i64 m, .int .i64 x, .int .i64 y, .int .i64 z], .int .i64 0]) ∧ Below w.heap.size w w' := by
  have HM := Lib.hid hm
  clear hm
  go_enter Tryz.func71, Tryz.ntmps71
  go_wp2_with fail
  refine (addresses_core f a b c hv _ _ rfl (wt_bounds f a b c hv)).mono ?_
  rintro e w1 ⟨v, rfl, hown, hb1⟩
  have hs1 := hb1.size
  simp at hs1
  obtain ⟨q0, q1, q2, q3⟩ := cellsP_at _ _ _ HM.out
  have hn : 0 < (adrTo (wt f a b c) 20).length := (List.getElem?_eq_some_iff.1 HM.out).1
  have hcap := adrTo_length (wt f a b c) 20
  generalize (adrTo (wt f a b c) 20).length = n at hown hn hcap
  obtain ⟨g, cap, rfl, hg0, hg1⟩ := hown.form hn
  have r0 := own_cell hown 0 _ q0
  have r1 := own_cell hown 1 _ q1
  have r2 := own_cell hown 2 _ q2
  have r3 := own_cell hown 3 _ q3
  have B1 : w1.heap[w.heap.size + 1]? = some (.cells #[.int .i64 0, .int .i64 0, .int .i64 0, .int .i64 0] 32 (0, 0)) := blk_below hb1 (by simpa using blk_new (w.alloc _) _) (by simp)
  have hbw1 : Below w.heap.size w w1 := below_then (((Below.refl _ _).alloc (Nat.le_refl _) _).alloc (by simp) _) hb1 (by simp; omega)
  have y0 := blk_cell B1 0 (.int .i64 0) rfl
  have y1 := blk_cell B1 1 (.int .i64 0) rfl
  have y2 := blk_cell B1 2 (.int .i64 0) rfl
  have y3 := blk_cell B1 3 (.int .i64 0) rfl
  have yf := blk_free B1
  have hz3 : w.heap.size + 1 < w1.heap.size := by omega
  have hn2 : (0 : Int) < (n : Int) := by omega
  have HBW1 := Lib.hid hbw1
  have HH := Lib.hid hown
  clear B1 hbw1 hb1 hown q0 q1 q2 q3 HM
  go_wp2
  refine bodyPost_ret (v := .tuple #[.agg #[.int .i64 m, .int .i64 x, .int .i64 y, .int .i64 z], .int .i64 0]) (by simp [results, Tryz.results71, go_sem, y0, y1, y2, y3, hz3]) rfl ⟨rfl, ?_⟩
  repeat (first | refine below_alloc ?_ _ | refine Below.drew ?_ | refine Below.setCell ?_ (by exact Nat.le_succ _) _)
  exact HBW1.out

theorem normal2_yes (f a b c : Int) (hv : validB f a b c = true) (w : World) :
    Calls Tryz.prog 71 #[.agg #[.int .i64 f, .int .i64 a, .int .i64 b, .int .i64 c]] w fun e w' =>
      e = .returned (.tuple #[.agg #[.int .i64 (nf f a b c), .int .i64 (nc f a b c 0), .int .i64 (nc f a b c 1), .int .i64 (nc f a b c 2)], .int .i64 0]) ∧ Below w.heap.size w w' :=
  normal2_core f a b c hv w _ _ _ _ (adr_head f a b c hv)
end Go.Proofs.YtcoddcdiimpndaaGreatDoor
set_option linter.unusedVariables false
set_option linter.unusedSimpArgs false
namespace Go.Proofs.YtcoddcdiimpndaaGreatDoor
open Go.RowKit
attribute [local go_sem high] eqlP neqP eqgP
/-- Is a place valid and normal? -/
def isNB (f a b c : Int) : Bool := validB f a b c && (f == nf f a b c && (a == nc f a b c 0 && (b == nc f a b c 1 && c == nc f a b c 2)))
set_option maxHeartbeats 2000000 in
theorem isNormal_any (f a b c : Int) (w : World) :
    Calls Tryz.prog 51 #[.agg #[.int .i64 f, .int .i64 a, .int .i64 b, .int .i64 c]] w fun e w' =>
      e = .returned (.bool (isNB f a b c)) ∧ Below w.heap.size w w' := by
  cases hv : validB f a b c
  · have e : isNB f a b c = false := by simp [isNB, hv]
    rw [e]
    clear e
    go_enter Tryz.func51, Tryz.ntmps51
    go_wp2_with fail
    refine (normal2_no f a b c hv _).mono ?_
    rintro e w1 ⟨rfl, hb1⟩
    have hbw1 : Below w.heap.size w w1 := below_then ((Below.refl _ _).alloc (Nat.le_refl _) _) hb1 (by simp)
    have HBW1 := Lib.hid hbw1
    clear hbw1 hb1 hv
    go_wp2
    go_ret
    exact ⟨rfl, below_alloc HBW1.out _⟩
  · have e : isNB f a b c = (f == nf f a b c && (a == nc f a b c 0 && (b == nc f a b c 1 && c == nc f a b c 2))) := by simp [isNB, hv]
    rw [e]
    clear e
    go_enter Tryz.func51, Tryz.ntmps51
    go_wp2_with fail
    refine (normal2_yes f a b c hv _).mono ?_
    rintro e w1 ⟨rfl, hb1⟩
    have hs1 := hb1.size
    simp at hs1
    have B0 : w1.heap[w.heap.size]? = some (.cells #[.int .i64 f, .int .i64 a, .int .i64 b, .int .i64 c] 32 (0, 0)) := blk_below hb1 (blk_new w _) (by simp only [World.size_alloc]; omega)
    have p0 := blk_cell B0 0 (.int .i64 f) rfl
    have p1 := blk_cell B0 1 (.int .i64 a) rfl
    have p2 := blk_cell B0 2 (.int .i64 b) rfl
    have p3 := blk_cell B0 3 (.int .i64 c) rfl
    have hbw1 : Below w.heap.size w w1 := below_then ((Below.refl _ _).alloc (Nat.le_refl _) _) hb1 (by simp)
    have HBW1 := Lib.hid hbw1
    have hl : w.heap.size < w1.heap.size := by omega
    clear hbw1 hb1 hv B0
    go_wp2
    go_ret
    exact ⟨rfl, below_alloc HBW1.out _⟩
end Go.Proofs.YtcoddcdiimpndaaGreatDoor
set_option linter.unusedVariables false
set_option linter.unusedSimpArgs false
namespace Go.Proofs.YtcoddcdiimpndaaGreatDoor
open Go.RowKit
attribute [local go_sem high] eqgP
set_option maxHeartbeats 1000000 in
theorem less3_any (p q : Pl) (w : World) : Calls Tryz.prog 121 #[.agg #[.int .i64 p.f, .int .i64 p.a, .int .i64 p.b, .int .i64 p.c], .agg #[.int .i64 q.f, .int .i64 q.a, .int .i64 q.b, .int .i64 q.c]] w fun e w' =>
    e = .returned (.bool (ltP p q)) ∧ (w.alloc (.cells #[.int .i64 p.f, .int .i64 p.a, .int .i64 p.b, .int .i64 p.c] 32)).alloc (.cells #[.int .i64 q.f, .int .i64 q.a, .int .i64 q.b, .int .i64 q.c] 32) = w' := by
  obtain ⟨f, a, b, c⟩ := p
  obtain ⟨f', a', b', c'⟩ := q
  by_cases h : f = f'
  · subst h
    by_cases h2 : a = a'
    · subst h2
      have e : ltP ⟨f, a, b, c⟩ ⟨f, a, b', c'⟩ = decide (b < b') := by simp [ltP]
      rw [e]
      clear e
      go_enter Tryz.func121, Tryz.ntmps121
      go_wp2
      go_ret
      exact ⟨rfl, rfl⟩
    · have e : ltP ⟨f, a, b, c⟩ ⟨f, a', b', c'⟩ = decide (a < a') := by simp [ltP, h2]
      have hd : (a != a') = true := bne_iff_ne.2 h2
      rw [e]
      clear e
      go_enter Tryz.func121, Tryz.ntmps121
      go_wp2
      go_ret
      exact ⟨rfl, rfl⟩
  · have e : ltP ⟨f, a, b, c⟩ ⟨f', a', b', c'⟩ = decide (f < f') := by simp [ltP, h]
    have hd : (f != f') = true := bne_iff_ne.2 h
    rw [e]
    clear e
    go_enter Tryz.func121, Tryz.ntmps121
    go_wp2
    go_ret
    exact ⟨rfl, rfl⟩
theorem pl_ext {p q : Pl} (h0 : p.f = q.f) (h1 : p.a = q.a) (h2 : p.b = q.b) (h3 : p.c = q.c) : p = q := by
  cases p; cases q; simp_all
theorem below_drewN {B : Nat} {w W : World} (h : Below B w W) (n : Nat) : Below B w (W.drewN n) := ⟨h.os, h.tape, h.output, h.size, h.block⟩
/-- A row of n places lies in block g. -/
structure RdE (w : World) (g : Nat) (E : Nat → Pl) (n : Nat) : Prop where
  lt : g < w.heap.size
  cells : ∀ i, i < n → w.cell? ⟨g, i * 4, none⟩ = some (.int .i64 (E i).f) ∧ w.cell? ⟨g, i * 4 + 1, none⟩ = some (.int .i64 (E i).a) ∧ w.cell? ⟨g, i * 4 + 2, none⟩ = some (.int .i64 (E i).b) ∧ w.cell? ⟨g, i * 4 + 3, none⟩ = some (.int .i64 (E i).c)
theorem RdE.below {w w' : World} {B g n : Nat} {E : Nat → Pl} (H : RdE w g E n) (hb : Below B w w') (hB : g < B) : RdE w' g E n :=
  ⟨Nat.lt_of_lt_of_le H.lt hb.size, fun i hi => ⟨(hb.cell (p := ⟨g, i * 4, none⟩) hB).trans (H.cells i hi).1, (hb.cell (p := ⟨g, i * 4 + 1, none⟩) hB).trans (H.cells i hi).2.1, (hb.cell (p := ⟨g, i * 4 + 2, none⟩) hB).trans (H.cells i hi).2.2.1, (hb.cell (p := ⟨g, i * 4 + 3, none⟩) hB).trans (H.cells i hi).2.2.2⟩⟩
theorem RdE.of_own {w : World} {base g cap : Nat} {l : List Pl} (h : w.ownsRow base 32 4 (.slice (some ⟨g, 0, none⟩) l.length cap) l.length (cellsP l)) : RdE w g (fun i => l[i]!) l.length := by
  refine ⟨(h.lt g rfl).2, fun i hi => ?_⟩
  obtain ⟨q0, q1, q2, q3⟩ := cellsP_at l i l[i]! (by rw [bang_eq l i hi]; exact List.getElem?_eq_getElem hi)
  exact ⟨own_cell h _ _ q0, own_cell h _ _ q1, own_cell h _ _ q2, own_cell h _ _ q3⟩
theorem cell_lt8 {w : World} {p : Addr} {v : Value} (h : w.cell? p = some v) : p.block < w.heap.size := by
  rcases Nat.lt_or_ge p.block w.heap.size with h1 | h1
  · exact h1
  · simp [World.cell?, Array.getElem?_eq_none h1] at h
theorem keep8 {w w' : World} {a0 a1 a2 a3 a4 a5 a6 a7 : Addr} {v0 v1 v2 v3 v4 v5 v6 v7 : Value} (h : w.cell? a0 = some v0 ∧ w.cell? a1 = some v1 ∧ w.cell? a2 = some v2 ∧ w.cell? a3 = some v3 ∧ w.cell? a4 = some v4 ∧ w.cell? a5 = some v5 ∧ w.cell? a6 = some v6 ∧ w.cell? a7 = some v7) (hb : Below w.heap.size w w') :
    w'.cell? a0 = some v0 ∧ w'.cell? a1 = some v1 ∧ w'.cell? a2 = some v2 ∧ w'.cell? a3 = some v3 ∧ w'.cell? a4 = some v4 ∧ w'.cell? a5 = some v5 ∧ w'.cell? a6 = some v6 ∧ w'.cell? a7 = some v7 :=
  ⟨(hb.cell (cell_lt8 h.1)).trans h.1, (hb.cell (cell_lt8 h.2.1)).trans h.2.1, (hb.cell (cell_lt8 h.2.2.1)).trans h.2.2.1, (hb.cell (cell_lt8 h.2.2.2.1)).trans h.2.2.2.1, (hb.cell (cell_lt8 h.2.2.2.2.1)).trans h.2.2.2.2.1, (hb.cell (cell_lt8 h.2.2.2.2.2.1)).trans h.2.2.2.2.2.1, (hb.cell (cell_lt8 h.2.2.2.2.2.2.1)).trans h.2.2.2.2.2.2.1, (hb.cell (cell_lt8 h.2.2.2.2.2.2.2)).trans h.2.2.2.2.2.2.2⟩
theorem two_belowP (w : World) (o p : Obj) : Below w.heap.size w ((w.alloc o).alloc p) := ((Below.refl _ _).alloc (Nat.le_refl _) _).alloc (by simp) _
set_option maxRecDepth 100000 in
set_option maxHeartbeats 2000000 in
theorem find_core (E : Nat → Pl) (n : Nat) (hn : n ≤ 1000000) (p : Pl) (r : Int) (g cap : Nat) (w : World) (hR : RdE w g E n)
    (hup : ∀ m, m < n → ltP (E m) p = true → ∀ i, i < m + 1 → ltP (E i) p = true) (hdown : ∀ m, m < n → ltP (E m) p = false → ∀ i, m ≤ i → i < n → ltP (E i) p = false)
    (hhit : ∀ i, i < n → E i = p → r = i) (hmiss : ∀ lo, lo ≤ n → (∀ i, i < lo → ltP (E i) p = true) → (∀ i, lo ≤ i → i < n → ltP (E i) p = false) → (lo < n → E lo ≠ p) → r = -1) :
    Calls Tryz.prog 97 #[.slice (some ⟨g, 0, none⟩) n cap, .agg #[.int .i64 p.f, .int .i64 p.a, .int .i64 p.b, .int .i64 p.c]] w fun e w' => e = .returned (.int .i64 r) ∧ Below w.heap.size w w' := by
  have HR := Lib.hid hR
  have hgl := hR.lt
  have HUP := Lib.hid hup
  have HDN := Lib.hid hdown
  have HHIT := Lib.hid hhit
  have HMISS := Lib.hid hmiss
  clear hR hup hdown hhit hmiss
  go_enter Tryz.func97, Tryz.ntmps97
  go_wp2
  go_loopw [5, 6] (fun s5 s6 wr => ∃ lo hi : Nat, s5 = .int .i64 lo ∧ s6 = .int .i64 hi ∧ lo ≤ hi ∧ hi ≤ n ∧ Hid (∀ i, i < lo → ltP (E i) p = true) ∧ Hid (∀ i, hi ≤ i → i < n → ltP (E i) p = false) ∧ Below (w.heap.size + 1) (w.alloc (.cells #[.int .i64 p.f, .int .i64 p.a, .int .i64 p.b, .int .i64 p.c] 32)) wr) (fun s5 s6 _ => (intOf s6).toNat - (intOf s5).toNat)
  case atStart => exact ⟨0, n, rfl, rfl, Nat.zero_le _, Nat.le_refl _, Lib.hid (fun i hi => absurd hi (Nat.not_lt_zero _)), Lib.hid (fun i h1 h2 => absurd h2 (by omega)), Below.refl _ _⟩
  case round =>
    obtain ⟨lo, hi, rfl, rfl, hle, hin, HLO, HHI, hb⟩ := hrel
    have hsz := hb.size
    simp at hsz
    have HB := Lib.hid hb
    have BP := blk_below hb (blk_new w _) (by omega)
    have p0 := blk_cell BP 0 (.int .i64 p.f) rfl
    have p1 := blk_cell BP 1 (.int .i64 p.a) rfl
    have p2 := blk_cell BP 2 (.int .i64 p.b) rfl
    have p3 := blk_cell BP 3 (.int .i64 p.c) rfl
    have HRW := Lib.hid ((HR.out.below ((Below.refl _ _).alloc (Nat.le_refl _) _) hgl).below hb (Nat.lt_succ_of_lt hgl))
    have hgr : g < wr.heap.size := by omega
    clear BP hb
    by_cases hlt : lo < hi
    · obtain ⟨m, hm⟩ : ∃ m : Nat, m = (lo + hi) / 2 := ⟨_, rfl⟩
      have hm1 : lo ≤ m := by omega
      have hm2 : m < hi := by omega
      have hdiv : ((lo : Int) + (hi : Int)) / 2 = (m : Int) := by omega
      have hmn : (m : Int) < (n : Int) := by omega
      obtain ⟨q0, q1, q2, q3⟩ := HRW.out.cells m (by omega)
      have hdl : decide ((lo : Int) < (hi : Int)) = true := decide_eq_true (by omega)
      clear hm
      go_wp2_with fail
      go_cut [7, 22] (fun s7 s22 wx => s7 = .int .i64 m ∧ s22 = .bool (ltP (E m) p) ∧ Below wr.heap.size wr wx)
      case first =>
        go_region_held3 (fun w' => w'.cell? ⟨g, m * 4, none⟩ = some (.int .i64 (E m).f) ∧ w'.cell? ⟨g, m * 4 + 1, none⟩ = some (.int .i64 (E m).a) ∧ w'.cell? ⟨g, m * 4 + 2, none⟩ = some (.int .i64 (E m).b) ∧ w'.cell? ⟨g, m * 4 + 3, none⟩ = some (.int .i64 (E m).c) ∧ w'.cell? ⟨w.heap.size, 0, none⟩ = some (.int .i64 p.f) ∧ w'.cell? ⟨w.heap.size, 1, none⟩ = some (.int .i64 p.a) ∧ w'.cell? ⟨w.heap.size, 2, none⟩ = some (.int .i64 p.b) ∧ w'.cell? ⟨w.heap.size, 3, none⟩ = some (.int .i64 p.c))
          (first | assumption | exact keep8 (by assumption) (two_belowP _ _ _) | (refine ⟨?_, ?_, ?_, ?_, ?_, ?_, ?_, ?_⟩ <;> go_simp))
          (first
            | (go_at_call 121; go_must (refine (less3_any (E m) p _).mono ?_; rintro e w' ⟨rfl, rfl⟩)))
        all_goals
          go_wp2_with fail
          go_meet
          exact ⟨rfl, rfl, by repeat (first | exact Below.refl _ _ | refine below_alloc ?_ _ | refine Below.drew ?_)⟩
      case rest =>
        obtain ⟨rfl, rfl, hbx⟩ := hcut
        have HBC := Lib.hid (HB.out.trans (hbx.mono (by omega)))
        clear q0 q1 q2 q3 p0 p1 p2 p3 hbx
        cases hc : ltP (E m) p
        · have HN := Lib.hid (HDN.out m (by omega) hc)
          go_wp2_with fail
          go_roundw
          case rel => exact ⟨lo, m, rfl, rfl, by omega, by omega, HLO, HN, HBC.out⟩
          case measure => simp [intOf]; omega
        · have HN := Lib.hid (HUP.out m (by omega) hc)
          go_wp2_with fail
          go_roundw
          case rel => exact ⟨m + 1, hi, by go_num, rfl, by omega, by omega, HN, HHI, HBC.out⟩
          case measure => simp [intOf]; omega
    · obtain rfl : lo = hi := by omega
      have hdl : decide ((lo : Int) < (lo : Int)) = false := decide_eq_false (by omega)
      by_cases hln : lo < n
      · have hdn : decide ((lo : Int) < (n : Int)) = true := decide_eq_true (by omega)
        obtain ⟨q0, q1, q2, q3⟩ := HRW.out.cells lo hln
        have hln2 : (lo : Int) < (n : Int) := by omega
        by_cases he : E lo = p
        · have hcmp : ∀ W, (binOp .eql 32 (.agg #[.int .i64 (E lo).f, .int .i64 (E lo).a, .int .i64 (E lo).b, .int .i64 (E lo).c]) (.agg #[.int .i64 p.f, .int .i64 p.a, .int .i64 p.b, .int .i64 p.c])).run Tryz.prog W = .ok (.bool true) W := by
            intro W
            rw [eqlP, he]
            simp
          have HE := Lib.hid (HHIT.out lo hln he)
          clear he
          go_wp2_with fail
          go_quiet (fail)
          go_wp2_with fail
          go_ret
          exact ⟨ret_int HE.out.symm, below_drewN (((Below.refl _ _).alloc (Nat.le_refl _) _).trans (HB.out.mono (Nat.le_succ _))) _⟩
        · have hcmp : ∀ W, (binOp .eql 32 (.agg #[.int .i64 (E lo).f, .int .i64 (E lo).a, .int .i64 (E lo).b, .int .i64 (E lo).c]) (.agg #[.int .i64 p.f, .int .i64 p.a, .int .i64 p.b, .int .i64 p.c])).run Tryz.prog W = .ok (.bool false) W := by
            intro W
            rw [eqlP]
            have hb : ((E lo).f == p.f && ((E lo).a == p.a && ((E lo).b == p.b && (E lo).c == p.c))) = false := by
              rw [Bool.eq_false_iff]
              intro h
              simp only [Bool.and_eq_true, beq_iff_eq] at h
              exact he (pl_ext h.1 h.2.1 h.2.2.1 h.2.2.2)
            rw [hb]
          have HE := Lib.hid (HMISS.out lo hin HLO.out HHI.out (fun _ => he))
          clear he
          go_wp2_with fail
          go_quiet (fail)
          go_wp2_with fail
          go_ret
          exact ⟨ret_int HE.out.symm, below_drewN (((Below.refl _ _).alloc (Nat.le_refl _) _).trans (HB.out.mono (Nat.le_succ _))) _⟩
      · have hdn : decide ((lo : Int) < (n : Int)) = false := decide_eq_false (by omega)
        have HE := Lib.hid (HMISS.out lo hin HLO.out HHI.out (fun h => absurd h hln))
        go_wp2_with fail
        go_quiet (fail)
        go_wp2_with fail
        go_ret
        exact ⟨ret_int HE.out.symm, below_drewN (((Below.refl _ _).alloc (Nat.le_refl _) _).trans (HB.out.mono (Nat.le_succ _))) _⟩
/-- The search in a rising list. -/
theorem find_any (l : List Pl) (hr : l.Pairwise (fun p q => ltP p q = true)) (hn : l.length ≤ 1000000) (p : Pl) (g cap : Nat) (w : World) (hR : RdE w g (fun i => l[i]!) l.length) :
    Calls Tryz.prog 97 #[.slice (some ⟨g, 0, none⟩) l.length cap, .agg #[.int .i64 p.f, .int .i64 p.a, .int .i64 p.b, .int .i64 p.c]] w fun e w' => e = .returned (.int .i64 (findI l p)) ∧ Below w.heap.size w w' :=
  find_core (fun i => l[i]!) l.length hn p (findI l p) g cap w hR (fun m hm h i hi => find_up hr p m hm h i hi) (fun m hm h i hi hl => find_down hr p m h i hi hl) (fun i hi h => find_hit hr p i hi h)
    (fun lo hlo h1 h2 h3 => find_miss hr p lo (fun i hi _ => h1 i hi) (fun i hi hl => h2 i hi hl) (fun h => h3 h))
end Go.Proofs.YtcoddcdiimpndaaGreatDoor
