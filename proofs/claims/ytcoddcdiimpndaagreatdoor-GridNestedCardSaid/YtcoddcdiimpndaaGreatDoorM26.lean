/-
  The reference's Nodes.
-/
import Derived.Test.YtcoddcdiimpndaaGreatDoorM14
import Derived.Deep.RegionLaw
import Derived.Deep.CutBlock
set_option linter.unusedVariables false
set_option linter.unusedSimpArgs false
namespace Go.Proofs.YtcoddcdiimpndaaGreatDoor
open Go.RowKit
attribute [local go_sem high] eqgP
theorem isNB_qEq (f a b c : Int) (hv : validB f a b c = true) : isNB f a b c = qEq f a b c := by
  unfold isNB qEq
  rw [hv, Bool.true_and, Bool.beq_comm (a := f), Bool.beq_comm (a := a), Bool.beq_comm (a := b), Bool.beq_comm (a := c)]
theorem mul_facts (n h a : Nat) (hh : n * h = 840) (ha : a ≤ n) : 0 ≤ (a : Int) * (h : Int) ∧ (a : Int) * (h : Int) ≤ 840 := by
  have h1 : a * h ≤ n * h := Nat.mul_le_mul_right h ha
  rw [hh] at h1
  rw [← Int.natCast_mul]
  omega
theorem mul_lt (n h a : Nat) (hh : n * h = 840) (ha : n < a) : 840 < (a : Int) * (h : Int) := by
  have hp : 0 < h := Nat.pos_of_ne_zero (fun e => by rw [e, Nat.mul_zero] at hh; exact absurd hh (by decide))
  have h1 : (n + 1) * h ≤ a * h := Nat.mul_le_mul_right h ha
  rw [Nat.add_mul, hh] at h1
  rw [← Int.natCast_mul]
  omega
theorem h_facts (n h : Nat) (hn : 1 ≤ n) (hh : n * h = 840) : 1 ≤ h ∧ h ≤ 840 := by
  constructor
  · exact Nat.pos_of_ne_zero (fun e => by rw [e, Nat.mul_zero] at hh; exact absurd hh (by decide))
  · have : 1 * h ≤ n * h := Nat.mul_le_mul_right h hn
    omega
set_option maxRecDepth 100000 in
set_option maxHeartbeats 4000000 in
theorem rnodes_core (n h : Nat) (h1 : 1 ≤ n) (h8 : n ≤ 8) (hh : n * h = 840) (hq : (840 : Int) / (n : Int) = (h : Int)) (cnt : Int) (hc1 : (cnt == 0) = false)
    (hcount : ∀ W : World, Calls Tryz.prog 19 #[.int .i64 n] W fun e w' => e = .returned (.int .i64 cnt) ∧ W = w')
    (hint : ∀ f a b : Nat, f < 20 → 0 < a → 0 < b → a + b < n → isNode (plN h n f a b) = true) (w : World) :
    Calls Tryz.prog 14 #[.int .i64 n] w fun e w' => ∃ V, e = .returned (.tuple #[V, .int .i64 0]) ∧ w'.ownsRow w.heap.size 32 4 V (ptsTo h n 20 0 0).length (cellsP (ptsTo h n 20 0 0)) ∧ Below w.heap.size w w' := by
  have HH := Lib.hid hh
  have HI := Lib.hid hint
  obtain ⟨hl1, hl2⟩ := h_facts n h h1 hh
  clear hh hint
  go_enter Tryz.func14, Tryz.ntmps14
  go_wp2_with fail
  refine (hcount _).mono ?_
  rintro e w1 ⟨rfl, rfl⟩
  go_wp2_with fail
  rw [hq]
  clear hq hcount
  go_loopw [5, 6] (fun V i wr => ∃ f : Nat, f ≤ 20 ∧ i = .int .i64 f ∧ (ptsTo h n f 0 0).length ≤ f * 81 ∧ Below w.heap.size w wr ∧ wr.ownsRow w.heap.size 32 4 V (ptsTo h n f 0 0).length (cellsP (ptsTo h n f 0 0))) (fun _ i _ => 20 - (intOf i).toNat)
  case atStart => exact ⟨0, Nat.zero_le _, rfl, by simp [ptsTo_zero], Below.refl _ _, World.ownsRow_nil _ _ _ _⟩
  case round =>
    obtain ⟨f, hf, rfl, hlen, hbw, hown⟩ := hrel
    have HBW := Lib.hid hbw
    have HO := Lib.hid hown
    clear hbw hown
    by_cases hf20 : f < 20
    · have hdf : decide ((f : Int) < 20) = true := decide_eq_true (by omega)
      go_wp2_with fail
      go_loopw [5, 7] (fun V i wr => ∃ (a : Nat) (x : Int), a ≤ n + 1 ∧ i = .int .i64 x ∧ Hid (x = (a : Int) * (h : Int)) ∧ (ptsTo h n f a 0).length ≤ f * 81 + a * 9 ∧ Below w.heap.size w wr ∧ wr.ownsRow w.heap.size 32 4 V (ptsTo h n f a 0).length (cellsP (ptsTo h n f a 0)) ∧ 0 ≤ x ∧ x ≤ 1680) (fun _ i _ => 1681 - (intOf i).toNat)
      case atStart => exact ⟨0, 0, by omega, rfl, by show (0 : Int) = 0 * _; omega, by omega, HBW.out, HO.out, by omega, by omega⟩
      case round =>
        obtain ⟨a, x, ha, rfl, HX, hlen2, hbw2, hown2, hx0, hx1⟩ := hrel
        have HBW2 := Lib.hid hbw2
        have HO2 := Lib.hid hown2
        clear hbw2 hown2 HBW HO
        by_cases han : a ≤ n
        · have hx2 : x ≤ 840 := by have := mul_facts n h a HH.out han; rw [← HX.out] at this; omega
          go_wp2_with fail
          go_loopw [5, 8] (fun V i wr => ∃ (b : Nat) (y : Int), a + b ≤ n + 1 ∧ i = .int .i64 y ∧ Hid (y = (b : Int) * (h : Int)) ∧ (ptsTo h n f a b).length ≤ f * 81 + a * 9 + b ∧ Below w.heap.size w wr ∧ wr.ownsRow w.heap.size 32 4 V (ptsTo h n f a b).length (cellsP (ptsTo h n f a b)) ∧ 0 ≤ y ∧ y ≤ 1680) (fun _ i _ => 1681 - (intOf i).toNat)
          case atStart => exact ⟨0, 0, by omega, rfl, by show (0 : Int) = 0 * _; omega, by omega, HBW2.out, HO2.out, by omega, by omega⟩
          case round =>
            obtain ⟨b, y, hb, rfl, HY, hlen3, hbw3, hown3, hy0, hy1⟩ := hrel
            have HBW3 := Lib.hid hbw3
            have HO3 := Lib.hid hown3
            clear hbw3 hown3 HBW2 HO2
            have hxy : x + y = ((a + b : Nat) : Int) * (h : Int) := by rw [HX.out, HY.out, ← Int.add_mul, ← Int.natCast_add]
            have HXY := Lib.hid hxy
            clear hxy
            by_cases hbn : a + b ≤ n
            · have hxy2 : x + y ≤ 840 := by rw [HXY.out]; exact (mul_facts n h (a + b) HH.out hbn).2
              obtain ⟨z, hz⟩ : ∃ z : Int, z = 840 - x - y := ⟨_, rfl⟩
              have hz0 : 0 ≤ z := by omega
              have hz1 : z ≤ 840 := by omega
              have hsum : x + y + z = 840 := by omega
              have hp : plN h n f a b = ⟨f, x, y, z⟩ := by
                have e3 : ((n : Int) - a - b) * (h : Int) = z := by
                  have e1 : (n : Int) * (h : Int) = 840 := by rw [← Int.natCast_mul, HH.out]; rfl
                  rw [Int.sub_mul, Int.sub_mul, e1, ← HX.out, ← HY.out, hz]
                unfold plN
                rw [← HX.out, ← HY.out, e3]
              have hv : validB f x y z = true := by rw [validB_iff]; omega
              have hq1 : isNode (plN h n f a b) = isNB f x y z := by rw [isNB_qEq f x y z hv, hp]; rfl
              have hz' : 840 - x - y = z := hz.symm
              have HP := Lib.hid hp
              have HQ := Lib.hid hq1
              clear hz hsum hp hq1 hv
              go_upto_region 15 with fail
              go_cut [53] (fun s53 wx => s53 = .bool (isNB f x y z) ∧ Below (wr.heap.size + 1) (wr.alloc (.cells #[.int .i64 f, .int .i64 x, .int .i64 y, .int .i64 z] 32)) wx)
              case first =>
                by_cases hx : 0 < x
                · have dx : decide (0 < x) = true := decide_eq_true hx
                  by_cases hy : 0 < y
                  · have dy : decide (0 < y) = true := decide_eq_true hy
                    by_cases hz : 0 < z
                    · have dz : decide (0 < z) = true := decide_eq_true hz
                      have ha0 : 0 < a := Nat.pos_of_ne_zero (fun e => by have := HX.out; rw [e] at this; simp at this; omega)
                      have hb0 : 0 < b := Nat.pos_of_ne_zero (fun e => by have := HY.out; rw [e] at this; simp at this; omega)
                      have hab : a + b < n := Nat.lt_of_le_of_ne hbn (fun e => by
                        have h3 := HXY.out
                        rw [e, ← Int.natCast_mul, HH.out] at h3
                        omega)
                      have HYES := Lib.hid (HQ.out.symm.trans (HI.out f a b hf20 ha0 hb0 hab))
                      clear ha0 hb0 hab
                      go_wp2_with fail
                      go_meet
                      exact ⟨by rw [HYES.out], Below.refl _ _⟩
                    · have dz : decide (0 < z) = false := decide_eq_false hz
                      go_wp2_with fail
                      refine (isNormal_any _ _ _ _ _).mono ?_
                      rintro e w4 ⟨rfl, hb4⟩
                      go_wp2_with fail
                      go_meet
                      exact ⟨rfl, by simpa only [World.size_alloc] using hb4⟩
                  · have dy : decide (0 < y) = false := decide_eq_false hy
                    go_wp2_with fail
                    refine (isNormal_any _ _ _ _ _).mono ?_
                    rintro e w4 ⟨rfl, hb4⟩
                    go_wp2_with fail
                    go_meet
                    exact ⟨rfl, by simpa only [World.size_alloc] using hb4⟩
                · have dx : decide (0 < x) = false := decide_eq_false hx
                  go_wp2_with fail
                  refine (isNormal_any _ _ _ _ _).mono ?_
                  rintro e w4 ⟨rfl, hb4⟩
                  go_wp2_with fail
                  go_meet
                  exact ⟨rfl, by simpa only [World.size_alloc] using hb4⟩
              case rest =>
                obtain ⟨rfl, hbx⟩ := hcut
                have hsx := hbx.size
                simp at hsx
                have B9 := blk_below hbx (blk_new wr _) (by omega)
                have p0 := blk_cell B9 0 (.int .i64 f) rfl
                have p1 := blk_cell B9 1 (.int .i64 x) rfl
                have p2 := blk_cell B9 2 (.int .i64 y) rfl
                have p3 := blk_cell B9 3 (.int .i64 z) rfl
                have hbc0 : Below wr.heap.size wr wc := ((Below.refl _ _).alloc (Nat.le_refl _) _).trans (hbx.mono (Nat.le_succ _))
                have HBC := Lib.hid (below_then HBW3.out hbc0 HBW3.out.size)
                have HOC := Lib.hid (own_below HO3.out hbc0)
                clear hbx B9 hbc0
                cases hc : isNB f x y z
                · have HN := Lib.hid (ptsTo_no h n f a b (HQ.out.trans hc))
                  go_wp2_with fail
                  go_roundw
                  case rel => exact ⟨b + 1, y + h, by omega, by go_num, by show y + h = _; rw [HY.out, Int.natCast_add, Int.add_mul]; omega, by rw [HN.out]; omega, HBC.out, by rw [HN.out]; exact HOC.out, by omega, by omega⟩
                  case measure => simp [intOf]; omega
                · have HN := Lib.hid (ptsTo_yes h n f a b (HQ.out.trans hc))
                  go_wp2_with (at_builtin; go_loud (refine app_one w.heap.size rfl (.tmp 54) (.tmp 56) 24 32 _ 4 32 rfl Tryz.underlying24 infoP rfl (by decide) (by decide) _ _ _ [.int .i64 f, .int .i64 x, .int .i64 y, .int .i64 z] rfl (by simp [Value.oneCell']) rfl (by simp [go_sem, Act.eval]) HOC.out HBC.out HBC.out.size (by omega) ?_); intro g cap w4 hown4 hb4 hg4 hlt4)
                  go_roundw
                  case rel => exact ⟨b + 1, y + h, by omega, by go_num, by show y + h = _; rw [HY.out, Int.natCast_add, Int.add_mul]; omega, by rw [HN.out, List.length_append]; simp; omega, hb4, by rw [HN.out, HP.out, cellsP_snoc, List.length_append]; exact hown4, by omega, by omega⟩
                  case measure => simp [intOf]; omega
            · have hxy2 : 840 < x + y := by rw [HXY.out]; exact mul_lt n h (a + b) HH.out (by omega)
              have hbe : b = n + 1 - a := by omega
              go_wp2_with fail
              go_roundw
              case rel => exact ⟨a + 1, x + h, by omega, by go_num, by show x + h = _; rw [HX.out, Int.natCast_add, Int.add_mul]; omega, by rw [ptsTo_a, ← hbe]; omega, HBW3.out, by rw [ptsTo_a, ← hbe]; exact HO3.out, by omega, by omega⟩
              case measure => simp [intOf]; omega
        · have hx2 : 840 < x := by rw [HX.out]; exact mul_lt n h a HH.out (by omega)
          obtain rfl : a = n + 1 := by omega
          go_wp2_with fail
          go_roundw
          case rel => exact ⟨f + 1, by omega, by go_num, by rw [ptsTo_f]; omega, HBW2.out, by rw [ptsTo_f]; exact HO2.out⟩
          case measure => simp [intOf]; omega
    · obtain rfl : f = 20 := by omega
      go_wp2_with fail
      go_ret2
      exact ⟨_, rfl, HO.out, HBW.out⟩

theorem rnodes_any (m : Nat) (h1 : 1 ≤ m) (h8 : m ≤ 8) (cnt : Int) (hc1 : (cnt == 0) = false)
    (hcount : ∀ W : World, Calls Tryz.prog 19 #[.int .i64 m] W fun e w' => e = .returned (.int .i64 cnt) ∧ W = w') (w : World) :
    Calls Tryz.prog 14 #[.int .i64 m] w fun e w' => ∃ V, e = .returned (.tuple #[V, .int .i64 0]) ∧ w'.ownsRow w.heap.size 32 4 V (nodes m).length (cellsP (nodes m)) ∧ Below w.heap.size w w' := by
  have hh : m * (840 / m) = 840 := by
    have : m = 1 ∨ m = 2 ∨ m = 3 ∨ m = 4 ∨ m = 5 ∨ m = 6 ∨ m = 7 ∨ m = 8 := by omega
    rcases this with rfl | rfl | rfl | rfl | rfl | rfl | rfl | rfl <;> decide
  rw [← ptsTo_end m]
  exact rnodes_core m (840 / m) h1 h8 hh (by simp) cnt hc1 hcount (fun f a b hf ha hb hab => inner_node m f a b h1 h8 hf ha hb hab) w
end Go.Proofs.YtcoddcdiimpndaaGreatDoor
