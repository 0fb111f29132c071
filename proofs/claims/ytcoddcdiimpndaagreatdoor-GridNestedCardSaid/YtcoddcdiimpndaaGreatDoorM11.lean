/-
  The walk of mesh.Points: the nodes of a grid, with the map of their indices.
-/
import Derived.Test.YtcoddcdiimpndaaGreatDoorM02
import Derived.Deep.RegionLaw
import Derived.Deep.RegionHeldLaw
set_option linter.unusedVariables false
set_option linter.unusedSimpArgs false
namespace Go.Proofs.YtcoddcdiimpndaaGreatDoor
open Go.RowKit
attribute [local go_sem high] eqgP

set_option maxRecDepth 100000 in
set_option maxHeartbeats 4000000 in
theorem points_core (n h : Nat) (h1 : 1 ≤ n) (h8 : n ≤ 8) (hh : n * h = 840) (hq : (840 : Int) / (n : Int) = (h : Int)) (w : World) (hT : TabOk w) :
    Calls Tryz.prog 50 #[.int .i64 n] w fun e w' => ∃ V, e = .returned (.pointer (some ⟨w.heap.size + 1, 0, none⟩)) ∧ NetP w.heap.size w' h n (w.heap.size + 1) w.heap.size (ptsTo h n 20 0 0) V ∧ Below w.heap.size w w' := by
  have hmm := @run_makeMap Tryz.prog
  have HT := Lib.hid hT
  have HH := Lib.hid hh
  clear hT hh
  go_enter Tryz.func50, Tryz.ntmps50
  go_wp2
  clear hq hmm
  go_loopw [16] (fun i wr => ∃ f : Nat, f ≤ 20 ∧ i = .int .i64 f ∧ (ptsTo h n f 0 0).length ≤ f * 81 ∧ Below w.heap.size w wr ∧ ∃ V, NetP w.heap.size wr h n (w.heap.size + 1) w.heap.size (ptsTo h n f 0 0) V) (fun i _ => 20 - (intOf i).toNat)
  case atStart => exact ⟨0, Nat.zero_le _, rfl, by simp [ptsTo_zero], below_alloc (below_alloc (Below.refl _ _) _) _, .slice none 0 0, by simpa using blk_new (w.alloc _) _, World.ownsRow_nil _ _ _ _, World.ownsMap.alloc (World.ownsMap_made _ _ _ _) _⟩
  case round =>
    obtain ⟨f, hf, rfl, hlen, hbw, V, hnet⟩ := hrel
    have HBW := Lib.hid hbw
    have HN := Lib.hid hnet
    clear hbw hnet
    by_cases hf20 : f < 20
    · have hdf : decide ((f : Int) < 20) = true := decide_eq_true (by omega)
      go_wp2
      go_loopw [5] (fun i wr => ∃ a : Nat, a ≤ n + 1 ∧ i = .int .i64 a ∧ (ptsTo h n f a 0).length ≤ f * 81 + a * 9 ∧ Below w.heap.size w wr ∧ ∃ V, NetP w.heap.size wr h n (w.heap.size + 1) w.heap.size (ptsTo h n f a 0) V) (fun i _ => n + 1 - (intOf i).toNat)
      case atStart => exact ⟨0, Nat.zero_le _, rfl, by omega, HBW.out, V, HN.out⟩
      case round =>
        obtain ⟨a, ha, rfl, hlen2, hbw2, V2, hnet2⟩ := hrel
        have HBW2 := Lib.hid hbw2
        have HN2 := Lib.hid hnet2
        clear hbw2 hnet2 HBW HN
        by_cases han : a ≤ n
        · go_wp2
          go_loopw [6] (fun i wr => ∃ b : Nat, a + b ≤ n + 1 ∧ i = .int .i64 b ∧ (ptsTo h n f a b).length ≤ f * 81 + a * 9 + b ∧ Below w.heap.size w wr ∧ ∃ V, NetP w.heap.size wr h n (w.heap.size + 1) w.heap.size (ptsTo h n f a b) V) (fun i _ => n + 1 - (intOf i).toNat)
          case atStart => exact ⟨0, by omega, rfl, by omega, HBW2.out, V2, HN2.out⟩
          case round =>
            obtain ⟨b, hb, rfl, hlen3, hbw3, V3, hnet3⟩ := hrel
            have HBW3 := Lib.hid hbw3
            have HN3 := Lib.hid hnet3
            clear hbw3 hnet3 HBW2 HN2
            by_cases hbn : a + b ≤ n
            · have hg0 := blk_cell HN3.out.blk 1 (.int .i64 h) rfl
              have hsz := blk_lt HN3.out.blk
              have hah : a * h ≤ n * h := Nat.mul_le_mul_right h (by omega)
              have hbh : b * h ≤ n * h := Nat.mul_le_mul_right h (by omega)
              have hch : (n - a - b) * h ≤ n * h := Nat.mul_le_mul_right h (by omega)
              have hch2 : (((n - a - b : Nat) : Int)) * (h : Int) = ((n : Int) - a - b) * h := by rw [Int.natCast_sub (by omega), Int.natCast_sub (by omega)]
              rw [HH.out] at hah hbh hch
              have hA0 : (0 : Int) ≤ (a : Int) * (h : Int) := by have := Int.natCast_nonneg (a * h); simpa using this
              have hA1 : (a : Int) * (h : Int) ≤ 840 := by have := Int.ofNat_le.2 hah; simpa using this
              have hB0 : (0 : Int) ≤ (b : Int) * (h : Int) := by have := Int.natCast_nonneg (b * h); simpa using this
              have hB1 : (b : Int) * (h : Int) ≤ 840 := by have := Int.ofNat_le.2 hbh; simpa using this
              have hC0 : (0 : Int) ≤ ((n : Int) - a - b) * (h : Int) := by rw [← hch2]; have := Int.natCast_nonneg ((n - a - b) * h); simpa using this
              have hC1 : ((n : Int) - a - b) * (h : Int) ≤ 840 := by rw [← hch2]; have := Int.ofNat_le.2 hch; simpa using this
              clear hah hbh hch hch2
              go_wp2
              go_region
              have hsum : (a : Int) * (h : Int) + (b : Int) * (h : Int) + ((n : Int) - a - b) * (h : Int) = 840 := by
                rw [← Int.add_mul, ← Int.add_mul, show (a : Int) + b + ((n : Int) - a - b) = n from by omega]
                exact_mod_cast HH.out
              obtain ⟨x, hx⟩ : ∃ x : Int, x = (a : Int) * (h : Int) := ⟨_, rfl⟩
              obtain ⟨y, hy⟩ : ∃ y : Int, y = (b : Int) * (h : Int) := ⟨_, rfl⟩
              obtain ⟨z, hz⟩ : ∃ z : Int, z = ((n : Int) - a - b) * (h : Int) := ⟨_, rfl⟩
              rw [← hx] at hA0 hA1 hsum ⊢
              rw [← hy] at hB0 hB1 hsum ⊢
              rw [← hz] at hC0 hC1 hsum ⊢
              have hp : plN h n f a b = ⟨f, x, y, z⟩ := by unfold plN; rw [hx, hy, hz]
              have hv : validB f x y z = true := by rw [validB_iff]; omega
              have HV := Lib.hid hv
              have HP := Lib.hid hp
              have HHT := Lib.hid (HT.out.below (HBW3.out.trans ((Below.refl w.heap.size wr).alloc HBW3.out.size (.cells #[.int .i64 f, .int .i64 x, .int .i64 y, .int .i64 z] 32)).drew))
              clear hx hy hz hsum hp hv hg0
              go_wp2_with fail
              refine (normal_yes f x y z HV.out _ HHT.out).mono ?_
              rintro e w4 ⟨rfl, hb4⟩
              have hs4 := hb4.size
              simp at hs4
              have HN4 := Lib.hid ((HN3.out.below ((Below.refl wr.heap.size wr).alloc (Nat.le_refl _) (.cells #[.int .i64 f, .int .i64 x, .int .i64 y, .int .i64 z] 32)).drew).below hb4)
              have HBW4 := Lib.hid (below_then (HBW3.out.trans ((Below.refl w.heap.size wr).alloc HBW3.out.size (.cells #[.int .i64 f, .int .i64 x, .int .i64 y, .int .i64 z] 32)).drew) hb4 (by have := HBW3.out.size; simp; omega))
              have BP := blk_below (b := wr.heap.size) hb4 (blk_new wr _) (by simp)
              have p0 := blk_cell BP 0 (.int .i64 f) rfl
              have p1 := blk_cell BP 1 (.int .i64 x) rfl
              have p2 := blk_cell BP 2 (.int .i64 y) rfl
              have p3 := blk_cell BP 3 (.int .i64 z) rfl
              have hl4 : wr.heap.size < w4.heap.size := by omega
              have hq1 : isNode (plN h n f a b) = qEq f x y z := by rw [HP.out]; rfl
              have HBP := Lib.hid BP
              clear hb4 BP HHT
              cases hc : qEq f x y z
              · have hcmp : ∀ W, (binOp .eql 32 (.agg #[.int .i64 (nf f x y z : Nat), .int .i64 (nc f x y z 0), .int .i64 (nc f x y z 1), .int .i64 (nc f x y z 2)]) (.agg #[.int .i64 f, .int .i64 x, .int .i64 y, .int .i64 z])).run Tryz.prog W = .ok (.bool false) W := by
                  intro W
                  rw [eqlP]
                  exact congrArg (fun q => Result.ok (Value.bool q) W) hc
                have HE := Lib.hid (ptsTo_no h n f a b (hq1.trans hc))
                clear hq1 hc
                go_wp2
                go_roundw
                case rel => exact ⟨b + 1, by omega, by go_num, by rw [HE.out]; omega, below_alloc HBW4.out _, V3, by rw [HE.out]; exact HN4.out.below ((Below.refl _ _).alloc (Nat.le_refl _) _)⟩
                case measure => simp [intOf]; omega
              · have hcmp : ∀ W, (binOp .eql 32 (.agg #[.int .i64 (nf f x y z : Nat), .int .i64 (nc f x y z 0), .int .i64 (nc f x y z 1), .int .i64 (nc f x y z 2)]) (.agg #[.int .i64 f, .int .i64 x, .int .i64 y, .int .i64 z])).run Tryz.prog W = .ok (.bool true) W := by
                  intro W
                  rw [eqlP]
                  exact congrArg (fun q => Result.ok (Value.bool q) W) hc
                have HE := Lib.hid (ptsTo_yes h n f a b (hq1.trans hc))
                clear hq1 hc
                go_wp2
                have hv := (validB_iff ..).1 HV.out
                have HN5 := HN4.out.below ((Below.refl _ _).alloc (Nat.le_refl _) (.cells #[.int .i64 (nf f x y z : Nat), .int .i64 (nc f x y z 0), .int .i64 (nc f x y z 1), .int .i64 (nc f x y z 2)] 32)).drew
                have HB5 := (HBW4.out.alloc HBW4.out.size (.cells #[.int .i64 (nf f x y z : Nat), .int .i64 (nc f x y z 0), .int .i64 (nc f x y z 1), .int .i64 (nc f x y z 2)] 32)).drew
                obtain ⟨A, cp, rfl⟩ := own_slice HN5.row
                have wf0 : (Lit.int .i64 (f : Int)).wf = true := WalkArith.wf_i64 (by omega)
                have wf1 : (Lit.int .i64 x).wf = true := WalkArith.wf_i64 (by omega)
                have wf2 : (Lit.int .i64 y).wf = true := WalkArith.wf_i64 (by omega)
                have wf3 : (Lit.int .i64 z).wf = true := WalkArith.wf_i64 (by omega)
                obtain ⟨w6, hupd, hm6, hg6⟩ := HN5.map.put (by omega) ⟨f, x, y, z⟩ ⟨wf0, wf1, wf2, wf3⟩
                have hupd' : (Instr.mapUpdate 82 (.map (some w.heap.size)) (.agg #[.int .i64 f, .int .i64 x, .int .i64 y, .int .i64 z]) (.int .i64 ((ptsTo h n f a b).length : Nat))).run Tryz.prog (w4.alloc (.cells #[.int .i64 (nf f x y z : Nat), .int .i64 (nc f x y z 0), .int .i64 (nc f x y z 1), .int .i64 (nc f x y z 2)] 32)).drew = .ok () w6 := hupd
                obtain ⟨hblk6, hrow6⟩ := HN5.mapped hg6 hm6
                have hb6 : Below w.heap.size w w6 := HB5.grown hg6 (by have := HBW4.out.size; simp; omega) (by intro k hk; cases hk; exact Nat.le_refl _)
                have hc2 := blk_cell HN4.out.blk 2 (.slice A (ptsTo h n f a b).length cp) rfl
                have hc3 := blk_cell HN4.out.blk 3 (.map (some w.heap.size)) rfl
                have hlg := blk_lt HN4.out.blk
                have BP6 := (hg6.block wr.heap.size (by simp; omega) (by simp; omega)).trans (blk_old (w := w4) (.cells #[.int .i64 (nf f x y z : Nat), .int .i64 (nc f x y z 0), .int .i64 (nc f x y z 1), .int .i64 (nc f x y z 2)] 32) HBP.out)
                have HBP6 := Lib.hid BP6
                have hs6 := hg6.size
                simp at hs6
                have HM6 := Lib.hid hm6
                have HG6 := Lib.hid hg6
                have HBL6 := Lib.hid hblk6
                have HR6 := Lib.hid hrow6
                have HB6 := Lib.hid hb6
                clear hupd hm6 hg6 hblk6 hrow6 hb6 HN5 HB5 hv BP6 wf0 wf1 wf2 wf3
                go_region
                clear hupd' hc2 hc3 p0 p1 p2 p3
                have e2 := blk_cell HBL6.out 2 (.slice A (ptsTo h n f a b).length cp) rfl
                have p0 := blk_cell HBP6.out 0 (.int .i64 f) rfl
                have p1 := blk_cell HBP6.out 1 (.int .i64 x) rfl
                have p2 := blk_cell HBP6.out 2 (.int .i64 y) rfl
                have p3 := blk_cell HBP6.out 3 (.int .i64 z) rfl
                have hl6 : wr.heap.size < w6.heap.size := by omega
                have hl7 : w.heap.size + 1 < w6.heap.size := by omega
                obtain ⟨i0, hi, hz0, hz1, hz2⟩ := info_parts infoPl
                have HI := Lib.hid hi
                have HZ0 := Lib.hid hz0
                have HZ1 := Lib.hid hz1
                have HZ2 := Lib.hid hz2
                clear hi hz0 hz1 hz2
                go_wp2
                go_region_law ((refine step_append_lies _ (by rfl) _ _ 24 (by rfl) w.heap.size 32 i0 _ 4 32 Tryz.underlying24 HI.out HZ0.out HZ1.out HZ2.out rfl (by decide) _ (ptsTo h n f a b).length (cellsP (ptsTo h n f a b)) (by rfl) (by exact HR6.out.alloc _) ⟨w6.heap.size, 0, none⟩ 1 1 [.int .i64 f, .int .i64 x, .int .i64 y, .int .i64 z] (by rfl) rfl (by exact World.news_of_block (heap_alloc_new w6 (.cells #[.int .i64 f, .int .i64 x, .int .i64 y, .int .i64 z] 32))) (by simp [Value.oneCell']) (by omega) (by simp only [maxLen]; omega) (by omega) (by have := HB6.out.size; simp; omega) _ rfl ?_; intro g7 cap7 w7 hown7 hgrow7 hat7 hlt7; have HG67 := Lib.hid (grown_via hgrow7); have hb7 := NetP.grown HBL6.out HR6.out HG67.out; have s2 := blk_cell hb7 2 (.slice A (ptsTo h n f a b).length cp) rfl; have sf := blk_free hb7 2; have HO7 := Lib.hid hown7; clear hgrow7 hown7 hat7 hb7))
                all_goals
                  have HN7 := NetP.pushed HBL6.out HR6.out HM6.out HG67.out HO7.out
                  clear e2 p0 p1 p2 p3 s2 sf
                  have hB7 : Below w.heap.size w w7 := HB6.out.grown HG67.out HB6.out.size (fun k hk => (HR6.out.lt k hk).1)
                  have HB7 := Lib.hid hB7
                  rw [← HP.out, ← HE.out] at HN7
                  have HN8 := Lib.hid HN7
                  clear HN7 hB7
                  go_wp2
                  go_roundw
                  case rel => exact ⟨b + 1, by omega, by go_num, by rw [HE.out, List.length_append]; simp; omega, Below.setCell HB7.out (by exact Nat.le_succ _) _, _, HN8.out⟩
                  case measure => simp [intOf]; omega
            · have hbe : b = n + 1 - a := by omega
              go_wp2
              go_roundw
              case rel => exact ⟨a + 1, by omega, by go_num, by rw [ptsTo_a, ← hbe]; omega, HBW3.out, V3, by rw [ptsTo_a, ← hbe]; exact HN3.out⟩
              case measure => simp [intOf]; omega
        · obtain rfl : a = n + 1 := by omega
          go_wp2
          go_roundw
          case rel => exact ⟨f + 1, by omega, by go_num, by rw [ptsTo_f]; omega, HBW2.out, V2, by rw [ptsTo_f]; exact HN2.out⟩
          case measure => simp [intOf]; omega
    · obtain rfl : f = 20 := by omega
      go_wp2
      go_ret
      exact ⟨V, rfl, HN.out, HBW.out⟩

/-- The grid of a frequency that exists. -/
theorem points_any (n : Nat) (h1 : 1 ≤ n) (h8 : n ≤ 8) (w : World) (hT : TabOk w) :
    Calls Tryz.prog 50 #[.int .i64 n] w fun e w' => ∃ V, e = .returned (.pointer (some ⟨w.heap.size + 1, 0, none⟩)) ∧ NetP w.heap.size w' (840 / n) n (w.heap.size + 1) w.heap.size (nodes n) V ∧ Below w.heap.size w w' := by
  have hh : n * (840 / n) = 840 := by
    have : n = 1 ∨ n = 2 ∨ n = 3 ∨ n = 4 ∨ n = 5 ∨ n = 6 ∨ n = 7 ∨ n = 8 := by omega
    rcases this with rfl | rfl | rfl | rfl | rfl | rfl | rfl | rfl <;> decide
  rw [← ptsTo_end n]
  exact points_core n (840 / n) h1 h8 hh (by simp) w hT
end Go.Proofs.YtcoddcdiimpndaaGreatDoor
