/-
  The walk of the sanity check; small laws on arguments and worlds.
-/
import Derived.Test.YtcoddcdiimpndaaGreatDoorM39
import Derived.Test.YtcoddcdiimpndaaGreatDoorM42
set_option linter.unusedVariables false
set_option linter.unusedSimpArgs false
namespace Go.Proofs.YtcoddcdiimpndaaGreatDoor
open Go.RowKit
theorem aw_idx1 : gIdx 2 0 840 0 0 = 5 ∧ gIErr 2 0 840 0 0 = 0 := by decide +kernel
theorem aw_idx2 : gIdx 2 0 420 420 0 = 4 ∧ gIErr 2 0 420 420 0 = 0 := by decide +kernel
theorem aw_err : gErr 2 0 630 210 0 = 0 := by decide +kernel
theorem aw_at1 : atF 2 0 840 0 0 = 5 := by decide +kernel
theorem aw_at2 : atF 2 0 420 420 0 = 4 := by decide +kernel
theorem aw_loc : gLoc 2 0 630 210 0 = [⟨4, 420⟩, ⟨5, 420⟩] := by
  have e : gLoc 2 0 630 210 0 = locS (nodes 2) 420 2 0 630 210 0 := by
    have h : okB 2 0 630 210 0 = true := by decide
    unfold gLoc
    rw [if_pos h]
    rfl
  rw [e, ← (loc_up 2 420 (by omega) (by omega) (by omega) (by omega) 0 630 210 0 (by decide) _ _ _ rfl rfl rfl (by decide)).2.2.2]
  have h1 : (630 : Int) / ((420 : Nat) : Int) * ((420 : Nat) : Int) + ((420 : Nat) : Int) = 840 := by decide
  have h2 : (210 : Int) / ((420 : Nat) : Int) * ((420 : Nat) : Int) = 0 := by decide
  have h3 : (0 : Int) / ((420 : Nat) : Int) * ((420 : Nat) : Int) = 0 := by decide
  have h4 : (630 : Int) / ((420 : Nat) : Int) * ((420 : Nat) : Int) = 420 := by decide
  rw [h1, h2, h3, h4]
  have e1 : (0 : Int) + ((420 : Nat) : Int) = 420 := by decide
  rw [e1, aw_at1, aw_at2]
  have w0 : (630 : Int) % ((420 : Nat) : Int) * ((2 : Nat) : Int) = 420 := by decide
  have w1 : (210 : Int) % ((420 : Nat) : Int) * ((2 : Nat) : Int) = 420 := by decide
  have w2 : (0 : Int) % ((420 : Nat) : Int) * ((2 : Nat) : Int) = 0 := by decide
  rw [w0, w1, w2]
  simp [shareL, ins]
set_option maxRecDepth 100000 in
set_option maxHeartbeats 2000000 in
theorem awake_any (w : World) (hT : TabOk w) : Calls Tryz.prog 23 #[] w fun e w' => e = .returned (.bool true) ∧ Below w.heap.size w w' := by
  have HT := Lib.hid hT
  have HC1 := Lib.hid (fun (W : World) (h : TabOk W) => gindex_any 2 0 840 0 0 W h)
  have HC2 := Lib.hid (fun (W : World) (h : TabOk W) => gindex_any 2 0 420 420 0 W h)
  have HC3 := Lib.hid (fun (W : World) (h : TabOk W) => glocate_any 2 0 630 210 0 W h)
  rw [aw_idx1.1, aw_idx1.2] at HC1
  rw [aw_idx2.1, aw_idx2.2] at HC2
  rw [aw_err, aw_loc] at HC3
  have HCN := Lib.hid (fun W => count_any 2 W)
  rw [show gCount 2 = 42 from by decide] at HCN
  clear hT
  go_enter Tryz.func23, Tryz.ntmps23
  go_wp2_with fail
  refine (HC1.out _ HT.out).mono ?_
  rintro e w1 ⟨rfl, hb1⟩
  have HB1 := Lib.hid hb1
  have HT1 := Lib.hid (HT.out.below hb1)
  clear hb1
  go_wp2_with fail
  refine (HC2.out _ HT1.out).mono ?_
  rintro e w2 ⟨rfl, hb2⟩
  have HB2 := Lib.hid (below_then HB1.out hb2 HB1.out.size)
  have HT2 := Lib.hid (HT1.out.below hb2)
  clear hb2
  go_wp2_with fail
  refine (HC3.out _ HT2.out).mono ?_
  rintro e w3 ⟨v, rfl, hown, hb3⟩
  have HB3 := Lib.hid (below_then HB2.out hb3 HB2.out.size)
  have HO3 := Lib.hid hown
  clear hb3 hown
  go_wp2_with fail
  refine (HCN.out _).mono ?_
  rintro e w4 ⟨rfl, rfl⟩
  go_wp2_with fail
  refine (shares_true [⟨4, 420⟩, ⟨5, 420⟩] (by simp) _ _ _ w3.heap.size _ (HO3.out.alloc _) (own_new w3 w3.heap.size 54 2 (cellsS [⟨4, 420⟩, ⟨5, 420⟩]) 2 rfl (Nat.le_refl _) (by omega))).mono ?_
  rintro e w5 ⟨rfl, hb5⟩
  have HB5 := Lib.hid (below_then (below_alloc HB3.out _) hb5 (by have := HB3.out.size; simp; omega))
  clear hb5
  go_wp2_with fail
  go_ret
  exact ⟨rfl, HB5.out⟩
--LAW
theorem ints_below {w w' : World} {v : Value} (h : IntsArg w v) (hb : Below w.heap.size w w') : IntsArg w' v := by
  rcases h with rfl | ⟨a, len, cap, Z, rfl, hl, hm, hc⟩
  · exact .inl rfl
  · exact .inr ⟨a, len, cap, Z, rfl, hl, hm, fun i hi => (hb.cell (p := a.add i) (cell_ltk (hc i hi))).trans (hc i hi)⟩
theorem grown_low {B : Nat} {w w1 w2 : World} {b : Nat} (h : Below B w w1) (hg : w1.grownBy w2 (some b)) (hB : B ≤ w1.heap.size) (hb : B ≤ b) : Below B w w2 :=
  h.grown hg hB (fun k hk => by cases hk; exact hb)
theorem gLoc_len (n f a b c : Int) : (gLoc n f a b c).length ≤ 1000000 := by
  unfold gLoc
  split
  · rename_i hok
    have hq : freqB n = true := (Bool.and_eq_true_iff.1 hok).1
    have hv : validB f a b c = true := (Bool.and_eq_true_iff.1 hok).2
    obtain ⟨m, rfl, h1, h8, hh⟩ := freq_nat hq
    rw [Int.toNat_natCast]
    have := (locS_len (nodes m) (840 / m) m f a b c hv h1 hh).2
    omega
  · simp
end Go.Proofs.YtcoddcdiimpndaaGreatDoor
