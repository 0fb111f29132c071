/-
  The reference's at and Index.
-/
import Derived.Test.YtcoddcdiimpndaaDoorPa7
import Derived.Test.YtcoddcdiimpndaaDoorPw15
import Derived.Test.YtcoddcdiimpndaaDoorPw16
import Derived.Test.YtcoddcdiimpndaaDoorPw18
set_option linter.unusedVariables false
set_option linter.unusedSimpArgs false
namespace Go.Proofs.YtcoddcdiimpndaaDoor
open Go.RowKit
theorem gCount_pos {m : Nat} (h1 : 1 ≤ m) (h8 : m ≤ 8) : (gCount m == 0) = false := by
  have : m = 1 ∨ m = 2 ∨ m = 3 ∨ m = 4 ∨ m = 5 ∨ m = 6 ∨ m = 7 ∨ m = 8 := by omega
  rcases this with rfl | rfl | rfl | rfl | rfl | rfl | rfl | rfl <;> decide
/-- The reference's list of nodes, as what reads it sees it. -/
theorem rnodes_rd (m : Nat) (h1 : 1 ≤ m) (h8 : m ≤ 8) (w : World) :
    Calls Tryd.prog 29 #[.int .i64 m] w fun e w' => ∃ g cap, e = .returned (.tuple #[.slice (some ⟨g, 0, none⟩) (nodes m).length cap, .int .i64 0]) ∧ RdE w' g (fun i => (nodes m)[i]!) (nodes m).length ∧ Below w.heap.size w w' := by
  refine (rnodes_any m h1 h8 (gCount m) (gCount_pos h1 h8) (fun W => rcount_any m W) w).mono ?_
  rintro e w1 ⟨V, he, hown, hb⟩
  obtain ⟨g, cap, rfl, _, _⟩ := hown.form (nodes_len m h1 h8).1
  exact ⟨g, cap, he, RdE.of_own hown, hb⟩
set_option maxHeartbeats 2000000 in
theorem rat_any (l : List Pl) (hr : l.Pairwise (fun p q => ltP p q = true)) (hn : l.length ≤ 1000000) (f a b c : Int) (hv : validB f a b c = true) (g cap : Nat) (w : World) (hR : RdE w g (fun i => l[i]!) l.length) :
    Calls Tryd.prog 34 #[.slice (some ⟨g, 0, none⟩) l.length cap, .int .i64 f, .int .i64 a, .int .i64 b] w fun e w' => e = .returned (.int .i64 (findI l (normPl f a b c))) ∧ Below w.heap.size w w' := by
  have hb := (validB_iff ..).1 hv
  obtain ⟨hf0, hf1, ha0, ha1, hb0, hb1, hc0, hc1, hs⟩ := hb
  have hc : 840 - a - b = c := by omega
  have HR := Lib.hid hR
  have HV := Lib.hid hv
  have HC := Lib.hid hc
  have hglt := hR.lt
  have hfind := fun (W : World) (hRW : RdE W g (fun i => l[i]!) l.length) => find_any l hr hn (normPl f a b c) g cap W hRW
  have HF := Lib.hid hfind
  generalize hlen : l.length = n at *
  have HL := Lib.hid hlen
  clear hR hv hs hr hfind hlen
  go_enter Tryd.func34, Tryd.ntmps34
  go_wp2_with fail
  refine (normal2_yes f a b c HV.out _).mono ?_
  rintro e w1 ⟨rfl, hb1⟩
  have hB1 := Lib.hid hb1
  have hsz1 := hb1.size
  clear hb1 hc
  go_wp2_with fail
  refine (HF.out _ ((HR.out.below hB1.out hglt).below ((Below.refl _ _).alloc (Nat.le_refl _) _) (by omega))).mono ?_
  rintro e w2 ⟨rfl, hb2⟩
  have HB2 := Lib.hid (below_then (below_then hB1.out ((Below.refl _ _).alloc (Nat.le_refl _) _) hsz1) hb2 (by simp; omega))
  clear hb2
  go_wp2_with fail
  go_ret
  exact ⟨rfl, HB2.out⟩
set_option maxRecDepth 100000 in
set_option maxHeartbeats 4000000 in
theorem rindex_any (n f a b c : Int) (w : World) : Calls Tryd.prog 12 #[.int .i64 n, .agg #[.int .i64 f, .int .i64 a, .int .i64 b, .int .i64 c]] w fun e w' =>
    e = .returned (.tuple #[.int .i64 (gIdx n f a b c), .int .i64 (gIErr n f a b c)]) ∧ Below w.heap.size w w' := by
  have hba : Below w.heap.size w (w.alloc (.cells #[.int .i64 f, .int .i64 a, .int .i64 b, .int .i64 c] 23)) := (Below.refl _ _).alloc (Nat.le_refl _) _
  have HBA := Lib.hid hba
  have hcnt := fun W => rcount_any n W
  clear hba
  cases hv : validB f a b c
  · have he : gIErr n f a b c = 1 := by simp [gIErr, okB, hv]
    have hl : gIdx n f a b c = 0 := by simp [gIdx, okB, hv]
    rw [he, hl]
    clear he hl
    generalize gCount n = cn at hcnt
    cases hz : cn == 0
    all_goals
      go_enter Tryd.func12, Tryd.ntmps12
      go_wp2_with fail
      refine (normal2_no f a b c hv _).mono ?_
      rintro e w1 ⟨rfl, hb1⟩
      have HB1 := Lib.hid (below_then HBA.out hb1 HBA.out.size)
      clear hb1
      go_wp2_with fail
      refine (hcnt _).mono ?_
      rintro e w2 ⟨rfl, rfl⟩
      go_wp2_with fail
      go_ret2
      exact ⟨rfl, below_alloc HB1.out _⟩
  · cases hq : freqB n
    · have he : gIErr n f a b c = 1 := by simp [gIErr, okB, hq]
      have hl : gIdx n f a b c = 0 := by simp [gIdx, okB, hq]
      have hg : gCount n = 0 := by simp [gCount, hq]
      rw [he, hl]
      rw [hg] at hcnt
      clear he hl hg
      go_enter Tryd.func12, Tryd.ntmps12
      go_wp2_with fail
      refine (normal2_yes f a b c hv _).mono ?_
      rintro e w1 ⟨rfl, hb1⟩
      have HB1 := Lib.hid (below_then HBA.out hb1 HBA.out.size)
      clear hb1
      go_wp2_with fail
      refine (hcnt _).mono ?_
      rintro e w2 ⟨rfl, rfl⟩
      go_wp2_with fail
      go_ret2
      exact ⟨rfl, below_alloc HB1.out _⟩
    · obtain ⟨m, rfl, h1, h8, hh⟩ := freq_nat hq
      have HE := Lib.hid (show gIErr m f a b c = if normPl f a b c ∈ nodes m then 0 else 9 by simp [gIErr, okB, hv, hq])
      have HL := Lib.hid (show gIdx m f a b c = if normPl f a b c ∈ nodes m then ((ix (nodes m) (normPl f a b c) : Nat) : Int) else 0 by simp [gIdx, okB, hv, hq])
      have hz := gCount_pos h1 h8
      have HFIND := Lib.hid (fun (g cap : Nat) (W : World) (hR : RdE W g (fun i => (nodes m)[i]!) (nodes m).length) => find_any (nodes m) (nodes_rise m h1 h8) (nodes_len m h1 h8).2 (normPl f a b c) g cap W hR)
      generalize gCount m = cn at hcnt hz
      clear hh
      go_enter Tryd.func12, Tryd.ntmps12
      go_wp2_with fail
      refine (normal2_yes f a b c hv _).mono ?_
      rintro e w1 ⟨rfl, hb1⟩
      have HB1 := Lib.hid (below_then HBA.out hb1 HBA.out.size)
      have hs1 := hb1.size
      clear hb1
      go_wp2_with fail
      refine (hcnt _).mono ?_
      rintro e w2 ⟨rfl, rfl⟩
      go_wp2_with fail
      refine (rnodes_rd m h1 h8 _).mono ?_
      rintro e w3 ⟨g, cap, rfl, hR, hb3⟩
      have hs3 := hb3.size
      simp at hs3
      have B6 := blk_below hb3 (blk_new w1 _) (by simp)
      have p0 := blk_cell B6 0 (.int .i64 (nf f a b c : Nat)) rfl
      have p1 := blk_cell B6 1 (.int .i64 (nc f a b c 0)) rfl
      have p2 := blk_cell B6 2 (.int .i64 (nc f a b c 1)) rfl
      have p3 := blk_cell B6 3 (.int .i64 (nc f a b c 2)) rfl
      have HB3 := Lib.hid (below_then (below_alloc HB1.out _) hb3 (by have := HB1.out.size; simp; omega))
      have HR := Lib.hid hR
      clear hb3 hR B6
      go_wp2_with fail
      refine (HFIND.out g cap _ HR.out).mono ?_
      rintro e w4 ⟨rfl, hb4⟩
      have HB4 := Lib.hid (below_then HB3.out hb4 HB3.out.size)
      clear hb4 p0 p1 p2 p3
      by_cases hin : normPl f a b c ∈ nodes m
      · have hi : findI (nodes m) (normPl f a b c) = ((ix (nodes m) (normPl f a b c) : Nat) : Int) := by simp [findI, ix, hin]
        rw [hi]
        clear hi
        go_wp2_with fail
        go_ret2
        rw [HE.out, HL.out, if_pos hin, if_pos hin]
        exact ⟨rfl, HB4.out⟩
      · have hi : findI (nodes m) (normPl f a b c) = -1 := by simp [findI, hin]
        rw [hi]
        clear hi
        go_wp2_with fail
        go_ret2
        rw [HE.out, HL.out, if_neg hin, if_neg hin]
        exact ⟨rfl, HB4.out⟩
end Go.Proofs.YtcoddcdiimpndaaDoor
