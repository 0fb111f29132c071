/-
  The walk of mesh's Nearest; package grid's Count, Index, Locate, Nearest.
-/
import Derived.Test.YtcoddcdiimpndaaGreatDoorM10
import Derived.Test.YtcoddcdiimpndaaGreatDoorM28
import Derived.Test.YtcoddcdiimpndaaGreatDoorM11
set_option linter.unusedVariables false
set_option linter.unusedSimpArgs false
namespace Go.Proofs.YtcoddcdiimpndaaGreatDoor
open Go.RowKit
theorem raw3_pos (l : List Pl) (f : Int) (qx qy qz W : Nat → Int) (h : 0 < W 0 ∨ 0 < W 1 ∨ 0 < W 2) : 0 < (rawTo l f qx qy qz W 3).length := by
  simp only [rawTo, List.length_append]
  rcases h with h0 | h0 | h0 <;> rw [if_pos h0] <;> simp <;> omega
theorem locS_len (l : List Pl) (h n : Nat) (f a b c : Int) (hv : validB f a b c = true) (hn1 : 1 ≤ n) (hh : n * h = 840) : 0 < (locS l h n f a b c).length ∧ (locS l h n f a b c).length ≤ 3 := by
  obtain ⟨hf0, hf1, ha0, ha1, hb0, hb1, hc0, hc1, hs⟩ := (validB_iff ..).1 hv
  simp only [locS]
  split
  · exact ⟨Nat.zero_lt_one, by simp⟩
  · rename_i h0
    rw [sortS_length]
    refine ⟨raw3_pos _ _ _ _ _ _ ?_, rawTo_le ..⟩
    obtain ⟨X, hX⟩ : ∃ X : Int, X = a % (h : Int) * (n : Int) := ⟨_, rfl⟩
    obtain ⟨Y, hY⟩ : ∃ Y : Int, Y = b % (h : Int) * (n : Int) := ⟨_, rfl⟩
    obtain ⟨Z, hZ⟩ : ∃ Z : Int, Z = c % (h : Int) * (n : Int) := ⟨_, rfl⟩
    have hh2 : (h : Int) * (n : Int) = 840 := by rw [Int.mul_comm, ← Int.natCast_mul, hh]; rfl
    have hsum : X + Y + Z = (a % (h : Int) + b % (h : Int) + c % (h : Int)) * (n : Int) := by rw [hX, hY, hZ, Int.add_mul, Int.add_mul]
    rw [← hX, ← hY, ← hZ] at h0 ⊢
    rcases mod_cases a b c h n hh hn1 hs ha0 hb0 hc0 with hr | hr | hr
    · rw [hr, Int.zero_mul] at hsum
      exact absurd hsum h0
    · rw [hr, hh2] at hsum
      simp [hsum, lw]
      omega
    · rw [hr, Int.mul_assoc, hh2] at hsum
      simp [hsum, lw]
      omega
theorem node_of (x y : Int) (W : World) : (Instr.field 54 (.agg #[.int .i64 x, .int .i64 y]) 0).run Tryz.prog W = .ok (.int .i64 x) W := by
  simp [Instr.field, asAgg, go_sem]
/-- The node of greatest weight. -/
def nearS (L : List Sh) : Int := (best (fun i : Nat => L[i]!) L.length).node
set_option maxRecDepth 100000 in
set_option maxHeartbeats 1000000 in
theorem nearest_any (f a b c : Int) (hv : validB f a b c = true) (w : World) (hT : TabOk w) (h n g gm : Nat) (hn1 : 1 ≤ n) (hn8 : n ≤ 8) (hh : n * h = 840) (l : List Pl) (hN : NetR w h n g gm l) (hl : Fine l) :
    Calls Tryz.prog 136 #[.pointer (some ⟨g, 0, none⟩), .agg #[.int .i64 f, .int .i64 a, .int .i64 b, .int .i64 c]] w fun e w' => e = .returned (.int .i64 (nearS (locS l h n f a b c))) ∧ Below w.heap.size w w' := by
  obtain ⟨hp, h3⟩ := locS_len l h n f a b c hv hn1 hh
  have hba : Below w.heap.size w (w.alloc (.cells #[.int .i64 f, .int .i64 a, .int .i64 b, .int .i64 c] 32)) := (Below.refl _ _).alloc (Nat.le_refl _) _
  have HL := Lib.hid (locate_core f a b c hv _ (hT.below hba) h n g gm hn1 hn8 hh l (hN.below hba) hl)
  have HBA := Lib.hid hba
  change Calls _ _ _ _ fun e w' => e = .returned (.int .i64 (best (fun i : Nat => (locS l h n f a b c)[i]!) (locS l h n f a b c).length).node) ∧ _
  generalize locS l h n f a b c = L at hp h3 HL ⊢
  clear hT hN hv hh hl hba
  go_enter Tryz.func136, Tryz.ntmps136
  go_wp2_with fail
  refine HL.out.mono ?_
  rintro e w1 ⟨v, rfl, hown, hb1⟩
  obtain ⟨g1, cp, rfl⟩ : ∃ g1 cp, v = .slice (some ⟨g1, 0, none⟩) L.length cp := by
    rcases hown.2 with ⟨_, h0⟩ | ⟨g', cap, cur, h0, _⟩
    · omega
    · exact ⟨g', cap, h0⟩
  have HB1 := Lib.hid (below_then HBA.out hb1 HBA.out.size)
  have HO := Lib.hid hown
  clear hown hb1
  go_wp2_with fail
  have hmin := min_any L _ g1 cp w1 hp (by omega) HO.out
  obtain ⟨B, hB⟩ : ∃ B : Sh, B = best (fun i : Nat => L[i]!) L.length := ⟨_, rfl⟩
  rw [← hB] at hmin
  have HB := Lib.hid hB
  clear hB
  refine hmin.mono ?_
  rintro e w2 ⟨rfl, hb2⟩
  have HB2 := Lib.hid (below_then HB1.out hb2 HB1.out.size)
  have hfld := node_of B.node B.w
  clear hb2
  go_wp2_with fail
  go_ret
  have hB := HB.out
  subst hB
  exact ⟨rfl, HB2.out⟩
end Go.Proofs.YtcoddcdiimpndaaGreatDoor
