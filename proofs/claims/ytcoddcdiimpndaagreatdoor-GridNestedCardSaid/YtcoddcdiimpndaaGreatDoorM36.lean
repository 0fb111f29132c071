/-
  The reference's at and Index.
-/
import Derived.Test.YtcoddcdiimpndaaGreatDoorM17
import Derived.Test.YtcoddcdiimpndaaGreatDoorM34
import Derived.Test.YtcoddcdiimpndaaGreatDoorM35
import Derived.Test.YtcoddcdiimpndaaGreatDoorM26
set_option linter.unusedVariables false
set_option linter.unusedSimpArgs false
namespace Go.Proofs.YtcoddcdiimpndaaGreatDoor
open Go.RowKit
theorem gCount_pos {m : Nat} (h1 : 1 ≤ m) (h8 : m ≤ 8) : (gCount m == 0) = false := by
  have : m = 1 ∨ m = 2 ∨ m = 3 ∨ m = 4 ∨ m = 5 ∨ m = 6 ∨ m = 7 ∨ m = 8 := by omega
  rcases this with rfl | rfl | rfl | rfl | rfl | rfl | rfl | rfl <;> decide
/-- The reference's list of nodes, as what reads it sees it. -/
theorem rnodes_rd (m : Nat) (h1 : 1 ≤ m) (h8 : m ≤ 8) (w : World) :
    Calls Tryz.prog 14 #[.int .i64 m] w fun e w' => ∃ g cap, e = .returned (.tuple #[.slice (some ⟨g, 0, none⟩) (nodes m).length cap, .int .i64 0]) ∧ RdE w' g (fun i => (nodes m)[i]!) (nodes m).length ∧ Below w.heap.size w w' := by
  refine (rnodes_any m h1 h8 (gCount m) (gCount_pos h1 h8) (fun W => rcount_any m W) w).mono ?_
  rintro e w1 ⟨V, he, hown, hb⟩
  obtain ⟨g, cap, rfl, _, _⟩ := hown.form (nodes_len m h1 h8).1
  exact ⟨g, cap, he, RdE.of_own hown, hb⟩
set_option maxHeartbeats 2000000 in
theorem rat_any (l : List Pl) (hr : l.Pairwise (fun p q => ltP p q = true)) (hn : l.length ≤ 1000000) (f a b c : Int) (hv : validB f a b c = true) (g cap : Nat) (w : World) (hR : RdE w g (fun i => l[i]!) l.length) :
    Calls Tryz.prog 55 #[.slice (some ⟨g, 0, none⟩) l.length cap, .int .i64 f, .int .i64 a, .int .i64 b] w fun e w' => e = .returned (.int .i64 (findI l (normPl f a b c))) ∧ Below w.heap.size w w' := by
  have hb := (validB_iff ..).1 hv
  obtain ⟨hf0, hf1, ha0, ha1, hb0, hb1, hc0, hc1, hs⟩ := hb
  have hc : 840 - a - b = c := by omega
  have HR := Lib.hid hR
  have HV := Lib.hid hv
  have HC := Lib.hid hc
  have hglt := hR.lt
  have hfind := fun (W : World) (hRW : RdE W g (fun i => l[i]!) l.length) => find_any l hr hn (normPl f a b c) g cap W hRW
  have HF := Lib.hid hfind
  generalize hlen : l.length = n at *
  have HL := Lib.hid hlen
  clear hR hv hs hr hfind hlen
  go_enter Tryz.func55, Tryz.ntmps55
  go_wp2_with fail
  refine (normal2_yes f a b c HV.out _).mono ?_
  rintro e w1 ⟨rfl, hb1⟩
  have hB1 := Lib.hid hb1
  have hsz1 := hb1.size
  clear hb1 hc
  go_wp2_with fail
  refine (HF.out _ ((HR.out.below hB1.out hglt).below ((Below.refl _ _).alloc (Nat.le_refl _) _) (by omega))).mono ?_
  rintro e w2 ⟨rfl, hb2⟩
  have HB2 := Lib.hid (below_then (below_then hB1.out ((Below.refl _ _).alloc (Nat.le_refl _) _) hsz1) hb2 (by simp; omega))
  clear hb2
  go_wp2_with fail
  go_ret
  exact ⟨rfl, HB2.out⟩
end Go.Proofs.YtcoddcdiimpndaaGreatDoor
