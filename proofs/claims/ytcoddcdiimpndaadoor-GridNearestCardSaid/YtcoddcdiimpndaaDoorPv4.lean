/-
  A grid in memory, as the functions that only read it see it.
-/
import Derived.Test.YtcoddcdiimpndaaDoorPv3
set_option linter.unusedVariables false
set_option linter.unusedSimpArgs false
namespace Go.Proofs.YtcoddcdiimpndaaDoor
open Go.RowKit
def normPl (f a b c : Int) : Pl := ⟨nf f a b c, nc f a b c 0, nc f a b c 1, nc f a b c 2⟩
/-- Behind g lies a grid of frequency n whose nodes' indices are those of l. -/
structure NetR (w : World) (h n : Nat) (g gm : Nat) (l : List Pl) : Prop where
  lt : g < w.heap.size
  c0 : w.cell? ⟨g, 0, none⟩ = some (.int .i64 n)
  c1 : w.cell? ⟨g, 1, none⟩ = some (.int .i64 h)
  c3 : w.cell? ⟨g, 3, none⟩ = some (.map (some gm))
  map : MapIx w gm l
theorem NetR.below {h n g gm : Nat} {w w1 : World} {l : List Pl} (H : NetR w h n g gm l) (hb : Below w.heap.size w w1) : NetR w1 h n g gm l :=
  ⟨Nat.lt_of_lt_of_le H.lt hb.size, (hb.cell (p := ⟨g, 0, none⟩) H.lt).trans H.c0, (hb.cell (p := ⟨g, 1, none⟩) H.lt).trans H.c1, (hb.cell (p := ⟨g, 3, none⟩) H.lt).trans H.c3, H.map.below hb⟩
theorem NetP.reads {B h n g gm : Nat} {w : World} {l : List Pl} {V : Value} (H : NetP B w h n g gm l V) : NetR w h n g gm l :=
  ⟨blk_lt H.blk, blk_cell H.blk 0 _ rfl, blk_cell H.blk 1 _ rfl, blk_cell H.blk 3 _ rfl, H.map⟩
/-- What is asked of a list of nodes. -/
structure Fine (l : List Pl) : Prop where
  wf : ∀ q ∈ l, wfP q
  nodup : l.Nodup
theorem nc_bounds (f a b c : Int) (hv : validB f a b c = true) (i : Nat) : 0 ≤ nc f a b c i ∧ nc f a b c i ≤ 840 := by
  obtain ⟨_, _, h⟩ := (validB_iff ..).1 hv
  unfold nc wt
  split
  · omega
  split
  · omega
  split
  · omega
  · omega
theorem normPl_wf (f a b c : Int) (hv : validB f a b c = true) : wfP (normPl f a b c) := by
  obtain ⟨h1, _⟩ := nf_spec f a b c hv
  have h0 := nc_bounds f a b c hv 0
  have h2 := nc_bounds f a b c hv 1
  have h3 := nc_bounds f a b c hv 2
  exact ⟨WalkArith.wf_i64 (by simp only [normPl]; omega), WalkArith.wf_i64 (by simp only [normPl]; omega), WalkArith.wf_i64 (by simp only [normPl]; omega), WalkArith.wf_i64 (by simp only [normPl]; omega)⟩
end Go.Proofs.YtcoddcdiimpndaaDoor
