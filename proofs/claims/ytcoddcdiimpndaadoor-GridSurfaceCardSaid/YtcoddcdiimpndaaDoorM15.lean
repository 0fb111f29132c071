/-
  The walk of slices.MinFunc over shares by falling weight, as Nearest calls it.
  The walk of mesh's Nearest; package grid's Count, Index, Locate, Nearest.
  Package grid: Count, Index, Locate, Nearest.
  How many nodes a grid has.
  mesh.Build at each frequency; the walks of grid.Edges and grid.Cells.
-/
import Derived.Test.YtcoddcdiimpndaaDoorM03
import Derived.Deep.RegionHeld3
import Derived.Deep.DrawnRows
import Derived.Deep.DeepCutAuto
import Derived.Deep.DeepMust
import Derived.Test.YtcoddcdiimpndaaDoorM06
import Derived.Test.YtcoddcdiimpndaaDoorM07
import Derived.Test.YtcoddcdiimpndaaDoorM08
import Derived.Test.YtcoddcdiimpndaaDoorM14
set_option linter.unusedVariables false
set_option linter.unusedSimpArgs false
namespace Go.Proofs.YtcoddcdiimpndaaDoor
open Go.RowKit
/-- The compare function of Nearest. -/
def cmpW (x y : Sh) : Int := IntKind.i64.wrap (y.w - x.w)
/-- The first share of greatest weight among the first i. -/
def best (E : Nat → Sh) : Nat → Sh
  | 0 => E 0
  | i + 1 => if cmpW (E i) (best E i) < 0 then E i else best E i
theorem best_one (E : Nat → Sh) : best E 1 = E 0 := by
  simp only [best]
  exact ite_self _
set_option maxHeartbeats 1000000 in
theorem more_any (x y : Sh) (W : World) : Calls Tryd.prog 50 #[.agg #[.int .i64 x.node, .int .i64 x.w], .agg #[.int .i64 y.node, .int .i64 y.w]] W fun e w' => e = .returned (.int .i64 (cmpW x y)) ∧ (W.alloc (.cells #[.int .i64 x.node, .int .i64 x.w] 41)).alloc (.cells #[.int .i64 y.node, .int .i64 y.w] 41) = w' := by
  go_enter Tryd.func50, Tryd.ntmps50
  go_wp2
  go_ret
  refine ⟨?_, rfl⟩
  unfold cmpW
  rw [IntWalk.i64_left]
  rfl
theorem cellsS_at (L : List Sh) (i : Nat) (hi : i < L.length) : (cellsS L)[i * 2]? = some (.int .i64 L[i]!.node) ∧ (cellsS L)[i * 2 + 1]? = some (.int .i64 L[i]!.w) := by
  have h := flat_get shc 2 (fun _ => rfl) L
  have h0 := h (i * 2) (by omega)
  have h1 := h (i * 2 + 1) (by omega)
  rw [show i * 2 / 2 = i from by omega, show i * 2 % 2 = 0 from by omega] at h0
  rw [show (i * 2 + 1) / 2 = i from by omega, show (i * 2 + 1) % 2 = 1 from by omega] at h1
  exact ⟨h0, h1⟩
theorem cell_lt' {w : World} {p : Addr} {v : Value} (h : w.cell? p = some v) : p.block < w.heap.size := by
  rcases Nat.lt_or_ge p.block w.heap.size with h1 | h1
  · exact h1
  · simp [World.cell?, Array.getElem?_eq_none h1] at h
theorem keep4 {w w' : World} {a0 a1 a2 a3 : Addr} {v0 v1 v2 v3 : Value} (h : w.cell? a0 = some v0 ∧ w.cell? a1 = some v1 ∧ w.cell? a2 = some v2 ∧ w.cell? a3 = some v3) (hb : Below w.heap.size w w') :
    w'.cell? a0 = some v0 ∧ w'.cell? a1 = some v1 ∧ w'.cell? a2 = some v2 ∧ w'.cell? a3 = some v3 :=
  ⟨(hb.cell (cell_lt' h.1)).trans h.1, (hb.cell (cell_lt' h.2.1)).trans h.2.1, (hb.cell (cell_lt' h.2.2.1)).trans h.2.2.1, (hb.cell (cell_lt' h.2.2.2)).trans h.2.2.2⟩
theorem two_below (w : World) (o p : Obj) : Below w.heap.size w ((w.alloc o).alloc p) := ((Below.refl _ _).alloc (Nat.le_refl _) _).alloc (by simp) _
set_option maxRecDepth 100000 in
set_option maxHeartbeats 4000000 in
theorem min_any (L : List Sh) (base g cap : Nat) (w : World) (hn : 0 < L.length) (h12 : L.length ≤ 12) (h : w.ownsRow base 41 2 (.slice (some ⟨g, 0, none⟩) L.length cap) L.length (cellsS L)) :
    Calls Tryd.prog 49 #[.slice (some ⟨g, 0, none⟩) L.length cap, .func (.func 50) #[] #[]] w fun e w' =>
      e = .returned (.agg #[.int .i64 (best (fun i : Nat => L[i]!) L.length).node, .int .i64 (best (fun i : Nat => L[i]!) L.length).w]) ∧ Below w.heap.size w w' := by
  have hg := (h.lt g rfl).2
  have hcells : ∀ i, i < L.length → w.cell? ⟨g, i * 2, none⟩ = some (.int .i64 (L[i]!).node) ∧ w.cell? ⟨g, i * 2 + 1, none⟩ = some (.int .i64 (L[i]!).w) :=
    fun i hi => ⟨(h.cellAt (i * 2) (by omega)).trans (cellsS_at L i hi).1, (h.cellAt (i * 2 + 1) (by omega)).trans (cellsS_at L i hi).2⟩
  change ∀ i, i < L.length → w.cell? ⟨g, i * 2, none⟩ = some (.int .i64 ((fun i : Nat => L[i]!) i).node) ∧ w.cell? ⟨g, i * 2 + 1, none⟩ = some (.int .i64 ((fun i : Nat => L[i]!) i).w) at hcells
  generalize (fun i : Nat => L[i]!) = E at hcells ⊢
  clear h
  generalize L.length = n at hn h12 hcells ⊢
  have q0 := (hcells 0 hn).1
  have q1 := (hcells 0 hn).2
  have HC := Lib.hid hcells
  have hd0 : decide ((n : Int) < 1) = false := decide_eq_false (by omega)
  clear hcells
  go_enter Tryd.func49, Tryd.ntmps49
  go_wp2_with fail
  clear q0 q1
  go_loopw [6] (fun s6 wr => ∃ i : Nat, 1 ≤ i ∧ i ≤ n ∧ s6 = .int .i64 i ∧ Below w.heap.size w wr ∧ wr.heap[w.heap.size]? = some (.cells #[.int .i64 0, .int .i64 0] 41 (0, 0)) ∧ wr.heap[w.heap.size + 1]? = some (.cells #[.int .i64 (best E i).node, .int .i64 (best E i).w] 41 (0, 0))) (fun s6 _ => n - (intOf s6).toNat)
  case atStart =>
    refine ⟨1, Nat.le_refl _, hn, rfl, two_below _ _ _, blk_old _ (blk_new w _), ?_⟩
    rw [best_one]
    simpa only [World.size_alloc] using blk_new (w.alloc _) _
  case round =>
    obtain ⟨i, hi1, hin, rfl, hbr, hb0, hb1⟩ := hrel
    have HBR := Lib.hid hbr
    have HB0 := Lib.hid hb0
    have HB1 := Lib.hid hb1
    by_cases hlt : i < n
    · have hdi : decide ((i : Int) < (n : Int)) = true := decide_eq_true (by omega)
      have q0 := (hbr.cell (p := ⟨g, i * 2, none⟩) hg).trans (HC.out i hlt).1
      have q1 := (hbr.cell (p := ⟨g, i * 2 + 1, none⟩) hg).trans (HC.out i hlt).2
      have m0 := blk_cell hb1 0 (.int .i64 (best E i).node) rfl
      have m1 := blk_cell hb1 1 (.int .i64 (best E i).w) rfl
      have hs1 := hbr.size
      have hl1 := blk_lt hb1
      clear hbr hb0 hb1
      go_upto_region 7 with fail
      go_cut [27] (fun s27 wx => s27 = .bool (decide (cmpW (E i) (best E i) < 0)) ∧ Below wr.heap.size wr wx)
      case first =>
        go_region_held3 (fun w' => w'.cell? ⟨g, i * 2, none⟩ = some (.int .i64 (E i).node) ∧ w'.cell? ⟨g, i * 2 + 1, none⟩ = some (.int .i64 (E i).w) ∧ w'.cell? ⟨w.heap.size + 1, 0, none⟩ = some (.int .i64 (best E i).node) ∧ w'.cell? ⟨w.heap.size + 1, 1, none⟩ = some (.int .i64 (best E i).w))
          (first | assumption | exact keep4 (by assumption) (two_below _ _ _) | (refine ⟨?_, ?_, ?_, ?_⟩ <;> go_simp))
          (first
            | (go_at_call 50; go_must (refine (more_any (E i) (best E i) _).mono ?_; rintro e w' ⟨rfl, rfl⟩)))
        all_goals
          go_wp2_with fail
          go_meet
          exact ⟨rfl, by repeat (first | exact Below.refl _ _ | refine below_alloc ?_ _ | refine Below.drew ?_)⟩
      case rest =>
        obtain ⟨rfl, hbx⟩ := hcut
        have hgr : g < wr.heap.size := by omega
        have q0 := (hbx.cell (p := ⟨g, i * 2, none⟩) hgr).trans q0
        have q1 := (hbx.cell (p := ⟨g, i * 2 + 1, none⟩) hgr).trans q1
        have hbc := below_then HBR.out hbx HBR.out.size
        have hb0 := blk_below hbx HB0.out (by omega)
        have hb1 := blk_below hbx HB1.out hl1
        have m0 := blk_cell hb1 0 (.int .i64 (best E i).node) rfl
        have m1 := blk_cell hb1 1 (.int .i64 (best E i).w) rfl
        have f0 := blk_free hb1 0
        have f1 := blk_free hb1 1
        have hl2 := blk_lt hb1
        have HBC := Lib.hid hbc
        have HB0' := Lib.hid hb0
        have HB1' := Lib.hid hb1
        have hgc : g < wc.heap.size := by omega
        have hne : ¬ g = w.heap.size + 1 := by omega
        clear hbx hbc hb0 hb1
        by_cases hc : cmpW (E i) (best E i) < 0
        · have hdc : decide (cmpW (E i) (best E i) < 0) = true := decide_eq_true hc
          have hbest : best E (i + 1) = E i := by rw [best, if_pos hc]
          have HBEST := Lib.hid hbest
          rw [hdc]
          clear hbest
          go_wp2_with fail
          go_roundw
          case rel => exact ⟨i + 1, by omega, by omega, by go_num, Below.setCell (Below.setCell HBC.out (by exact Nat.le_succ _) _) (by exact Nat.le_succ _) _, (heap_setCell_other _ _ _ _ (by simp)).trans ((heap_setCell_other _ _ _ _ (by simp)).trans HB0'.out), by rw [HBEST.out]; exact heap_setCell_same _ _ _ _ _ _ (heap_setCell_same _ _ _ _ _ _ HB1'.out)⟩
          case measure => simp [intOf]; omega
        · have hdc : decide (cmpW (E i) (best E i) < 0) = false := decide_eq_false hc
          have hbest : best E (i + 1) = best E i := by rw [best, if_neg hc]
          have HBEST := Lib.hid hbest
          rw [hdc]
          clear hbest
          go_wp2_with fail
          go_roundw
          case rel => exact ⟨i + 1, by omega, by omega, by go_num, HBC.out, HB0'.out, by rw [HBEST.out]; exact HB1'.out⟩
          case measure => simp [intOf]; omega
    · obtain rfl : i = n := by omega
      have m0 := blk_cell hb1 0 (.int .i64 (best E i).node) rfl
      have m1 := blk_cell hb1 1 (.int .i64 (best E i).w) rfl
      have z0 := blk_cell hb0 0 (.int .i64 0) rfl
      have z1 := blk_cell hb0 1 (.int .i64 0) rfl
      have f0 := blk_free hb0 0
      have f1 := blk_free hb0 1
      have hl1 := blk_lt hb1
      have hl0 := blk_lt hb0
      have HBB := Lib.hid hb0
      clear hbr hb0 hb1
      go_wp2_with fail
      have hB : ((wr.setCell ⟨w.heap.size, 0, none⟩ (.int .i64 (best E i).node)).setCell ⟨w.heap.size, 1, none⟩ (.int .i64 (best E i).w)).heap[w.heap.size]? = some (.cells #[.int .i64 (best E i).node, .int .i64 (best E i).w] 41 (0, 0)) := heap_setCell_same _ _ _ _ _ _ (heap_setCell_same _ _ _ _ _ _ HBB.out)
      have hbb : Below w.heap.size w ((wr.setCell ⟨w.heap.size, 0, none⟩ (.int .i64 (best E i).node)).setCell ⟨w.heap.size, 1, none⟩ (.int .i64 (best E i).w)) := Below.setCell (Below.setCell HBR.out (by exact Nat.le_refl _) _) (by exact Nat.le_refl _) _
      generalize (wr.setCell ⟨w.heap.size, 0, none⟩ (.int .i64 (best E i).node)).setCell ⟨w.heap.size, 1, none⟩ (.int .i64 (best E i).w) = we at hB hbb ⊢
      have r0 := blk_cell hB 0 (.int .i64 (best E i).node) rfl
      have r1 := blk_cell hB 1 (.int .i64 (best E i).w) rfl
      refine bodyPost_ret (v := .agg #[.int .i64 (best E i).node, .int .i64 (best E i).w]) (by simp [results, Tryd.results49, go_sem, r0, r1]) rfl ⟨rfl, hbb⟩
end Go.Proofs.YtcoddcdiimpndaaDoor
set_option linter.unusedVariables false
set_option linter.unusedSimpArgs false
namespace Go.Proofs.YtcoddcdiimpndaaDoor
open Go.RowKit
theorem raw3_pos (l : List Pl) (f : Int) (qx qy qz W : Nat → Int) (h : 0 < W 0 ∨ 0 < W 1 ∨ 0 < W 2) : 0 < (rawTo l f qx qy qz W 3).length := by
  simp only [rawTo, List.length_append]
  rcases h with h0 | h0 | h0 <;> rw [if_pos h0] <;> simp <;> omega
theorem locS_len (l : List Pl) (h n : Nat) (f a b c : Int) (hv : validB f a b c = true) (hn1 : 1 ≤ n) (hh : n * h = 840) : 0 < (locS l h n f a b c).length ∧ (locS l h n f a b c).length ≤ 3 := by
  obtain ⟨hf0, hf1, ha0, ha1, hb0, hb1, hc0, hc1, hs⟩ := (validB_iff ..).1 hv
  simp only [locS]
  split
  · exact ⟨Nat.zero_lt_one, by simp⟩
  · rename_i h0
    rw [sortS_length]
    refine ⟨raw3_pos _ _ _ _ _ _ ?_, rawTo_le ..⟩
    obtain ⟨X, hX⟩ : ∃ X : Int, X = a % (h : Int) * (n : Int) := ⟨_, rfl⟩
    obtain ⟨Y, hY⟩ : ∃ Y : Int, Y = b % (h : Int) * (n : Int) := ⟨_, rfl⟩
    obtain ⟨Z, hZ⟩ : ∃ Z : Int, Z = c % (h : Int) * (n : Int) := ⟨_, rfl⟩
    have hh2 : (h : Int) * (n : Int) = 840 := by rw [Int.mul_comm, ← Int.natCast_mul, hh]; rfl
    have hsum : X + Y + Z = (a % (h : Int) + b % (h : Int) + c % (h : Int)) * (n : Int) := by rw [hX, hY, hZ, Int.add_mul, Int.add_mul]
    rw [← hX, ← hY, ← hZ] at h0 ⊢
    rcases mod_cases a b c h n hh hn1 hs ha0 hb0 hc0 with hr | hr | hr
    · rw [hr, Int.zero_mul] at hsum
      exact absurd hsum h0
    · rw [hr, hh2] at hsum
      simp [hsum, lw]
      omega
    · rw [hr, Int.mul_assoc, hh2] at hsum
      simp [hsum, lw]
      omega
theorem node_of (x y : Int) (W : World) : (Instr.field 41 (.agg #[.int .i64 x, .int .i64 y]) 0).run Tryd.prog W = .ok (.int .i64 x) W := by
  simp [Instr.field, asAgg, go_sem]
/-- The node of greatest weight. -/
def nearS (L : List Sh) : Int := (best (fun i : Nat => L[i]!) L.length).node
set_option maxRecDepth 100000 in
set_option maxHeartbeats 1000000 in
theorem nearest_any (f a b c : Int) (hv : validB f a b c = true) (w : World) (hT : TabOk w) (h n g gm : Nat) (hn1 : 1 ≤ n) (hn8 : n ≤ 8) (hh : n * h = 840) (l : List Pl) (hN : NetR w h n g gm l) (hl : Fine l) :
    Calls Tryd.prog 35 #[.pointer (some ⟨g, 0, none⟩), .agg #[.int .i64 f, .int .i64 a, .int .i64 b, .int .i64 c]] w fun e w' => e = .returned (.int .i64 (nearS (locS l h n f a b c))) ∧ Below w.heap.size w w' := by
  obtain ⟨hp, h3⟩ := locS_len l h n f a b c hv hn1 hh
  have hba : Below w.heap.size w (w.alloc (.cells #[.int .i64 f, .int .i64 a, .int .i64 b, .int .i64 c] 23)) := (Below.refl _ _).alloc (Nat.le_refl _) _
  have HL := Lib.hid (locate_core f a b c hv _ (hT.below hba) h n g gm hn1 hn8 hh l (hN.below hba) hl)
  have HBA := Lib.hid hba
  change Calls _ _ _ _ fun e w' => e = .returned (.int .i64 (best (fun i : Nat => (locS l h n f a b c)[i]!) (locS l h n f a b c).length).node) ∧ _
  generalize locS l h n f a b c = L at hp h3 HL ⊢
  clear hT hN hv hh hl hba
  go_enter Tryd.func35, Tryd.ntmps35
  go_wp2_with fail
  refine HL.out.mono ?_
  rintro e w1 ⟨v, rfl, hown, hb1⟩
  obtain ⟨g1, cp, rfl⟩ : ∃ g1 cp, v = .slice (some ⟨g1, 0, none⟩) L.length cp := by
    rcases hown.2 with ⟨_, h0⟩ | ⟨g', cap, cur, h0, _⟩
    · omega
    · exact ⟨g', cap, h0⟩
  have HB1 := Lib.hid (below_then HBA.out hb1 HBA.out.size)
  have HO := Lib.hid hown
  clear hown hb1
  go_wp2_with fail
  have hmin := min_any L _ g1 cp w1 hp (by omega) HO.out
  obtain ⟨B, hB⟩ : ∃ B : Sh, B = best (fun i : Nat => L[i]!) L.length := ⟨_, rfl⟩
  rw [← hB] at hmin
  have HB := Lib.hid hB
  clear hB
  refine hmin.mono ?_
  rintro e w2 ⟨rfl, hb2⟩
  have HB2 := Lib.hid (below_then HB1.out hb2 HB1.out.size)
  have hfld := node_of B.node B.w
  clear hb2
  go_wp2_with fail
  go_ret
  have hB := HB.out
  subst hB
  exact ⟨rfl, HB2.out⟩
end Go.Proofs.YtcoddcdiimpndaaDoor
set_option linter.unusedVariables false
set_option linter.unusedSimpArgs false
namespace Go.Proofs.YtcoddcdiimpndaaDoor
open Go.RowKit
def okB (n f a b c : Int) : Bool := freqB n && validB f a b c
def gLoc (n f a b c : Int) : List Sh := if okB n f a b c then locS (nodes n.toNat) (840 / n.toNat) n.toNat f a b c else []
def gNear (n f a b c : Int) : Int := if okB n f a b c then nearS (gLoc n f a b c) else 0
def gErr (n f a b c : Int) : Int := if okB n f a b c then 0 else 1
def gCount (n : Int) : Int := if freqB n then 10 * (n * n) + 2 else 0
theorem freq_nat {n : Int} (h : freqB n = true) : ∃ m : Nat, n = m ∧ 1 ≤ m ∧ m ≤ 8 ∧ m * (840 / m) = 840 := by
  have h1 : 1 ≤ n ∧ n ≤ 8 := by simpa [freqB] using h
  refine ⟨n.toNat, by omega, by omega, by omega, ?_⟩
  have : n.toNat = 1 ∨ n.toNat = 2 ∨ n.toNat = 3 ∨ n.toNat = 4 ∨ n.toNat = 5 ∨ n.toNat = 6 ∨ n.toNat = 7 ∨ n.toNat = 8 := by omega
  rcases this with e | e | e | e | e | e | e | e <;> rw [e] <;> decide
theorem count_any (n : Int) (w : World) : Calls Tryd.prog 9 #[.int .i64 n] w fun e w' => e = .returned (.int .i64 (gCount n)) ∧ w = w' := by
  cases hq : freqB n
  · have hg : gCount n = 0 := by simp [gCount, hq]
    rw [hg]
    have hf := freq_any n w
    rw [hq] at hf
    clear hg
    go_enter Tryd.func9, Tryd.ntmps9
    go_wp2_with fail
    refine hf.mono ?_
    rintro e w1 ⟨rfl, rfl⟩
    go_wp2_with fail
    go_ret
    exact ⟨rfl, rfl⟩
  · have hg : gCount n = 10 * (n * n) + 2 := by simp [gCount, hq]
    rw [hg]
    have hf := freq_any n w
    have hn : 1 ≤ n ∧ n ≤ 8 := by simpa [freqB] using hq
    have h64 : n * n ≤ 8 * 8 := Int.mul_le_mul hn.2 hn.2 (by omega) (by omega)
    have hnn : 0 ≤ n * n := Int.mul_nonneg (by omega) (by omega)
    have he : 10 * n * n = 10 * (n * n) := Int.mul_assoc ..
    rw [hq] at hf
    clear hg
    go_enter Tryd.func9, Tryd.ntmps9
    go_wp2_with fail
    refine hf.mono ?_
    rintro e w1 ⟨rfl, rfl⟩
    go_wp2_with fail
    go_ret
    exact ⟨rfl, rfl⟩
/-- A grid's nodes are fine. -/
theorem fine_nodes (m : Nat) (h1 : 1 ≤ m) (h8 : m ≤ 8) : Fine (nodes m) := by
  refine ⟨fun q hq => ?_, nodes_nodup m h1 h8⟩
  have := (validB_iff ..).1 (nodes_valid m h1 h8 q hq)
  exact ⟨WalkArith.wf_i64 (by omega), WalkArith.wf_i64 (by omega), WalkArith.wf_i64 (by omega), WalkArith.wf_i64 (by omega)⟩
set_option maxRecDepth 100000 in
set_option maxHeartbeats 2000000 in
theorem glocate_any (n f a b c : Int) (w : World) (hT : TabOk w) : Calls Tryd.prog 13 #[.int .i64 n, .agg #[.int .i64 f, .int .i64 a, .int .i64 b, .int .i64 c]] w fun e w' =>
    ∃ v, e = .returned (.tuple #[v, .int .i64 (gErr n f a b c)]) ∧ w'.ownsRow w.heap.size 41 2 v (gLoc n f a b c).length (cellsS (gLoc n f a b c)) ∧ Below w.heap.size w w' := by
  have hba : Below w.heap.size w (w.alloc (.cells #[.int .i64 f, .int .i64 a, .int .i64 b, .int .i64 c] 23)) := (Below.refl _ _).alloc (Nat.le_refl _) _
  have hB := blk_new w (.cells #[.int .i64 f, .int .i64 a, .int .i64 b, .int .i64 c] 23)
  have HT := Lib.hid (hT.below hba)
  have HBA := Lib.hid hba
  clear hT hba
  have hfr := fun W => freq_any n W
  cases hq : freqB n
  · have he : gErr n f a b c = 1 := by simp [gErr, okB, hq]
    have hl : gLoc n f a b c = [] := by simp [gLoc, okB, hq]
    rw [he, hl]
    rw [hq] at hfr
    clear he hl
    go_enter Tryd.func13, Tryd.ntmps13
    go_wp2_with fail
    refine (hfr _).mono ?_
    rintro e w1 ⟨rfl, rfl⟩
    go_wp2_with fail
    go_ret2
    exact ⟨_, rfl, World.ownsRow_nil _ _ _ _, HBA.out⟩
  · obtain ⟨m, rfl, h1, h8, hh⟩ := freq_nat hq
    rw [hq] at hfr
    cases hv : validB f a b c
    · have he : gErr m f a b c = 1 := by simp [gErr, okB, hv]
      have hl : gLoc m f a b c = [] := by simp [gLoc, okB, hv]
      rw [he, hl]
      have hva := fun W => valid_any f a b c W
      rw [hv] at hva
      clear he hl
      go_enter Tryd.func13, Tryd.ntmps13
      go_wp2_with fail
      refine (hfr _).mono ?_
      rintro e w1 ⟨rfl, rfl⟩
      go_wp2_with fail
      refine (hva _).mono ?_
      rintro e w2 ⟨rfl, hb2⟩
      have HB2 := Lib.hid (below_then HBA.out hb2 HBA.out.size)
      clear hb2
      go_wp2_with fail
      go_ret2
      exact ⟨_, rfl, World.ownsRow_nil _ _ _ _, HB2.out⟩
    · have he : gErr m f a b c = 0 := by simp [gErr, okB, hv, hq]
      have hl : gLoc m f a b c = locS (nodes m) (840 / m) m f a b c := by simp [gLoc, okB, hv, hq]
      rw [he, hl]
      have hva := fun W => valid_any f a b c W
      have HV := Lib.hid hv
      rw [hv] at hva
      have HH := Lib.hid hh
      have HF := Lib.hid (fine_nodes m h1 h8)
      clear he hl hh
      go_enter Tryd.func13, Tryd.ntmps13
      go_wp2_with fail
      refine (hfr _).mono ?_
      rintro e w1 ⟨rfl, rfl⟩
      go_wp2_with fail
      refine (hva _).mono ?_
      rintro e w2 ⟨rfl, hb2⟩
      have hB2 := blk_below hb2 hB (blk_lt hB)
      have p0 := blk_cell hB2 0 (.int .i64 f) rfl
      have p1 := blk_cell hB2 1 (.int .i64 a) rfl
      have p2 := blk_cell hB2 2 (.int .i64 b) rfl
      have p3 := blk_cell hB2 3 (.int .i64 c) rfl
      have HT2 := Lib.hid (HT.out.below hb2)
      have HB2 := Lib.hid (below_then HBA.out hb2 HBA.out.size)
      clear hb2 hB hB2
      go_wp2_with fail
      go_region_held3 (fun w' => w'.cell? ⟨w.heap.size, 0, none⟩ = some (.int .i64 f) ∧ w'.cell? ⟨w.heap.size, 1, none⟩ = some (.int .i64 a) ∧ w'.cell? ⟨w.heap.size, 2, none⟩ = some (.int .i64 b) ∧ w'.cell? ⟨w.heap.size, 3, none⟩ = some (.int .i64 c))
        (first | assumption | (refine ⟨?_, ?_, ?_, ?_⟩ <;> go_simp))
        (first
          | (go_at_call 26; go_must (refine (points_any m h1 h8 _ (by first | exact HT2.out | exact HT2.out.below (drewN_below (Below.refl _ _) _))).mono ?_; rintro e w3 ⟨V, rfl, hnet, hb3'⟩; have hb3 : Below w2.heap.size w2 w3 := ⟨hb3'.os, hb3'.tape, hb3'.output, hb3'.size, hb3'.block⟩; have HN3 := Lib.hid hnet.reads; have HT3 := Lib.hid (HT2.out.below hb3); have HB3 := Lib.hid (below_then HB2.out hb3 HB2.out.size); have k3 := keep4 ⟨p0, p1, p2, p3⟩ hb3; clear hb3 hb3' hnet))
          | (go_at_call 31; go_must (refine (locate_core f a b c HV.out _ HT3.out (840 / m) m _ _ h1 h8 HH.out _ HN3.out HF.out).mono ?_; rintro e w4 ⟨v, rfl, hown, hb4⟩; have HO4 := Lib.hid (own_mono hown HB3.out.size); have HB4 := Lib.hid (below_then HB3.out hb4 HB3.out.size); have k4 := keep4 k3 hb4; clear hown hb4)))
      all_goals
        go_wp2_with fail
        go_ret2
        exact ⟨v, rfl, HO4.out, HB4.out⟩
set_option maxRecDepth 100000 in
set_option maxHeartbeats 2000000 in
theorem gnearest_any (n f a b c : Int) (w : World) (hT : TabOk w) : Calls Tryd.prog 15 #[.int .i64 n, .agg #[.int .i64 f, .int .i64 a, .int .i64 b, .int .i64 c]] w fun e w' =>
    e = .returned (.tuple #[.int .i64 (gNear n f a b c), .int .i64 (gErr n f a b c)]) ∧ Below w.heap.size w w' := by
  have hba : Below w.heap.size w (w.alloc (.cells #[.int .i64 f, .int .i64 a, .int .i64 b, .int .i64 c] 23)) := (Below.refl _ _).alloc (Nat.le_refl _) _
  have hB := blk_new w (.cells #[.int .i64 f, .int .i64 a, .int .i64 b, .int .i64 c] 23)
  have HT := Lib.hid (hT.below hba)
  have HBA := Lib.hid hba
  clear hT hba
  have hfr := fun W => freq_any n W
  cases hq : freqB n
  · have he : gErr n f a b c = 1 := by simp [gErr, okB, hq]
    have hl : gNear n f a b c = 0 := by simp [gNear, okB, hq]
    rw [he, hl]
    rw [hq] at hfr
    clear he hl
    go_enter Tryd.func15, Tryd.ntmps15
    go_wp2_with fail
    refine (hfr _).mono ?_
    rintro e w1 ⟨rfl, rfl⟩
    go_wp2_with fail
    go_ret2
    exact ⟨rfl, HBA.out⟩
  · obtain ⟨m, rfl, h1, h8, hh⟩ := freq_nat hq
    rw [hq] at hfr
    cases hv : validB f a b c
    · have he : gErr m f a b c = 1 := by simp [gErr, okB, hv]
      have hl : gNear m f a b c = 0 := by simp [gNear, okB, hv]
      rw [he, hl]
      have hva := fun W => valid_any f a b c W
      rw [hv] at hva
      clear he hl
      go_enter Tryd.func15, Tryd.ntmps15
      go_wp2_with fail
      refine (hfr _).mono ?_
      rintro e w1 ⟨rfl, rfl⟩
      go_wp2_with fail
      refine (hva _).mono ?_
      rintro e w2 ⟨rfl, hb2⟩
      have HB2 := Lib.hid (below_then HBA.out hb2 HBA.out.size)
      clear hb2
      go_wp2_with fail
      go_ret2
      exact ⟨rfl, HB2.out⟩
    · have he : gErr m f a b c = 0 := by simp [gErr, okB, hv, hq]
      have hl : gNear m f a b c = nearS (locS (nodes m) (840 / m) m f a b c) := by simp [gNear, gLoc, okB, hv, hq]
      rw [he, hl]
      have hva := fun W => valid_any f a b c W
      have HV := Lib.hid hv
      rw [hv] at hva
      have HH := Lib.hid hh
      have HF := Lib.hid (fine_nodes m h1 h8)
      clear he hl hh
      go_enter Tryd.func15, Tryd.ntmps15
      go_wp2_with fail
      refine (hfr _).mono ?_
      rintro e w1 ⟨rfl, rfl⟩
      go_wp2_with fail
      refine (hva _).mono ?_
      rintro e w2 ⟨rfl, hb2⟩
      have hB2 := blk_below hb2 hB (blk_lt hB)
      have p0 := blk_cell hB2 0 (.int .i64 f) rfl
      have p1 := blk_cell hB2 1 (.int .i64 a) rfl
      have p2 := blk_cell hB2 2 (.int .i64 b) rfl
      have p3 := blk_cell hB2 3 (.int .i64 c) rfl
      have HT2 := Lib.hid (HT.out.below hb2)
      have HB2 := Lib.hid (below_then HBA.out hb2 HBA.out.size)
      clear hb2 hB hB2
      go_wp2_with fail
      go_region_held3 (fun w' => w'.cell? ⟨w.heap.size, 0, none⟩ = some (.int .i64 f) ∧ w'.cell? ⟨w.heap.size, 1, none⟩ = some (.int .i64 a) ∧ w'.cell? ⟨w.heap.size, 2, none⟩ = some (.int .i64 b) ∧ w'.cell? ⟨w.heap.size, 3, none⟩ = some (.int .i64 c))
        (first | assumption | (refine ⟨?_, ?_, ?_, ?_⟩ <;> go_simp))
        (first
          | (go_at_call 26; go_must (refine (points_any m h1 h8 _ (by first | exact HT2.out | exact HT2.out.below (drewN_below (Below.refl _ _) _))).mono ?_; rintro e w3 ⟨V, rfl, hnet, hb3'⟩; have hb3 : Below w2.heap.size w2 w3 := ⟨hb3'.os, hb3'.tape, hb3'.output, hb3'.size, hb3'.block⟩; have HN3 := Lib.hid hnet.reads; have HT3 := Lib.hid (HT2.out.below hb3); have HB3 := Lib.hid (below_then HB2.out hb3 HB2.out.size); have k3 := keep4 ⟨p0, p1, p2, p3⟩ hb3; clear hb3 hb3' hnet))
          | (go_at_call 35; go_must (refine (nearest_any f a b c HV.out _ HT3.out (840 / m) m _ _ h1 h8 HH.out _ HN3.out HF.out).mono ?_; rintro e w4 ⟨rfl, hb4⟩; have HB4 := Lib.hid (below_then HB3.out hb4 HB3.out.size); have k4 := keep4 k3 hb4; clear hb4)))
      all_goals
        go_wp2_with fail
        go_ret2
        exact ⟨rfl, HB4.out⟩
end Go.Proofs.YtcoddcdiimpndaaDoor
set_option linter.unusedVariables false
set_option linter.unusedSimpArgs false
namespace Go.Proofs.YtcoddcdiimpndaaDoor
set_option maxRecDepth 100000 in
theorem nodes_count (n : Nat) (h1 : 1 ≤ n) (h8 : n ≤ 8) : (nodes n).length = 10 * (n * n) + 2 := by
  have : n = 1 ∨ n = 2 ∨ n = 3 ∨ n = 4 ∨ n = 5 ∨ n = 6 ∨ n = 7 ∨ n = 8 := by omega
  rcases this with rfl | rfl | rfl | rfl | rfl | rfl | rfl | rfl <;> decide +kernel
theorem nodes_len (m : Nat) (h1 : 1 ≤ m) (h8 : m ≤ 8) : 0 < (nodes m).length ∧ (nodes m).length ≤ 1000000 := by
  rw [nodes_count m h1 h8]
  have : m * m ≤ 8 * 8 := Nat.mul_le_mul h8 h8
  omega
end Go.Proofs.YtcoddcdiimpndaaDoor
set_option linter.unusedVariables false
set_option linter.unusedSimpArgs false
namespace Go.Proofs.YtcoddcdiimpndaaDoor
open Go.RowKit
theorem nh (n : Nat) (h1 : 1 ≤ n) (h8 : n ≤ 8) : n * (840 / n) = 840 := by
  have : n = 1 ∨ n = 2 ∨ n = 3 ∨ n = 4 ∨ n = 5 ∨ n = 6 ∨ n = 7 ∨ n = 8 := by omega
  rcases this with rfl | rfl | rfl | rfl | rfl | rfl | rfl | rfl <;> decide
theorem tris_pos (l : List Pl) (h n : Nat) (h1 : 1 ≤ n) : 0 < (trisTo l h n 20 0 0).length := by
  refine List.length_pos_of_mem (a := upT l h ((0 : Nat) : Int) (((0 : Nat) : Int) * h) (((0 : Nat) : Int) * h) (((n : Int) - 1 - (0 : Nat) - (0 : Nat)) * h)) ?_
  unfold trisTo tAll tCol tRow
  simp only [List.mem_append, List.mem_flatMap, List.mem_range]
  exact .inl (.inl ⟨0, by omega, 0, by omega, 0, by omega, by unfold cellsOfP; simp⟩)
theorem build_any (n : Nat) (h1 : 1 ≤ n) (h8 : n ≤ 8) (w : World) (hT : TabOk w) :
    Calls Tryd.prog 37 #[.int .i64 n] w fun e w' => e = .returned (.pointer (some ⟨w.heap.size + 1, 0, none⟩)) ∧ Built w w' (840 / n) n (nodes n) := by
  have hc := nodes_count n h1 h8
  have h64 : n * n ≤ 8 * 8 := Nat.mul_le_mul h8 h8
  exact build_core n (840 / n) h1 h8 (nh n h1 h8) (nodes n) (fine_nodes n h1 h8) (by omega) (nodes_len n h1 h8).1 (tris_pos _ _ _ h1) w hT (points_any n h1 h8 w hT)
set_option maxHeartbeats 1000000 in
theorem gedges_own (m : Nat) (h1 : 1 ≤ m) (h8 : m ≤ 8) (w : World) (hT : TabOk w) :
    Calls Tryd.prog 22 #[.int .i64 m] w fun e w' => ∃ V, e = .returned (.tuple #[V, .int .i64 0]) ∧ w'.ownsRow w.heap.size 52 2 V (edL (nodes m) (840 / m) m).length (cellsE (edL (nodes m) (840 / m) m)) ∧ Below w.heap.size w w' := by
  have hfr := fun W => freq_any m W
  rw [show freqB m = true from by simp [freqB]; omega] at hfr
  have HP := Lib.hid (build_any m h1 h8 w hT)
  clear hT
  go_enter Tryd.func22, Tryd.ntmps22
  go_wp2_with fail
  refine (hfr _).mono ?_
  rintro e w1 ⟨rfl, rfl⟩
  go_wp2_with fail
  refine HP.out.mono ?_
  rintro e w2 ⟨rfl, hblt⟩
  unfold Built at hblt
  obtain ⟨V, C, Ev, gx, Vx, hnet, hr2, hb⟩ := hblt
  have c5 := blk_cell hnet.blk 5 Ev rfl
  have hlt := blk_lt hnet.blk
  have HN := Lib.hid hnet.edg
  have HB := Lib.hid hb
  clear hnet hb hr2
  go_wp2_with fail
  go_ret2
  exact ⟨Ev, rfl, HN.out, HB.out⟩
set_option maxHeartbeats 1000000 in
theorem gcells_own (m : Nat) (h1 : 1 ≤ m) (h8 : m ≤ 8) (w : World) (hT : TabOk w) :
    Calls Tryd.prog 23 #[.int .i64 m] w fun e w' => ∃ V, e = .returned (.tuple #[V, .int .i64 0]) ∧ w'.ownsRow w.heap.size 54 3 V (triL (nodes m) (840 / m) m).length (cellsT (triL (nodes m) (840 / m) m)) ∧ Below w.heap.size w w' := by
  have hfr := fun W => freq_any m W
  rw [show freqB m = true from by simp [freqB]; omega] at hfr
  have HP := Lib.hid (build_any m h1 h8 w hT)
  clear hT
  go_enter Tryd.func23, Tryd.ntmps23
  go_wp2_with fail
  refine (hfr _).mono ?_
  rintro e w1 ⟨rfl, rfl⟩
  go_wp2_with fail
  refine HP.out.mono ?_
  rintro e w2 ⟨rfl, hblt⟩
  unfold Built at hblt
  obtain ⟨V, C, Ev, gx, Vx, hnet, hr2, hb⟩ := hblt
  have c5 := blk_cell hnet.blk 4 C rfl
  have hlt := blk_lt hnet.blk
  have HN := Lib.hid hnet.tri
  have HB := Lib.hid hb
  clear hnet hb hr2
  go_wp2_with fail
  go_ret2
  exact ⟨C, rfl, HN.out, HB.out⟩
end Go.Proofs.YtcoddcdiimpndaaDoor
