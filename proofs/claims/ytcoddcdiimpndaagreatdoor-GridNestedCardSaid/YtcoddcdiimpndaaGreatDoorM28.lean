/-
  The walk of slices.MinFunc over shares by falling weight, as Nearest calls it.
-/
import Derived.Test.YtcoddcdiimpndaaGreatDoorM03
import Derived.Deep.RegionHeld3
import Derived.Deep.DrawnRows
import Derived.Deep.DeepCutAuto
import Derived.Deep.DeepMust
set_option linter.unusedVariables false
set_option linter.unusedSimpArgs false
namespace Go.Proofs.YtcoddcdiimpndaaGreatDoor
open Go.RowKit
/-- The compare function of Nearest. -/
def cmpW (x y : Sh) : Int := IntKind.i64.wrap (y.w - x.w)
/-- The first share of greatest weight among the first i. -/
def best (E : Nat → Sh) : Nat → Sh
  | 0 => E 0
  | i + 1 => if cmpW (E i) (best E i) < 0 then E i else best E i
theorem best_one (E : Nat → Sh) : best E 1 = E 0 := by
  simp only [best]
  exact ite_self _
set_option maxHeartbeats 1000000 in
theorem more_any (x y : Sh) (W : World) : Calls Tryz.prog 177 #[.agg #[.int .i64 x.node, .int .i64 x.w], .agg #[.int .i64 y.node, .int .i64 y.w]] W fun e w' => e = .returned (.int .i64 (cmpW x y)) ∧ (W.alloc (.cells #[.int .i64 x.node, .int .i64 x.w] 54)).alloc (.cells #[.int .i64 y.node, .int .i64 y.w] 54) = w' := by
  go_enter Tryz.func177, Tryz.ntmps177
  go_wp2
  go_ret
  refine ⟨?_, rfl⟩
  unfold cmpW
  rw [IntWalk.i64_left]
  rfl
theorem cellsS_at (L : List Sh) (i : Nat) (hi : i < L.length) : (cellsS L)[i * 2]? = some (.int .i64 L[i]!.node) ∧ (cellsS L)[i * 2 + 1]? = some (.int .i64 L[i]!.w) := by
  have h := flat_get shc 2 (fun _ => rfl) L
  have h0 := h (i * 2) (by omega)
  have h1 := h (i * 2 + 1) (by omega)
  rw [show i * 2 / 2 = i from by omega, show i * 2 % 2 = 0 from by omega] at h0
  rw [show (i * 2 + 1) / 2 = i from by omega, show (i * 2 + 1) % 2 = 1 from by omega] at h1
  exact ⟨h0, h1⟩
theorem cell_lt' {w : World} {p : Addr} {v : Value} (h : w.cell? p = some v) : p.block < w.heap.size := by
  rcases Nat.lt_or_ge p.block w.heap.size with h1 | h1
  · exact h1
  · simp [World.cell?, Array.getElem?_eq_none h1] at h
theorem keep4 {w w' : World} {a0 a1 a2 a3 : Addr} {v0 v1 v2 v3 : Value} (h : w.cell? a0 = some v0 ∧ w.cell? a1 = some v1 ∧ w.cell? a2 = some v2 ∧ w.cell? a3 = some v3) (hb : Below w.heap.size w w') :
    w'.cell? a0 = some v0 ∧ w'.cell? a1 = some v1 ∧ w'.cell? a2 = some v2 ∧ w'.cell? a3 = some v3 :=
  ⟨(hb.cell (cell_lt' h.1)).trans h.1, (hb.cell (cell_lt' h.2.1)).trans h.2.1, (hb.cell (cell_lt' h.2.2.1)).trans h.2.2.1, (hb.cell (cell_lt' h.2.2.2)).trans h.2.2.2⟩
theorem two_below (w : World) (o p : Obj) : Below w.heap.size w ((w.alloc o).alloc p) := ((Below.refl _ _).alloc (Nat.le_refl _) _).alloc (by simp) _
set_option maxRecDepth 100000 in
set_option maxHeartbeats 4000000 in
theorem min_any (L : List Sh) (base g cap : Nat) (w : World) (hn : 0 < L.length) (h12 : L.length ≤ 12) (h : w.ownsRow base 54 2 (.slice (some ⟨g, 0, none⟩) L.length cap) L.length (cellsS L)) :
    Calls Tryz.prog 176 #[.slice (some ⟨g, 0, none⟩) L.length cap, .func (.func 177) #[] #[]] w fun e w' =>
      e = .returned (.agg #[.int .i64 (best (fun i : Nat => L[i]!) L.length).node, .int .i64 (best (fun i : Nat => L[i]!) L.length).w]) ∧ Below w.heap.size w w' := by
  have hg := (h.lt g rfl).2
  have hcells : ∀ i, i < L.length → w.cell? ⟨g, i * 2, none⟩ = some (.int .i64 (L[i]!).node) ∧ w.cell? ⟨g, i * 2 + 1, none⟩ = some (.int .i64 (L[i]!).w) :=
    fun i hi => ⟨(h.cellAt (i * 2) (by omega)).trans (cellsS_at L i hi).1, (h.cellAt (i * 2 + 1) (by omega)).trans (cellsS_at L i hi).2⟩
  change ∀ i, i < L.length → w.cell? ⟨g, i * 2, none⟩ = some (.int .i64 ((fun i : Nat => L[i]!) i).node) ∧ w.cell? ⟨g, i * 2 + 1, none⟩ = some (.int .i64 ((fun i : Nat => L[i]!) i).w) at hcells
  generalize (fun i : Nat => L[i]!) = E at hcells ⊢
  clear h
  generalize L.length = n at hn h12 hcells ⊢
  have q0 := (hcells 0 hn).1
  have q1 := (hcells 0 hn).2
  have HC := Lib.hid hcells
  have hd0 : decide ((n : Int) < 1) = false := decide_eq_false (by omega)
  clear hcells
  go_enter Tryz.func176, Tryz.ntmps176
  go_wp2_with fail
  clear q0 q1
  go_loopw [6] (fun s6 wr => ∃ i : Nat, 1 ≤ i ∧ i ≤ n ∧ s6 = .int .i64 i ∧ Below w.heap.size w wr ∧ wr.heap[w.heap.size]? = some (.cells #[.int .i64 0, .int .i64 0] 54 (0, 0)) ∧ wr.heap[w.heap.size + 1]? = some (.cells #[.int .i64 (best E i).node, .int .i64 (best E i).w] 54 (0, 0))) (fun s6 _ => n - (intOf s6).toNat)
  case atStart =>
    refine ⟨1, Nat.le_refl _, hn, rfl, two_below _ _ _, blk_old _ (blk_new w _), ?_⟩
    rw [best_one]
    simpa only [World.size_alloc] using blk_new (w.alloc _) _
  case round =>
    obtain ⟨i, hi1, hin, rfl, hbr, hb0, hb1⟩ := hrel
    have HBR := Lib.hid hbr
    have HB0 := Lib.hid hb0
    have HB1 := Lib.hid hb1
    by_cases hlt : i < n
    · have hdi : decide ((i : Int) < (n : Int)) = true := decide_eq_true (by omega)
      have q0 := (hbr.cell (p := ⟨g, i * 2, none⟩) hg).trans (HC.out i hlt).1
      have q1 := (hbr.cell (p := ⟨g, i * 2 + 1, none⟩) hg).trans (HC.out i hlt).2
      have m0 := blk_cell hb1 0 (.int .i64 (best E i).node) rfl
      have m1 := blk_cell hb1 1 (.int .i64 (best E i).w) rfl
      have hs1 := hbr.size
      have hl1 := blk_lt hb1
      clear hbr hb0 hb1
      go_upto_region 7 with fail
      go_cut [27] (fun s27 wx => s27 = .bool (decide (cmpW (E i) (best E i) < 0)) ∧ Below wr.heap.size wr wx)
      case first =>
        go_region_held3 (fun w' => w'.cell? ⟨g, i * 2, none⟩ = some (.int .i64 (E i).node) ∧ w'.cell? ⟨g, i * 2 + 1, none⟩ = some (.int .i64 (E i).w) ∧ w'.cell? ⟨w.heap.size + 1, 0, none⟩ = some (.int .i64 (best E i).node) ∧ w'.cell? ⟨w.heap.size + 1, 1, none⟩ = some (.int .i64 (best E i).w))
          (first | assumption | exact keep4 (by assumption) (two_below _ _ _) | (refine ⟨?_, ?_, ?_, ?_⟩ <;> go_simp))
          (first
            | (go_at_call 177; go_must (refine (more_any (E i) (best E i) _).mono ?_; rintro e w' ⟨rfl, rfl⟩)))
        all_goals
          go_wp2_with fail
          go_meet
          exact ⟨rfl, by repeat (first | exact Below.refl _ _ | refine below_alloc ?_ _ | refine Below.drew ?_)⟩
      case rest =>
        obtain ⟨rfl, hbx⟩ := hcut
        have hgr : g < wr.heap.size := by omega
        have q0 := (hbx.cell (p := ⟨g, i * 2, none⟩) hgr).trans q0
        have q1 := (hbx.cell (p := ⟨g, i * 2 + 1, none⟩) hgr).trans q1
        have hbc := below_then HBR.out hbx HBR.out.size
        have hb0 := blk_below hbx HB0.out (by omega)
        have hb1 := blk_below hbx HB1.out hl1
        have m0 := blk_cell hb1 0 (.int .i64 (best E i).node) rfl
        have m1 := blk_cell hb1 1 (.int .i64 (best E i).w) rfl
        have f0 := blk_free hb1 0
        have f1 := blk_free hb1 1
        have hl2 := blk_lt hb1
        have HBC := Lib.hid hbc
        have HB0' := Lib.hid hb0
        have HB1' := Lib.hid hb1
        have hgc : g < wc.heap.size := by omega
        have hne : ¬ g = w.heap.size + 1 := by omega
        clear hbx hbc hb0 hb1
        by_cases hc : cmpW (E i) (best E i) < 0
        · have hdc : decide (cmpW (E i) (best E i) < 0) = true := decide_eq_true hc
          have hbest : best E (i + 1) = E i := by rw [best, if_pos hc]
          have HBEST := Lib.hid hbest
          rw [hdc]
          clear hbest
          go_wp2_with fail
          go_roundw
          case rel => exact ⟨i + 1, by omega, by omega, by go_num, Below.setCell (Below.setCell HBC.out (by exact Nat.le_succ _) _) (by exact Nat.le_succ _) _, (heap_setCell_other _ _ _ _ (by simp)).trans ((heap_setCell_other _ _ _ _ (by simp)).trans HB0'.out), by rw [HBEST.out]; exact heap_setCell_same _ _ _ _ _ _ (heap_setCell_same _ _ _ _ _ _ HB1'.out)⟩
          case measure => simp [intOf]; omega
        · have hdc : decide (cmpW (E i) (best E i) < 0) = false := decide_eq_false hc
          have hbest : best E (i + 1) = best E i := by rw [best, if_neg hc]
          have HBEST := Lib.hid hbest
          rw [hdc]
          clear hbest
          go_wp2_with fail
          go_roundw
          case rel => exact ⟨i + 1, by omega, by omega, by go_num, HBC.out, HB0'.out, by rw [HBEST.out]; exact HB1'.out⟩
          case measure => simp [intOf]; omega
    · obtain rfl : i = n := by omega
      have m0 := blk_cell hb1 0 (.int .i64 (best E i).node) rfl
      have m1 := blk_cell hb1 1 (.int .i64 (best E i).w) rfl
      have z0 := blk_cell hb0 0 (.int .i64 0) rfl
      have z1 := blk_cell hb0 1 (.int .i64 0) rfl
      have f0 := blk_free hb0 0
      have f1 := blk_free hb0 1
      have hl1 := blk_lt hb1
      have hl0 := blk_lt hb0
      have HBB := Lib.hid hb0
      clear hbr hb0 hb1
      go_wp2_with fail
      have hB : ((wr.setCell ⟨w.heap.size, 0, none⟩ (.int .i64 (best E i).node)).setCell ⟨w.heap.size, 1, none⟩ (.int .i64 (best E i).w)).heap[w.heap.size]? = some (.cells #[.int .i64 (best E i).node, .int .i64 (best E i).w] 54 (0, 0)) := heap_setCell_same _ _ _ _ _ _ (heap_setCell_same _ _ _ _ _ _ HBB.out)
      have hbb : Below w.heap.size w ((wr.setCell ⟨w.heap.size, 0, none⟩ (.int .i64 (best E i).node)).setCell ⟨w.heap.size, 1, none⟩ (.int .i64 (best E i).w)) := Below.setCell (Below.setCell HBR.out (by exact Nat.le_refl _) _) (by exact Nat.le_refl _) _
      generalize (wr.setCell ⟨w.heap.size, 0, none⟩ (.int .i64 (best E i).node)).setCell ⟨w.heap.size, 1, none⟩ (.int .i64 (best E i).w) = we at hB hbb ⊢
      have r0 := blk_cell hB 0 (.int .i64 (best E i).node) rfl
      have r1 := blk_cell hB 1 (.int .i64 (best E i).w) rfl
      refine bodyPost_ret (v := .agg #[.int .i64 (best E i).node, .int .i64 (best E i).w]) (by simp [results, Tryz.results176, go_sem, r0, r1]) rfl ⟨rfl, hbb⟩
end Go.Proofs.YtcoddcdiimpndaaGreatDoor
