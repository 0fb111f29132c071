/-
  The walk of mesh's Locate: the nodes around a place with their weights.
-/
import Derived.Test.YtcoddcdiimpndaaGreatDoorM09
import Derived.Deep.RegionHeld3
import Derived.Deep.RegionLaw
import Derived.Deep.DrawnRows
import Derived.Deep.DeepCutAuto
import Derived.Deep.CutBlock
import Derived.Deep.DeepMust
import Derived.Test.YtcoddcdiimpndaaGreatDoorM03
set_option linter.unusedVariables false
set_option linter.unusedSimpArgs false
namespace Go.Proofs.YtcoddcdiimpndaaGreatDoor
open Go.RowKit
attribute [local go_sem ↓] Go.wp_at_zero Go.wp_at_succ
theorem info3P : (Tryz.prog.info? 131).map (·.size) = some 12 := by kernel_rfl
theorem info3I : (Tryz.prog.info? 97).map (·.size) = some 3 := by kernel_rfl
theorem idx_at (f : Int) (qx qy qz : Nat → Int) (k : Nat) (hk : k < 3) (Wd : World) : (Instr.index 131 (.agg #[.int .i64 f, .int .i64 (qx 0), .int .i64 (qy 0), .int .i64 (qz 0), .int .i64 f, .int .i64 (qx 1), .int .i64 (qy 1), .int .i64 (qz 1), .int .i64 f, .int .i64 (qx 2), .int .i64 (qy 2), .int .i64 (qz 2)]) (.int .i64 (k : Int))).run Tryz.prog Wd = .ok (.agg #[.int .i64 f, .int .i64 (qx k), .int .i64 (qy k), .int .i64 (qz k)]) Wd := by
  have hj : k = 0 ∨ k = 1 ∨ k = 2 := by omega
  rcases hj with rfl | rfl | rfl
  · simp [Instr.index, Tryz.isAgg32, Tryz.sizeOf32, asIntOf, go_sem]
  · simp [Instr.index, Tryz.isAgg32, Tryz.sizeOf32, asIntOf, go_sem]
  · simp [Instr.index, Tryz.isAgg32, Tryz.sizeOf32, asIntOf, go_sem]
theorem keepB {w w' : World} (hb : Below w.heap.size w w') {B : Nat} {c : Array Value} {t : TypeId} (h : w.heap[B]? = some (.cells c t (0, 0))) (j : Nat) (v : Value) (hv : c[j]? = some v) : w'.cell? ⟨B, j, none⟩ = some v := blk_cell (blk_below hb h (blk_lt h)) j v hv
theorem cell_lt {w : World} {p : Addr} {v : Value} (h : w.cell? p = some v) : p.block < w.heap.size := by
  rcases Nat.lt_or_ge p.block w.heap.size with h1 | h1
  · exact h1
  · simp [World.cell?, Array.getElem?_eq_none h1] at h
theorem keep5 {w w' : World} {a0 a1 a2 a3 a4 : Addr} {v0 v1 v2 v3 v4 : Value} (h : w.cell? a0 = some v0 ∧ w.cell? a1 = some v1 ∧ w.cell? a2 = some v2 ∧ w.cell? a3 = some v3 ∧ w.cell? a4 = some v4) (hb : Below w.heap.size w w') :
    w'.cell? a0 = some v0 ∧ w'.cell? a1 = some v1 ∧ w'.cell? a2 = some v2 ∧ w'.cell? a3 = some v3 ∧ w'.cell? a4 = some v4 :=
  ⟨(hb.cell (cell_lt h.1)).trans h.1, (hb.cell (cell_lt h.2.1)).trans h.2.1, (hb.cell (cell_lt h.2.2.1)).trans h.2.2.1, (hb.cell (cell_lt h.2.2.2.1)).trans h.2.2.2.1, (hb.cell (cell_lt h.2.2.2.2)).trans h.2.2.2.2⟩
theorem alloc_below (w : World) (o : Obj) : Below w.heap.size w (w.alloc o) := (Below.refl _ _).alloc (Nat.le_refl _) _
theorem keepG {w w' : World} {row : Option Nat} {a0 a1 a2 a3 a4 : Addr} {v0 v1 v2 v3 v4 : Value} (h : w.cell? a0 = some v0 ∧ w.cell? a1 = some v1 ∧ w.cell? a2 = some v2 ∧ w.cell? a3 = some v3 ∧ w.cell? a4 = some v4) (hg : w.grownBy w' row) (h0 : some a0.block ≠ row) (h1 : some a1.block ≠ row) (h2 : some a2.block ≠ row) (h3 : some a3.block ≠ row) (h4 : some a4.block ≠ row) :
    w'.cell? a0 = some v0 ∧ w'.cell? a1 = some v1 ∧ w'.cell? a2 = some v2 ∧ w'.cell? a3 = some v3 ∧ w'.cell? a4 = some v4 :=
  ⟨hg.cell h.1 h0, hg.cell h.2.1 h1, hg.cell h.2.2.1 h2, hg.cell h.2.2.2.1 h3, hg.cell h.2.2.2.2 h4⟩
theorem mod_cases (a b c : Int) (h n : Nat) (hh : n * h = 840) (hn : 1 ≤ n) (hs : a + b + c = 840) (h0 : 0 ≤ a) (h1 : 0 ≤ b) (h2 : 0 ≤ c) :
    a % (h : Int) + b % (h : Int) + c % (h : Int) = 0 ∨ a % (h : Int) + b % (h : Int) + c % (h : Int) = h ∨ a % (h : Int) + b % (h : Int) + c % (h : Int) = 2 * h := by
  have hp : 0 < h := Nat.pos_of_ne_zero (fun e => by rw [e, Nat.mul_zero] at hh; exact absurd hh (by decide))
  have e0 := Int.emod_nonneg a (show (h : Int) ≠ 0 by omega)
  have e1 := Int.emod_nonneg b (show (h : Int) ≠ 0 by omega)
  have e2 := Int.emod_nonneg c (show (h : Int) ≠ 0 by omega)
  have f0 := Int.emod_lt_of_pos a (show (0 : Int) < h by omega)
  have f1 := Int.emod_lt_of_pos b (show (0 : Int) < h by omega)
  have f2 := Int.emod_lt_of_pos c (show (0 : Int) < h by omega)
  have g0 := Int.mul_ediv_add_emod a h
  have g1 := Int.mul_ediv_add_emod b h
  have g2 := Int.mul_ediv_add_emod c h
  have hz : (840 : Int) = (h : Int) * (n : Int) := by rw [Int.mul_comm, ← Int.natCast_mul, hh]; rfl
  have key : a % (h : Int) + b % (h : Int) + c % (h : Int) = (h : Int) * ((n : Int) - a / h - b / h - c / h) := by
    rw [Int.mul_sub, Int.mul_sub, Int.mul_sub, ← hz]
    omega
  rcases Int.lt_or_le ((n : Int) - a / h - b / h - c / h) 1 with q | q
  · have q0 : (n : Int) - a / h - b / h - c / h = 0 := by
      rcases Int.lt_or_le ((n : Int) - a / h - b / h - c / h) 0 with r | r
      · have : (h : Int) * ((n : Int) - a / h - b / h - c / h) ≤ (h : Int) * (-1) := Int.mul_le_mul_of_nonneg_left (by omega) (by omega)
        omega
      · omega
    left
    rw [key, q0, Int.mul_zero]
  · rcases Int.lt_or_le ((n : Int) - a / h - b / h - c / h) 2 with r | r
    · right; left
      rw [key, show (n : Int) - a / h - b / h - c / h = 1 from by omega, Int.mul_one]
    · right; right
      have q2 : (n : Int) - a / h - b / h - c / h = 2 := by
        rcases Int.lt_or_le ((n : Int) - a / h - b / h - c / h) 3 with t | t
        · omega
        · have : (h : Int) * 3 ≤ (h : Int) * ((n : Int) - a / h - b / h - c / h) := Int.mul_le_mul_of_nonneg_left t (by omega)
          omega
      rw [key, q2, Int.mul_comm]
theorem mod_facts (a : Int) (h n : Nat) (hh : n * h = 840) (hn : 1 ≤ n) (h0 : 0 ≤ a) (h1 : a ≤ 840) : 0 ≤ a % (h : Int) ∧ a % (h : Int) < h ∧ 0 ≤ a % (h : Int) * (n : Int) ∧ a % (h : Int) * (n : Int) ≤ 840 ∧ a % (h : Int) ≤ a := by
  have hp : 0 < h := Nat.pos_of_ne_zero (fun e => by rw [e, Nat.mul_zero] at hh; exact absurd hh (by decide))
  have e0 := Int.emod_nonneg a (show (h : Int) ≠ 0 by omega)
  have e1 := Int.emod_lt_of_pos a (show (0 : Int) < h by omega)
  refine ⟨e0, e1, Int.mul_nonneg e0 (by omega), ?_, ?_⟩
  · have h2 : a % (h : Int) * (n : Int) ≤ (h : Int) * (n : Int) := Int.mul_le_mul_of_nonneg_right (by omega) (by omega)
    have h3 : (h : Int) * (n : Int) = 840 := by rw [Int.mul_comm, ← Int.natCast_mul, hh]; rfl
    omega
  · have := Int.mul_ediv_add_emod a h
    have h4 : 0 ≤ (h : Int) * (a / (h : Int)) := Int.mul_nonneg (by omega) (Int.ediv_nonneg h0 (by omega))
    omega
theorem blk3_new (w : World) (A B C : Obj) : (((w.alloc A).alloc B).alloc C).drew.heap[w.heap.size + 1 + 1]? = some C := by
  have := blk_new ((w.alloc A).alloc B) C
  rw [World.size_alloc, World.size_alloc] at this
  exact this
theorem blk3_old (w : World) (A B C : Obj) : (((w.alloc A).alloc B).alloc C).drew.heap[w.heap.size]? = some A := blk_old _ (blk_old _ (blk_new w A))
theorem drewN_below {B : Nat} {w W : World} (h : Below B w W) (n : Nat) : Below B w (W.drewN n) := ⟨h.os, h.tape, h.output, h.size, h.block⟩
set_option maxRecDepth 100000 in
set_option maxHeartbeats 4000000 in
theorem locate_core (f a b c : Int) (hv : validB f a b c = true) (w : World) (hT : TabOk w) (h n g gm : Nat) (hn1 : 1 ≤ n) (hn8 : n ≤ 8) (hh : n * h = 840) (l : List Pl) (hN : NetR w h n g gm l) (hl : Fine l) :
    Calls Tryz.prog 60 #[.pointer (some ⟨g, 0, none⟩), .agg #[.int .i64 f, .int .i64 a, .int .i64 b, .int .i64 c]] w fun e w' => ∃ v, e = .returned v ∧ w'.ownsRow w.heap.size 54 2 v (locS l h n f a b c).length (cellsS (locS l h n f a b c)) ∧ Below w.heap.size w w' := by
  have hvv := (validB_iff ..).1 hv
  obtain ⟨hf0, hf1, ha0, ha1, hb0, hb1, hc0, hc1, hs⟩ := hvv
  obtain ⟨a1, a2, a3, a4, a5⟩ := mod_facts a h n hh hn1 ha0 ha1
  obtain ⟨b1, b2, b3, b4, b5⟩ := mod_facts b h n hh hn1 hb0 hb1
  obtain ⟨c1, c2, c3, c4, c5⟩ := mod_facts c h n hh hn1 hc0 hc1
  have hh1 : h ≤ 840 := by rw [← hh]; exact Nat.le_mul_of_pos_left _ (by omega)
  have hhp : 0 < h := by omega
  have HT := Lib.hid hT
  have HN := Lib.hid hN
  have HV := Lib.hid hv
  have HH := Lib.hid hh
  have HS := Lib.hid hs
  have n0 := hN.c0
  have n1 := hN.c1
  have hlt := hN.lt
  clear hT hN hv hh hs
  go_enter Tryz.func60, Tryz.ntmps60
  go_wp2
  go_quiet (fail)
  go_wp2
  have hb1 : Below w.heap.size w ((w.alloc (.cells #[.int .i64 f, .int .i64 a, .int .i64 b, .int .i64 c] 32)).drewN nq) := drewN_below ((Below.refl _ _).alloc (Nat.le_refl _) _) _
  have B1 : ((w.alloc (.cells #[.int .i64 f, .int .i64 a, .int .i64 b, .int .i64 c] 32)).drewN nq).heap[w.heap.size]? = some (.cells #[.int .i64 f, .int .i64 a, .int .i64 b, .int .i64 c] 32 (0, 0)) := blk_new w _
  generalize (w.alloc (.cells #[.int .i64 f, .int .i64 a, .int .i64 b, .int .i64 c] 32)).drewN nq = w1 at hb1 B1 ⊢
  have p0 := blk_cell B1 0 (.int .i64 f) rfl
  have p1 := blk_cell B1 1 (.int .i64 a) rfl
  have p2 := blk_cell B1 2 (.int .i64 b) rfl
  have p3 := blk_cell B1 3 (.int .i64 c) rfl
  have hl1 := blk_lt B1
  have hN1 := HN.out.below hb1
  have q0 := hN1.c0
  have q1 := hN1.c1
  have hg1 := hN1.lt
  have HN1 := Lib.hid hN1
  have HB1 := Lib.hid hb1
  have HBL := Lib.hid B1
  clear hb1 B1 n0 n1 hlt hN1
  go_upto_region 2 with fail
  go_cut [8] (fun s8 wx => ∃ g8 : Nat, s8 = .pointer (some ⟨g8, 0, none⟩) ∧ Below w1.heap.size w1 wx ∧ wx.heap[g8]? = some (.cells #[.int .i64 f, .int .i64 (a + -(a % (h : Int))), .int .i64 (b + -(b % (h : Int))), .int .i64 (c + -(c % (h : Int)))] 32 (0, 0)))
  case first =>
    have hg2 : g < w1.heap.size + 1 := by omega
    have hg3 : g < w1.heap.size + 1 + 1 := by omega
    have hl2 : w.heap.size < w1.heap.size + 1 := by omega
    have hl3 : w.heap.size < w1.heap.size + 1 + 1 := by omega
    have d0 : ((h : Int) == 0) = false := beq_eq_false_iff_ne.2 (by omega)
    have r1 : a.tmod (h : Int) = a % (h : Int) := Int.tmod_eq_emod_of_nonneg ha0
    have r2 : b.tmod (h : Int) = b % (h : Int) := Int.tmod_eq_emod_of_nonneg hb0
    have r3 : c.tmod (h : Int) = c % (h : Int) := Int.tmod_eq_emod_of_nonneg hc0
    have d1 : ¬ h = 0 := by omega
    have v1 : IntKind.i64.wrap (-(a % (h : Int))) = -(a % (h : Int)) := IntWalk.i64_in _ (by omega)
    have v2 : IntKind.i64.wrap (-(b % (h : Int))) = -(b % (h : Int)) := IntWalk.i64_in _ (by omega)
    have v3 : IntKind.i64.wrap (-(c % (h : Int))) = -(c % (h : Int)) := IntWalk.i64_in _ (by omega)
    go_region_held3 (fun w' => w'.cell? ⟨w.heap.size, 0, none⟩ = some (.int .i64 f) ∧ w'.cell? ⟨w.heap.size, 1, none⟩ = some (.int .i64 a) ∧ w'.cell? ⟨w.heap.size, 2, none⟩ = some (.int .i64 b) ∧ w'.cell? ⟨w.heap.size, 3, none⟩ = some (.int .i64 c) ∧ w'.cell? ⟨g, 1, none⟩ = some (.int .i64 h)) (first | (refine ⟨?_, ?_, ?_, ?_, ?_⟩ <;> go_simp))
      (first | (go_at_call 99; refine (moved_any _ _ _ _ _ _ _ (by omega) (by omega) (by omega) _).mono ?_; rintro e w' ⟨rfl, rfl⟩))
    all_goals
      go_wp2_with fail
      go_meet
      first
        | exact ⟨_, rfl, by repeat (first | exact Below.refl _ _ | refine below_alloc ?_ _ | refine Below.drew ?_), blk3_new w1 _ _ _⟩
        | exact ⟨_, rfl, by repeat (first | exact Below.refl _ _ | refine below_alloc ?_ _ | refine Below.drew ?_), blk3_old w1 _ _ _⟩
  case rest =>
    obtain ⟨g8, rfl, hbx, hB8⟩ := hcut
    have hBx := blk_below hbx HBL.out hl1
    have p0 := blk_cell hBx 0 (.int .i64 f) rfl
    have p1 := blk_cell hBx 1 (.int .i64 a) rfl
    have p2 := blk_cell hBx 2 (.int .i64 b) rfl
    have p3 := blk_cell hBx 3 (.int .i64 c) rfl
    have hlx := blk_lt hBx
    have hl8 := blk_lt hB8
    have e0 := blk_cell hB8 0 (.int .i64 f) rfl
    have e1 := blk_cell hB8 1 (.int .i64 (a + -(a % (h : Int)))) rfl
    have e2 := blk_cell hB8 2 (.int .i64 (b + -(b % (h : Int)))) rfl
    have e3 := blk_cell hB8 3 (.int .i64 (c + -(c % (h : Int)))) rfl
    have hbw := below_then HB1.out hbx HB1.out.size
    have hNx := HN1.out.below hbx
    have hgx := hNx.lt
    have HNX := Lib.hid hNx
    have HBW := Lib.hid hbw
    have HTX := Lib.hid (HT.out.below hbw)
    have HB8 := Lib.hid hB8
    have HBX := Lib.hid hBx
    clear hbx hB8 hBx hbw hNx p0 p1 p2 p3 q0 q1 hg1 hl1
    obtain ⟨X, hX⟩ : ∃ X : Int, X = a % (h : Int) * (n : Int) := ⟨_, rfl⟩
    obtain ⟨Y, hY⟩ : ∃ Y : Int, Y = b % (h : Int) * (n : Int) := ⟨_, rfl⟩
    obtain ⟨Z, hZ⟩ : ∃ Z : Int, Z = c % (h : Int) * (n : Int) := ⟨_, rfl⟩
    rw [← hX] at a3 a4 ⊢
    rw [← hY] at b3 b4 ⊢
    rw [← hZ] at c3 c4 ⊢
    obtain ⟨w2, hw2⟩ : ∃ w2 : World, w2 = wc := ⟨_, rfl⟩
    subst hw2
    have HX := Lib.hid hX
    have HY := Lib.hid hY
    have HZ := Lib.hid hZ
    clear hX hY hZ
    go_upto_block 0 with fail
    go_cut [] (fun wx => ∃ up : Bool, X + Y + Z = (if up then 840 else 1680) ∧ Below w2.heap.size w2 wx
      ∧ wx.rangeAt w2.heap.size 0 [.int .i64 f, .int .i64 (qc up h (a + -(a % (h : Int))) 0 0), .int .i64 (qc up h (b + -(b % (h : Int))) 1 0), .int .i64 (qc up h (c + -(c % (h : Int))) 2 0), .int .i64 f, .int .i64 (qc up h (a + -(a % (h : Int))) 0 1), .int .i64 (qc up h (b + -(b % (h : Int))) 1 1), .int .i64 (qc up h (c + -(c % (h : Int))) 2 1), .int .i64 f, .int .i64 (qc up h (a + -(a % (h : Int))) 0 2), .int .i64 (qc up h (b + -(b % (h : Int))) 1 2), .int .i64 (qc up h (c + -(c % (h : Int))) 2 2)]
      ∧ wx.rangeAt (w2.heap.size + 1) 0 [.int .i64 (lw up X Y Z 0), .int .i64 (lw up X Y Z 1), .int .i64 (lw up X Y Z 2)] ∧ w2.heap.size + 1 < wx.heap.size)
    case first =>
      have hX := HX.out
      have hY := HY.out
      have hZ := HZ.out
      rcases mod_cases a b c h n HH.out hn1 HS.out ha0 hb0 hc0 with hr | hr | hr
      · have hX0 : X + Y + Z = 0 := by rw [hX, hY, hZ, ← Int.add_mul, ← Int.add_mul, hr, Int.zero_mul]
        have s0 : (X + Y + Z == 0) = true := beq_iff_eq.2 hX0
        have hba : Below w2.heap.size w2 ((w2.alloc (.cells #[.int .i64 0, .int .i64 0, .int .i64 0, .int .i64 0, .int .i64 0, .int .i64 0, .int .i64 0, .int .i64 0, .int .i64 0, .int .i64 0, .int .i64 0, .int .i64 0] 131)).alloc (.cells #[.int .i64 0, .int .i64 0, .int .i64 0] 97)) := ((Below.refl _ _).alloc (Nat.le_refl _) _).alloc (by simp) _
        have hB2 := blk_below hba HBX.out (blk_lt HBX.out)
        have p0 := blk_cell hB2 0 (.int .i64 f) rfl
        have p1 := blk_cell hB2 1 (.int .i64 a) rfl
        have p2 := blk_cell hB2 2 (.int .i64 b) rfl
        have p3 := blk_cell hB2 3 (.int .i64 c) rfl
        have hHT := HTX.out.below hba
        have hHN := HNX.out.below hba
        have hbw2 := below_then HBW.out hba HBW.out.size
        have hls : locS l h n f a b c = [⟨(ix l (normPl f a b c) : Nat), 840⟩] := by simp only [locS]; rw [← hX, ← hY, ← hZ, if_pos hX0]
        generalize (w2.alloc (.cells #[.int .i64 0, .int .i64 0, .int .i64 0, .int .i64 0, .int .i64 0, .int .i64 0, .int .i64 0, .int .i64 0, .int .i64 0, .int .i64 0, .int .i64 0, .int .i64 0] 131)).alloc (.cells #[.int .i64 0, .int .i64 0, .int .i64 0] 97) = w3 at hB2 p0 p1 p2 p3 hHT hHN hbw2 ⊢
        have HHT := Lib.hid hHT
        have HHN := Lib.hid hHN
        have HBW2 := Lib.hid hbw2
        have HLS := Lib.hid hls
        have HHL := Lib.hid hl
        have hl3 := blk_lt hB2
        clear hHT hHN hbw2 hls hX0 hr hX hY hZ hba hB2 a1 a2 a5 b1 b2 b5 c1 c2 c5 hl
        go_wp2_with fail
        refine (at_any f a b c HV.out _ HHT.out h n g gm l HHN.out HHL.out).mono ?_
        rintro e w5 ⟨rfl, hb5⟩
        have hbw5 := below_then HBW2.out hb5 HBW2.out.size
        have HBW5 := Lib.hid hbw5
        clear hb5 hbw5
        go_wp2_with fail
        go_ret
        rw [HLS.out]
        exact ⟨_, rfl, World.ownsRow_lit w5 #[.int .i64 (ix l (normPl f a b c) : Nat), .int .i64 840] 1 HBW5.out.size (by decide) rfl, HBW5.out.alloc HBW5.out.size _⟩
      · have hX8 : X + Y + Z = 840 := by rw [hX, hY, hZ, ← Int.add_mul, ← Int.add_mul, hr, Int.mul_comm, ← Int.natCast_mul, HH.out]; rfl
        have s0 : (X + Y + Z == 0) = false := beq_eq_false_iff_ne.2 (by omega)
        have s8 : (X + Y + Z == 840) = true := beq_iff_eq.2 hX8
        have hsum := HS.out
        obtain ⟨A, hA⟩ : ∃ A : Int, A = a + -(a % (h : Int)) := ⟨_, rfl⟩
        obtain ⟨B, hB⟩ : ∃ B : Int, B = b + -(b % (h : Int)) := ⟨_, rfl⟩
        obtain ⟨C, hC⟩ : ∃ C : Int, C = c + -(c % (h : Int)) := ⟨_, rfl⟩
        rw [← hA] at e1
        rw [← hB] at e2
        rw [← hC] at e3
        have hAb : 0 ≤ A ∧ A ≤ 840 := by omega
        have hBb : 0 ≤ B ∧ B ≤ 840 := by omega
        have hCb : 0 ≤ C ∧ C ≤ 840 := by omega
        obtain ⟨qx, hqx⟩ : ∃ q : Nat → Int, q = qc true h A 0 := ⟨_, rfl⟩
        obtain ⟨qy, hqy⟩ : ∃ q : Nat → Int, q = qc true h B 1 := ⟨_, rfl⟩
        obtain ⟨qz, hqz⟩ : ∃ q : Nat → Int, q = qc true h C 2 := ⟨_, rfl⟩
        have hcor : ∀ W : World, g < W.heap.size → W.cell? ⟨g, 1, none⟩ = some (.int .i64 h) → Calls Tryz.prog 101 #[.pointer (some ⟨g, 0, none⟩), .agg #[.int .i64 f, .int .i64 A, .int .i64 B, .int .i64 C]] W fun e w' => e = .returned (.agg #[.int .i64 f, .int .i64 (qx 0), .int .i64 (qy 0), .int .i64 (qz 0), .int .i64 f, .int .i64 (qx 1), .int .i64 (qy 1), .int .i64 (qz 1), .int .i64 f, .int .i64 (qx 2), .int .i64 (qy 2), .int .i64 (qz 2)]) ∧ Below W.heap.size W w' := by
          intro W hg hc
          have := upward_any f A B C h hh1 hAb hBb hCb g W hg hc
          simpa [hqx, hqy, hqz, qc] using this
        have HCOR := Lib.hid hcor
        have HX8 := Lib.hid hX8
        have HQX := Lib.hid hqx
        have HQY := Lib.hid hqy
        have HQZ := Lib.hid hqz
        have HA := Lib.hid hA
        have HB := Lib.hid hB
        have HC := Lib.hid hC
        clear hX8 hX hY hZ hr hsum hA hB hC hAb hBb hCb hcor a1 a2 a5 b1 b2 b5 c1 c2 c5 hqx hqy hqz
        go_wp2_with fail
        have hN5 := HNX.out.below (((Below.refl _ _).alloc (Nat.le_refl _) (.cells #[.int .i64 0, .int .i64 0, .int .i64 0, .int .i64 0, .int .i64 0, .int .i64 0, .int .i64 0, .int .i64 0, .int .i64 0, .int .i64 0, .int .i64 0, .int .i64 0] 131)).alloc (by simp) (.cells #[.int .i64 0, .int .i64 0, .int .i64 0] 97))
        refine (HCOR.out _ hN5.lt hN5.c1).mono ?_
        rintro e w5 ⟨rfl, hb5⟩
        have hs5 := hb5.size
        simp at hs5
        have B9 : w5.heap[w2.heap.size]? = some (.cells #[.int .i64 0, .int .i64 0, .int .i64 0, .int .i64 0, .int .i64 0, .int .i64 0, .int .i64 0, .int .i64 0, .int .i64 0, .int .i64 0, .int .i64 0, .int .i64 0] 131 (0, 0)) := blk_below hb5 (blk_old _ (blk_new w2 _)) (by simp only [World.size_alloc]; omega)
        have B10 : w5.heap[w2.heap.size + 1]? = some (.cells #[.int .i64 0, .int .i64 0, .int .i64 0] 97 (0, 0)) := blk_below hb5 (by simpa only [World.size_alloc] using blk_new (w2.alloc _) _) (by simp only [World.size_alloc]; omega)
        obtain ⟨t9, t10, r9, r10⟩ := two_rows B9 B10 (by omega) [.int .i64 f, .int .i64 (qx 0), .int .i64 (qy 0), .int .i64 (qz 0), .int .i64 f, .int .i64 (qx 1), .int .i64 (qy 1), .int .i64 (qz 1), .int .i64 f, .int .i64 (qx 2), .int .i64 (qy 2), .int .i64 (qz 2)] [.int .i64 X, .int .i64 Y, .int .i64 Z] rfl rfl
        have hb6 : Below w2.heap.size w2 ((w5.setCells w2.heap.size 0 [.int .i64 f, .int .i64 (qx 0), .int .i64 (qy 0), .int .i64 (qz 0), .int .i64 f, .int .i64 (qx 1), .int .i64 (qy 1), .int .i64 (qz 1), .int .i64 f, .int .i64 (qx 2), .int .i64 (qy 2), .int .i64 (qz 2)]).setCells (w2.heap.size + 1) 0 [.int .i64 X, .int .i64 Y, .int .i64 Z]) := Below.setCells (by omega) _ _ _ (Below.setCells (Nat.le_refl _) _ _ _ (below_then (((Below.refl _ _).alloc (Nat.le_refl _) _).alloc (by simp) _) hb5 (by simp; omega)))
        have hs6 : w2.heap.size + 1 < ((w5.setCells w2.heap.size 0 [.int .i64 f, .int .i64 (qx 0), .int .i64 (qy 0), .int .i64 (qz 0), .int .i64 f, .int .i64 (qx 1), .int .i64 (qy 1), .int .i64 (qz 1), .int .i64 f, .int .i64 (qx 2), .int .i64 (qy 2), .int .i64 (qz 2)]).setCells (w2.heap.size + 1) 0 [.int .i64 X, .int .i64 Y, .int .i64 Z]).heap.size := by rw [size_setCells, size_setCells]; omega
        have T9 := Lib.hid t9
        have T10 := Lib.hid t10
        have R9 := Lib.hid r9
        have R10 := Lib.hid r10
        have HB6 := Lib.hid hb6
        have HS6 := Lib.hid hs6
        have o12 : (#[Value.int .i64 f, .int .i64 (qx 0), .int .i64 (qy 0), .int .i64 (qz 0), .int .i64 f, .int .i64 (qx 1), .int .i64 (qy 1), .int .i64 (qz 1), .int .i64 f, .int .i64 (qx 2), .int .i64 (qy 2), .int .i64 (qz 2)] : Array Value).all (·.oneCell') = true := by simp [Value.oneCell']
        have o3 : (#[Value.int .i64 X, .int .i64 Y, .int .i64 Z] : Array Value).all (·.oneCell') = true := by simp [Value.oneCell']
        have O12 := Lib.hid o12
        have O3 := Lib.hid o3
        clear hN5 hb5 B9 B10 t9 t10 r9 r10 hb6 hs6 o12 o3
        dsimp only
        iterate 13 (try go_step)
        refine wpList_store_mid (op := ⟨none, .store 131 _ _, _, _, _, none⟩) rfl 131 _ _ rfl w2.heap.size 0 _ (by exact rfl) (by exact rfl) T9.out info3P O12.out ?_
        refine wpList_store_mid (op := ⟨none, .store 97 _ _, _, _, _, none⟩) rfl 97 _ _ rfl (w2.heap.size + 1) 0 _ (by exact rfl) (by exact rfl) T10.out info3I O3.out ?_
        dsimp only [List.toList_toArray]
        generalize (w5.setCells w2.heap.size 0 [.int .i64 f, .int .i64 (qx 0), .int .i64 (qy 0), .int .i64 (qz 0), .int .i64 f, .int .i64 (qx 1), .int .i64 (qy 1), .int .i64 (qz 1), .int .i64 f, .int .i64 (qx 2), .int .i64 (qy 2), .int .i64 (qz 2)]).setCells (w2.heap.size + 1) 0 [.int .i64 X, .int .i64 Y, .int .i64 Z] = w6 at R9 R10 HB6 HS6 ⊢
        clear T9 T10
        go_wp2_with fail
        go_meet
        have hqx := HQX.out
        have hqy := HQY.out
        have hqz := HQZ.out
        have hA := HA.out
        have hB := HB.out
        have hC := HC.out
        have r9 := R9.out
        subst hqx hqy hqz hA hB hC
        exact ⟨true, HX8.out, HB6.out, r9, R10.out, HS6.out⟩
      · have hX8 : X + Y + Z = 1680 := by rw [hX, hY, hZ, ← Int.add_mul, ← Int.add_mul, hr, Int.mul_comm, Int.mul_left_comm, ← Int.natCast_mul, HH.out]; rfl
        have s0 : (X + Y + Z == 0) = false := beq_eq_false_iff_ne.2 (by omega)
        have s8 : (X + Y + Z == 840) = false := beq_eq_false_iff_ne.2 (by omega)
        have hsum := HS.out
        obtain ⟨A, hA⟩ : ∃ A : Int, A = a + -(a % (h : Int)) := ⟨_, rfl⟩
        obtain ⟨B, hB⟩ : ∃ B : Int, B = b + -(b % (h : Int)) := ⟨_, rfl⟩
        obtain ⟨C, hC⟩ : ∃ C : Int, C = c + -(c % (h : Int)) := ⟨_, rfl⟩
        rw [← hA] at e1
        rw [← hB] at e2
        rw [← hC] at e3
        have hAb : 0 ≤ A ∧ A ≤ 840 := by omega
        have hBb : 0 ≤ B ∧ B ≤ 840 := by omega
        have hCb : 0 ≤ C ∧ C ≤ 840 := by omega
        obtain ⟨qx, hqx⟩ : ∃ q : Nat → Int, q = qc false h A 0 := ⟨_, rfl⟩
        obtain ⟨qy, hqy⟩ : ∃ q : Nat → Int, q = qc false h B 1 := ⟨_, rfl⟩
        obtain ⟨qz, hqz⟩ : ∃ q : Nat → Int, q = qc false h C 2 := ⟨_, rfl⟩
        have hcor : ∀ W : World, g < W.heap.size → W.cell? ⟨g, 1, none⟩ = some (.int .i64 h) → Calls Tryz.prog 102 #[.pointer (some ⟨g, 0, none⟩), .agg #[.int .i64 f, .int .i64 A, .int .i64 B, .int .i64 C]] W fun e w' => e = .returned (.agg #[.int .i64 f, .int .i64 (qx 0), .int .i64 (qy 0), .int .i64 (qz 0), .int .i64 f, .int .i64 (qx 1), .int .i64 (qy 1), .int .i64 (qz 1), .int .i64 f, .int .i64 (qx 2), .int .i64 (qy 2), .int .i64 (qz 2)]) ∧ Below W.heap.size W w' := by
          intro W hg hc
          have := downward_any f A B C h hh1 hAb hBb hCb g W hg hc
          simpa [hqx, hqy, hqz, qc] using this
        have HCOR := Lib.hid hcor
        have HX8 := Lib.hid hX8
        have HQX := Lib.hid hqx
        have HQY := Lib.hid hqy
        have HQZ := Lib.hid hqz
        have HA := Lib.hid hA
        have HB := Lib.hid hB
        have HC := Lib.hid hC
        clear hX8 hX hY hZ hr hsum hA hB hC hAb hBb hCb hcor a1 a2 a5 b1 b2 b5 c1 c2 c5 hqx hqy hqz
        go_wp2_with fail
        have hN5 := HNX.out.below (((Below.refl _ _).alloc (Nat.le_refl _) (.cells #[.int .i64 0, .int .i64 0, .int .i64 0, .int .i64 0, .int .i64 0, .int .i64 0, .int .i64 0, .int .i64 0, .int .i64 0, .int .i64 0, .int .i64 0, .int .i64 0] 131)).alloc (by simp) (.cells #[.int .i64 0, .int .i64 0, .int .i64 0] 97))
        refine (HCOR.out _ hN5.lt hN5.c1).mono ?_
        rintro e w5 ⟨rfl, hb5⟩
        have hs5 := hb5.size
        simp at hs5
        have B9 : w5.heap[w2.heap.size]? = some (.cells #[.int .i64 0, .int .i64 0, .int .i64 0, .int .i64 0, .int .i64 0, .int .i64 0, .int .i64 0, .int .i64 0, .int .i64 0, .int .i64 0, .int .i64 0, .int .i64 0] 131 (0, 0)) := blk_below hb5 (blk_old _ (blk_new w2 _)) (by simp only [World.size_alloc]; omega)
        have B10 : w5.heap[w2.heap.size + 1]? = some (.cells #[.int .i64 0, .int .i64 0, .int .i64 0] 97 (0, 0)) := blk_below hb5 (by simpa only [World.size_alloc] using blk_new (w2.alloc _) _) (by simp only [World.size_alloc]; omega)
        obtain ⟨t9, t10, r9, r10⟩ := two_rows B9 B10 (by omega) [.int .i64 f, .int .i64 (qx 0), .int .i64 (qy 0), .int .i64 (qz 0), .int .i64 f, .int .i64 (qx 1), .int .i64 (qy 1), .int .i64 (qz 1), .int .i64 f, .int .i64 (qx 2), .int .i64 (qy 2), .int .i64 (qz 2)] [.int .i64 (840 - X), .int .i64 (840 - Y), .int .i64 (840 - Z)] rfl rfl
        have hb6 : Below w2.heap.size w2 ((w5.setCells w2.heap.size 0 [.int .i64 f, .int .i64 (qx 0), .int .i64 (qy 0), .int .i64 (qz 0), .int .i64 f, .int .i64 (qx 1), .int .i64 (qy 1), .int .i64 (qz 1), .int .i64 f, .int .i64 (qx 2), .int .i64 (qy 2), .int .i64 (qz 2)]).setCells (w2.heap.size + 1) 0 [.int .i64 (840 - X), .int .i64 (840 - Y), .int .i64 (840 - Z)]) := Below.setCells (by omega) _ _ _ (Below.setCells (Nat.le_refl _) _ _ _ (below_then (((Below.refl _ _).alloc (Nat.le_refl _) _).alloc (by simp) _) hb5 (by simp; omega)))
        have hs6 : w2.heap.size + 1 < ((w5.setCells w2.heap.size 0 [.int .i64 f, .int .i64 (qx 0), .int .i64 (qy 0), .int .i64 (qz 0), .int .i64 f, .int .i64 (qx 1), .int .i64 (qy 1), .int .i64 (qz 1), .int .i64 f, .int .i64 (qx 2), .int .i64 (qy 2), .int .i64 (qz 2)]).setCells (w2.heap.size + 1) 0 [.int .i64 (840 - X), .int .i64 (840 - Y), .int .i64 (840 - Z)]).heap.size := by rw [size_setCells, size_setCells]; omega
        have T9 := Lib.hid t9
        have T10 := Lib.hid t10
        have R9 := Lib.hid r9
        have R10 := Lib.hid r10
        have HB6 := Lib.hid hb6
        have HS6 := Lib.hid hs6
        have o12 : (#[Value.int .i64 f, .int .i64 (qx 0), .int .i64 (qy 0), .int .i64 (qz 0), .int .i64 f, .int .i64 (qx 1), .int .i64 (qy 1), .int .i64 (qz 1), .int .i64 f, .int .i64 (qx 2), .int .i64 (qy 2), .int .i64 (qz 2)] : Array Value).all (·.oneCell') = true := by simp [Value.oneCell']
        have o3 : (#[Value.int .i64 (840 - X), .int .i64 (840 - Y), .int .i64 (840 - Z)] : Array Value).all (·.oneCell') = true := by simp [Value.oneCell']
        have O12 := Lib.hid o12
        have O3 := Lib.hid o3
        clear hN5 hb5 B9 B10 t9 t10 r9 r10 hb6 hs6 o12 o3
        dsimp only
        iterate 22 (try go_step)
        refine wpList_store_mid (op := ⟨none, .store 131 _ _, _, _, _, none⟩) rfl 131 _ _ rfl w2.heap.size 0 _ (by exact rfl) (by exact rfl) T9.out info3P O12.out ?_
        refine wpList_store_mid (op := ⟨none, .store 97 _ _, _, _, _, none⟩) rfl 97 _ _ rfl (w2.heap.size + 1) 0 _ (by exact rfl) (by exact rfl) T10.out info3I O3.out ?_
        dsimp only [List.toList_toArray]
        generalize (w5.setCells w2.heap.size 0 [.int .i64 f, .int .i64 (qx 0), .int .i64 (qy 0), .int .i64 (qz 0), .int .i64 f, .int .i64 (qx 1), .int .i64 (qy 1), .int .i64 (qz 1), .int .i64 f, .int .i64 (qx 2), .int .i64 (qy 2), .int .i64 (qz 2)]).setCells (w2.heap.size + 1) 0 [.int .i64 (840 - X), .int .i64 (840 - Y), .int .i64 (840 - Z)] = w6 at R9 R10 HB6 HS6 ⊢
        clear T9 T10
        go_wp2_with fail
        go_meet
        have hqx := HQX.out
        have hqy := HQY.out
        have hqz := HQZ.out
        have hA := HA.out
        have hB := HB.out
        have hC := HC.out
        have r9 := R9.out
        subst hqx hqy hqz hA hB hC
        exact ⟨false, HX8.out, HB6.out, r9, R10.out, HS6.out⟩
    case rest =>
      obtain ⟨up, hsum, hbx, hr9, hr10, hlt⟩ := hcut
      obtain ⟨qx, hqx⟩ : ∃ q : Nat → Int, q = qc up h (a + -(a % (h : Int))) 0 := ⟨_, rfl⟩
      obtain ⟨qy, hqy⟩ : ∃ q : Nat → Int, q = qc up h (b + -(b % (h : Int))) 1 := ⟨_, rfl⟩
      obtain ⟨qz, hqz⟩ : ∃ q : Nat → Int, q = qc up h (c + -(c % (h : Int))) 2 := ⟨_, rfl⟩
      obtain ⟨W, hW⟩ : ∃ q : Nat → Int, q = lw up X Y Z := ⟨_, rfl⟩
      rw [← hqx, ← hqy, ← hqz] at hr9
      rw [← hW] at hr10
      have hX := HX.out
      have hY := HY.out
      have hZ := HZ.out
      have kv : ∀ j, j < 3 → validB f (qx j) (qy j) (qz j) = true := by
        intro j hj
        have hmc := mod_cases a b c h n HH.out hn1 HS.out ha0 hb0 hc0
        rw [validB_iff, hqx, hqy, hqz]
        have hss := HS.out
        have hj3 : j = 0 ∨ j = 1 ∨ j = 2 := by omega
        have hsum2 : (a % (h : Int) + b % (h : Int) + c % (h : Int)) * (n : Int) = (if up then 840 else 1680) := by rw [Int.add_mul, Int.add_mul, ← hX, ← hY, ← hZ, hsum]
        have hh2 : (h : Int) * (n : Int) = 840 := by rw [Int.mul_comm, ← Int.natCast_mul, HH.out]; rfl
        have hn0 : (n : Int) ≠ 0 := by omega
        cases up
        · have hr : a % (h : Int) + b % (h : Int) + c % (h : Int) = 2 * h := Int.eq_of_mul_eq_mul_right hn0 (by rw [hsum2, Int.mul_assoc, hh2]; rfl)
          rcases hj3 with rfl | rfl | rfl <;> simp [qc] <;> omega
        · have hr : a % (h : Int) + b % (h : Int) + c % (h : Int) = h := Int.eq_of_mul_eq_mul_right hn0 (by rw [hsum2, hh2]; rfl)
          rcases hj3 with rfl | rfl | rfl <;> simp [qc] <;> omega
      have wb : ∀ j, -840 ≤ W j ∧ W j ≤ 840 := by
        intro j
        rw [hW]
        unfold lw
        dsimp only
        split <;> split <;> (try split) <;> omega
      have w3p : 0 < W 0 ∨ 0 < W 1 ∨ 0 < W 2 := by
        rw [hW]
        cases up <;> simp [lw] at hsum ⊢ <;> omega
      have hN3 := HNX.out.below hbx
      have hT3 := HTX.out.below hbx
      have hbw3 := below_then HBW.out hbx HBW.out.size
      have HSUM := Lib.hid hsum
      have HQX := Lib.hid hqx
      have HQY := Lib.hid hqy
      have HQZ := Lib.hid hqz
      have HW := Lib.hid hW
      have KV := Lib.hid kv
      have WB := Lib.hid wb
      have W3 := Lib.hid w3p
      have HN3 := Lib.hid hN3
      have HT3 := Lib.hid hT3
      have HBW3 := Lib.hid hbw3
      have R9 := Lib.hid hr9
      have R10 := Lib.hid hr10
      have HL := Lib.hid hl
      obtain ⟨w3, hw3⟩ : ∃ w3 : World, w3 = wc := ⟨_, rfl⟩
      subst hw3
      clear hsum hqx hqy hqz hW kv wb w3p hN3 hT3 hbw3 hr9 hr10 hl hbx hX hY hZ a1 a2 a3 a4 a5 b1 b2 b3 b4 b5 c1 c2 c3 c4 c5 e0 e1 e2 e3
      go_upto_region 12 with fail
      go_step
      refine wpList_load_mid (op := ⟨some _, .load 131 _, _, _, _, none⟩) rfl 131 _ rfl w2.heap.size 0 (by exact rfl) _ _ R9.out Tryz.underlying131 (by exact rfl) info3P ?_
      dsimp only [List.toList_toArray]
      go_wp2_with fail
      clear hl8 hlx hgx
      go_loopw [11, 108] (fun s11 s108 wr => ∃ k : Nat, k ≤ 3 ∧ s108 = .int .i64 k ∧ Below w3.heap.size w3 wr ∧ wr.ownsRow w3.heap.size 54 2 s11 (rawTo l f qx qy qz W k).length (cellsS (rawTo l f qx qy qz W k))) (fun _ s108 _ => 3 - (intOf s108).toNat)
      case atStart => exact ⟨0, by omega, rfl, Below.refl _ _, World.ownsRow_nil _ _ _ _⟩
      case round =>
        obtain ⟨k, hk, rfl, hbr, hrow⟩ := hrel
        have HBR := Lib.hid hbr
        have HROW := Lib.hid hrow
        clear hrow
        by_cases hk3 : k < 3
        · have hd : decide ((k : Int) < 3) = true := decide_eq_true (by omega)
          have hidx := idx_at f qx qy qz k hk3
          have hwk : wr.cell? ⟨w2.heap.size + 1, k, none⟩ = some (.int .i64 (W k)) := by
            refine (hbr.cell (p := ⟨w2.heap.size + 1, k, none⟩) (by omega)).trans (range_cell R10.out k _ ?_)
            have hj : k = 0 ∨ k = 1 ∨ k = 2 := by omega
            rcases hj with rfl | rfl | rfl <;> rfl
          have hs1 := hbr.size
          have hl1 : w2.heap.size + 1 < wr.heap.size := by omega
          have hkm : (k : Int) < 3 := by omega
          clear hbr
          by_cases hW : 0 < W k
          · have hdw : decide (0 < W k) = true := decide_eq_true hW
            go_wp2_with fail
            have hb4 : Below wr.heap.size wr (wr.alloc (.cells #[.int .i64 f, .int .i64 (qx k), .int .i64 (qy k), .int .i64 (qz k)] 32)) := (Below.refl _ _).alloc (Nat.le_refl _) _
            have hB4 := blk_new wr (.cells #[.int .i64 f, .int .i64 (qx k), .int .i64 (qy k), .int .i64 (qz k)] 32)
            generalize wr.alloc (.cells #[.int .i64 f, .int .i64 (qx k), .int .i64 (qy k), .int .i64 (qz k)] 32) = w4 at hb4 hB4 ⊢
            have p0 := blk_cell hB4 0 (.int .i64 f) rfl
            have p1 := blk_cell hB4 1 (.int .i64 (qx k)) rfl
            have p2 := blk_cell hB4 2 (.int .i64 (qy k)) rfl
            have p3 := blk_cell hB4 3 (.int .i64 (qz k)) rfl
            have hl4 := blk_lt hB4
            have hw4 := (hb4.cell (p := ⟨w2.heap.size + 1, k, none⟩) hl1).trans hwk
            have hl5 : w2.heap.size + 1 < w4.heap.size := by omega
            have hb34 := below_then HBR.out hb4 HBR.out.size
            have hrow4 := own_below HROW.out hb4
            have HT4 := Lib.hid (HT3.out.below hb34)
            have HN4 := Lib.hid (HN3.out.below hb34)
            have HB34 := Lib.hid hb34
            have hsz4 := hb34.size
            obtain ⟨A, cp, rfl⟩ := own_slice hrow4
            have hlr := HROW.out.lt
            have hneA : some wr.heap.size ≠ Value.ownBlock (.slice A (rawTo l f qx qy qz W k).length cp) := fun hh => absurd (hlr _ hh.symm).2 (Nat.lt_irrefl _)
            have hneB : some (w2.heap.size + 1) ≠ Value.ownBlock (.slice A (rawTo l f qx qy qz W k).length cp) := fun hh => absurd (hlr _ hh.symm).1 (by omega)
            have HROW4 := Lib.hid hrow4
            have hlen := rawTo_le l f qx qy qz W k
            have hstep : rawTo l f qx qy qz W (k + 1) = rawTo l f qx qy qz W k ++ [⟨(ix l (normPl f (qx k) (qy k) (qz k)) : Nat), W k⟩] := by rw [rawTo, if_pos hW]
            have HSTEP := Lib.hid hstep
            obtain ⟨i0, hi, hz0, hz1, hz2⟩ := info_parts infoSh
            have HI := Lib.hid hi
            have HZ0 := Lib.hid hz0
            have HZ1 := Lib.hid hz1
            have HZ2 := Lib.hid hz2
            clear hi hz0 hz1 hz2 hb4 hB4 hb34 hrow4 hstep hwk hidx HBR HROW
            go_region_held3 (fun w' => w'.cell? ⟨wr.heap.size, 0, none⟩ = some (.int .i64 f) ∧ w'.cell? ⟨wr.heap.size, 1, none⟩ = some (.int .i64 (qx k)) ∧ w'.cell? ⟨wr.heap.size, 2, none⟩ = some (.int .i64 (qy k)) ∧ w'.cell? ⟨wr.heap.size, 3, none⟩ = some (.int .i64 (qz k)) ∧ w'.cell? ⟨w2.heap.size + 1, k, none⟩ = some (.int .i64 (W k))) (first | assumption | exact keep5 (by assumption) (alloc_below _ _) | (refine ⟨?_, ?_, ?_, ?_, ?_⟩ <;> go_simp))
              (first
                | (go_at_call 100; go_must (refine (at_any f (qx k) (qy k) (qz k) (KV.out k hk3) _ (by first | exact HT4.out | exact HT4.out.below (drewN_below (Below.refl _ _) _)) h n g gm l (by first | exact HN4.out | exact HN4.out.below (drewN_below (Below.refl _ _) _)) HL.out).mono ?_; rintro e w5 ⟨rfl, hb6⟩; have hb5 : Below w4.heap.size w4 w5 := ⟨hb6.os, hb6.tape, hb6.output, hb6.size, hb6.block⟩; clear hb6; have hO5 := Lib.hid (own_below HROW4.out hb5); have hB5 := Lib.hid (below_then HB34.out hb5 HB34.out.size); have hs5 := hb5.size; have k5 := keep5 ⟨p0, p1, p2, p3, hw4⟩ hb5))
                | (refine step_append_lies _ (by rfl) _ _ 49 (by rfl) w3.heap.size 54 i0 _ 2 16 Tryz.underlying49 HI.out HZ0.out HZ1.out HZ2.out rfl (by decide) _ (rawTo l f qx qy qz W k).length (cellsS (rawTo l f qx qy qz W k)) (by rfl) (by exact hO5.out.alloc _) ⟨w5.heap.size, 0, none⟩ 1 1 [.int .i64 (ix l (normPl f (qx k) (qy k) (qz k)) : Nat), .int .i64 (W k)] (by rfl) rfl (by exact World.news_of_block (heap_alloc_new w5 (.cells #[.int .i64 (ix l (normPl f (qx k) (qy k) (qz k)) : Nat), .int .i64 (W k)] 54))) (by simp [Value.oneCell']) (by omega) (by simp only [maxLen]; omega) (by omega) (by have := hB5.out.size; simp; omega) _ rfl ?_; intro g7 cap7 w7 hown7 hgrow7 hat7 hlt7; have k7 := keepG (keep5 k5 (alloc_below w5 _)) hgrow7 hneA hneA hneA hneA hneB; have HO7 := Lib.hid hown7; have HB7 := Lib.hid ((hB5.out.alloc hB5.out.size _).grown hgrow7 (by have := hB5.out.size; simp; omega) (fun j hj => (hlr j hj).1)); clear hown7 hgrow7 hat7))
            go_wp2_with fail
            go_roundw
            case rel => exact ⟨k + 1, by omega, by go_num, HB7.out, by rw [HSTEP.out, cellsS_snoc, List.length_append]; exact HO7.out⟩
            case measure => simp [intOf]; omega
          · have hdw : decide (0 < W k) = false := decide_eq_false hW
            have hstep : rawTo l f qx qy qz W (k + 1) = rawTo l f qx qy qz W k := by rw [rawTo, if_neg hW, List.append_nil]
            have HSTEP := Lib.hid hstep
            clear hstep
            go_wp2_with fail
            go_roundw
            case rel => exact ⟨k + 1, by omega, by go_num, below_alloc HBR.out _, by rw [HSTEP.out]; exact HROW.out.alloc _⟩
            case measure => simp [intOf]; omega
        · obtain rfl : k = 3 := by omega
          have hne : (rawTo l f qx qy qz W 3).length ≠ 0 := by
            simp only [rawTo, List.length_append]
            rcases W3.out with h0 | h0 | h0 <;> rw [if_pos h0] <;> simp
          have hlen := rawTo_le l f qx qy qz W 3
          obtain ⟨g8', cp, rfl⟩ : ∃ g8' cp, u11 = .slice (some ⟨g8', 0, none⟩) (rawTo l f qx qy qz W 3).length cp := by
            rcases HROW.out.2 with ⟨_, h0⟩ | ⟨g', cap, cur, h0, _⟩
            · exact absurd h0 hne
            · exact ⟨g', cap, h0⟩
          have hls : locS l h n f a b c = sortS (rawTo l f qx qy qz W 3) := by
            have hX := HX.out
            have hY := HY.out
            have hZ := HZ.out
            have hsum := HSUM.out
            simp only [locS]
            rw [← hX, ← hY, ← hZ, hsum, HQX.out, HQY.out, HQZ.out, HW.out]
            cases up <;> rfl
          have HLS := Lib.hid hls
          have hrow9 := HROW.out
          have HSRT := Lib.hid (sort_any _ _ _ _ wr (by omega) hrow9)
          have HBR0 := Lib.hid (below_then HBW3.out HBR.out HBW3.out.size)
          clear hls hrow9
          go_wp2_with fail
          refine HSRT.out.mono ?_
          rintro e w9 ⟨rfl, hown9, hb9⟩
          have HO9 := Lib.hid hown9
          have HB9 := Lib.hid hb9
          clear hown9 hb9
          go_wp2_with fail
          go_ret
          rw [HLS.out, sortS_length]
          refine ⟨_, rfl, own_mono HO9.out HBW3.out.size, ?_⟩
          exact ⟨HB9.out.os.trans HBR0.out.os, HB9.out.tape.trans HBR0.out.tape, HB9.out.output.trans HBR0.out.output, Nat.le_trans HBR0.out.size HB9.out.size, fun i hi => (HB9.out.block i (Nat.lt_of_lt_of_le hi HBW3.out.size)).trans (HBR0.out.block i hi)⟩
end Go.Proofs.YtcoddcdiimpndaaGreatDoor
