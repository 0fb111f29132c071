/-
  The walk of mesh's cells.
-/
import Derived.Test.YtcoddcdiimpndaaGreatDoorM12
import Derived.Test.YtcoddcdiimpndaaGreatDoorM14
set_option linter.unusedVariables false
set_option linter.unusedSimpArgs false
namespace Go.Proofs.YtcoddcdiimpndaaGreatDoor
open Go.RowKit
def pick3 (x y z : Int) : Nat → Int
  | 0 => x
  | 1 => y
  | _ => z
/-- The index of the node at a place. -/
def atN (l : List Pl) (f x y z : Int) : Int := ((ix l (normPl f x y z) : Nat) : Int)
/-- The cell that points upward at a place; the one that points downward below it. -/
def upT (l : List Pl) (h : Nat) (f a b c : Int) : Tri := triOf (atN l f (a + h) b c) (atN l f a (b + h) c) (atN l f a b (c + h))
def downT (l : List Pl) (h : Nat) (f a b c : Int) : Tri := triOf (atN l f a (b + h) (c + -h + h)) (atN l f (a + h) b (c + -h + h)) (atN l f (a + h) (b + h) (c + -h))
def cellsOfP (l : List Pl) (h : Nat) (f a b c : Int) : List Tri := [upT l h f a b c] ++ if (h : Int) ≤ c then [downT l h f a b c] else []
set_option maxRecDepth 100000 in
set_option maxHeartbeats 4000000 in
theorem cells_any (B : Nat) (w : World) (h n g gm : Nat) (hhp : 1 ≤ h) (hh : h ≤ 840) (l : List Pl) (V C : Value) (L : List Tri) (f a b c : Int) (hBp : 0 < B) (hf : 0 ≤ f ∧ f < 20) (ha : 0 ≤ a) (hb : 0 ≤ b) (hc : 0 ≤ c) (hs : a + b + c + h = 840) (hN : NetC B w h n g gm l V C L) (hT : TabOk w) (hl : Fine l) (hL : L.length ≤ 90000) :
    Calls Tryz.prog 89 #[.pointer (some ⟨g, 0, none⟩), .agg #[.int .i64 f, .int .i64 a, .int .i64 b, .int .i64 c]] w fun e w' =>
      e = .returned (.tuple #[]) ∧ ∃ C', NetC B w' h n g gm l V C' (L ++ cellsOfP l h f a b c) ∧ Below B w w' := by
  obtain ⟨hf0, hf1⟩ := hf
  have HN := Lib.hid hN
  have HT := Lib.hid hT
  have hBw : B ≤ w.heap.size := Nat.le_trans hN.bg (Nat.le_of_lt (blk_lt hN.blk))
  have hg0 := blk_lt hN.blk
  have HL := Lib.hid hl
  have v : ∀ x y z : Int, 0 ≤ x → 0 ≤ y → 0 ≤ z → x + y + z = 840 → validB f x y z = true := fun x y z h1 h2 h3 h4 => by rw [validB_iff]; omega
  have HU : Hid (∀ W : World, NetC B W h n g gm l V C L → TabOk W → Calls Tryz.prog 117 #[.pointer (some ⟨g, 0, none⟩), .agg #[.int .i64 f, .int .i64 (a + h), .int .i64 b, .int .i64 c, .int .i64 f, .int .i64 a, .int .i64 (b + h), .int .i64 c, .int .i64 f, .int .i64 a, .int .i64 b, .int .i64 (c + h)]] W fun e w' =>
      e = .returned (.tuple #[]) ∧ ∃ C', NetC B w' h n g gm l V C' (L ++ [upT l h f a b c]) ∧ Chg W w' g C) := Lib.hid (fun W h1 h2 => cell_any B W h n g gm l V C L f (pick3 (a + h) a a) (pick3 b (b + h) b) (pick3 c c (c + h)) (fun j hj => by
    rcases (show j = 0 ∨ j = 1 ∨ j = 2 by omega) with rfl | rfl | rfl
    · exact v (a + h) b c (by omega) (by omega) (by omega) (by omega)
    · exact v a (b + h) c (by omega) (by omega) (by omega) (by omega)
    · exact v a b (c + h) (by omega) (by omega) (by omega) (by omega)) h1 h2 hl (by omega))
  have HCH : (h : Int) ≤ c → Hid (∀ (C : Value) (L : List Tri) (W : World), L.length ≤ 100000 → NetC B W h n g gm l V C L → TabOk W → Calls Tryz.prog 117 #[.pointer (some ⟨g, 0, none⟩), .agg #[.int .i64 f, .int .i64 a, .int .i64 (b + h), .int .i64 (c + -h + h), .int .i64 f, .int .i64 (a + h), .int .i64 b, .int .i64 (c + -h + h), .int .i64 f, .int .i64 (a + h), .int .i64 (b + h), .int .i64 (c + -h)]] W fun e w' =>
      e = .returned (.tuple #[]) ∧ ∃ C', NetC B w' h n g gm l V C' (L ++ [downT l h f a b c]) ∧ Chg W w' g C) := fun hle => Lib.hid (fun C L W hL h1 h2 => cell_any B W h n g gm l V C L f (pick3 a (a + h) (a + h)) (pick3 (b + h) b (b + h)) (pick3 (c + -h + h) (c + -h + h) (c + -h)) (fun j hj => by
    rcases (show j = 0 ∨ j = 1 ∨ j = 2 by omega) with rfl | rfl | rfl
    · exact v a (b + h) (c + -h + h) (by omega) (by omega) (by omega) (by omega)
    · exact v (a + h) b (c + -h + h) (by omega) (by omega) (by omega) (by omega)
    · exact v (a + h) (b + h) (c + -h) (by omega) (by omega) (by omega) (by omega)) h1 h2 hl hL)
  have HP0 := Lib.hid (blk_new w (.cells #[.int .i64 f, .int .i64 a, .int .i64 b, .int .i64 c] 32))
  have HB0 := Lib.hid (alloc_below w (.cells #[.int .i64 f, .int .i64 a, .int .i64 b, .int .i64 c] 32))
  have c1 := (hN.below HB0.out).reads.c1
  clear hN hT v hl
  go_enter Tryz.func89, Tryz.ntmps89
  go_wp2_with fail
  refine (upward_any f a b c h hh ⟨ha, by omega⟩ ⟨hb, by omega⟩ ⟨hc, by omega⟩ g _ (by simp; omega) c1).mono ?_
  rintro e w1 ⟨rfl, hb1⟩
  have HB1 := Lib.hid (below_then HB0.out hb1 HB0.out.size)
  have HP1 := Lib.hid (blk_below hb1 HP0.out (blk_lt HP0.out))
  have HN1 := Lib.hid (HN.out.below HB1.out)
  have hcblk : ∀ k, C.ownBlock = some k → k < w.heap.size := fun k hk => (HN.out.tri.lt k hk).2
  have HCB := Lib.hid hcblk
  clear hb1 c1 hcblk
  go_wp2_with fail
  refine (HU.out _ HN1.out (HT.out.below HB1.out)).mono ?_
  rintro e w2 ⟨rfl, C', hN2, hch2⟩
  have HN2 := Lib.hid hN2
  have HB2 := Lib.hid ((HB1.out.mono hBw).trans (hch2.below HN.out.bg (fun k hk => (HN.out.tri.lt k hk).1) (Nat.le_trans hBw HB1.out.size)))
  have hp2 := (hch2.block w.heap.size (blk_lt HP1.out) (by omega) (fun e => by have := HCB.out _ e.symm; omega)).trans HP1.out
  have HP2 := Lib.hid hp2
  have p0 := blk_cell hp2 0 (.int .i64 f) rfl
  have p1 := blk_cell hp2 1 (.int .i64 a) rfl
  have p2 := blk_cell hp2 2 (.int .i64 b) rfl
  have p3 := blk_cell hp2 3 (.int .i64 c) rfl
  have hlp := blk_lt hp2
  have c1 := hN2.reads.c1
  have hlg := hN2.reads.lt
  have HTB := Lib.hid (fun (W : World) (hb : Below B w W) (hp : 0 < B) => (⟨Nat.lt_of_lt_of_le HT.out.pos hb.size, fun i hi => (hb.cell (p := ⟨0, i, none⟩) hp).trans (HT.out.cell i hi)⟩ : TabOk W))
  clear hN2 hch2 hp2
  by_cases hle : (h : Int) ≤ c
  · have hd : decide ((h : Int) ≤ c) = true := decide_eq_true hle
    have HD := HCH hle
    have hcl : cellsOfP l h f a b c = [upT l h f a b c] ++ [downT l h f a b c] := by unfold cellsOfP; rw [if_pos hle]
    have HCL := Lib.hid hcl
    clear hcl HCH
    have vn : IntKind.i64.wrap (-(h : Int)) = -(h : Int) := IntWalk.i64_in _ (by omega)
    go_wp2_with fail
    go_quiet (fail)
    obtain ⟨w3, hw3⟩ : ∃ w3, w3 = w2.drewN nq := ⟨_, rfl⟩
    rw [← hw3]
    have hb3 : Below w2.heap.size w2 w3 := by rw [hw3]; exact below_drewN (Below.refl _ _) _
    have hs3 : w3.heap.size = w2.heap.size := by rw [hw3]; rfl
    have HN3 := Lib.hid (HN2.out.below hb3)
    have HB3 := Lib.hid (HB2.out.trans (hb3.mono (Nat.le_trans hBw (by have := hlp; omega))))
    have HP3 := Lib.hid (blk_below hb3 HP2.out hlp)
    clear hw3 hb3 p0 p1 p2 p3 c1
    have p0 := blk_cell HP3.out 0 (.int .i64 f) rfl
    have p1 := blk_cell HP3.out 1 (.int .i64 a) rfl
    have p2 := blk_cell HP3.out 2 (.int .i64 b) rfl
    have p3 := blk_cell HP3.out 3 (.int .i64 c) rfl
    have c1 := HN3.out.reads.c1
    have hlg3 := HN3.out.reads.lt
    have hlp3 := blk_lt HP3.out
    have hs2w : B ≤ w3.heap.size := Nat.le_trans hBw (by omega)
    go_wp2_with fail
    go_region_held3 (fun w' => w'.cell? ⟨w.heap.size, 0, none⟩ = some (.int .i64 f) ∧ w'.cell? ⟨w.heap.size, 1, none⟩ = some (.int .i64 a) ∧ w'.cell? ⟨w.heap.size, 2, none⟩ = some (.int .i64 b) ∧ w'.cell? ⟨w.heap.size, 3, none⟩ = some (.int .i64 c) ∧ w'.cell? ⟨g, 1, none⟩ = some (.int .i64 h))
      (first | assumption | (refine ⟨?_, ?_, ?_, ?_, ?_⟩ <;> go_simp))
      (first
        | (go_at_call 99; go_must (refine (moved_any f a b c 0 0 (-(h : Int)) (by omega) (by omega) (by omega) _).mono ?_; rintro e w' ⟨rfl, rfl⟩; simp only [Int.add_zero]))
        | (go_at_call 102; go_must (refine (downward_any f a b (c + -(h : Int)) h hh (by omega) (by omega) (by omega) g _ (by simp; omega) (by go_simp)).mono ?_; rintro e w4 ⟨rfl, hb4⟩; have HB34 := Lib.hid (show Below w3.heap.size w3 w4 from below_then (by repeat (first | exact Below.refl _ _ | refine below_alloc ?_ _ | refine Below.drew ?_ | refine below_drewN ?_ _)) hb4 (by simp; omega)); have k4 := keep5 ⟨p0, p1, p2, p3, c1⟩ HB34.out; clear hb4))
        | (go_at_call 117; go_must (refine (HD.out C' (L ++ [upT l h f a b c]) _ (by simp; omega) (HN3.out.below (by first | exact HB34.out | exact Below.drew HB34.out)) (HTB.out _ (HB3.out.trans (Below.mono (by first | exact HB34.out | exact Below.drew HB34.out) hs2w)) hBp)).mono ?_; rintro e w5 ⟨rfl, C'', hN5, hch5⟩; have hch := Chg.of_new (w := w3) (by first | exact HB34.out | exact Below.drew HB34.out) hch5; have HN5 := Lib.hid hN5; have HB5 := Lib.hid (HB3.out.trans (hch.below HN3.out.bg (fun k hk => (HN3.out.tri.lt k hk).1) hs2w)); have h5 := (hch.block w.heap.size hlp3 (by omega) (own_ne HN3.out.tri HP3.out (plNeT · _))).trans HP3.out; have k5 : w5.cell? ⟨w.heap.size, 0, none⟩ = some (.int .i64 f) ∧ w5.cell? ⟨w.heap.size, 1, none⟩ = some (.int .i64 a) ∧ w5.cell? ⟨w.heap.size, 2, none⟩ = some (.int .i64 b) ∧ w5.cell? ⟨w.heap.size, 3, none⟩ = some (.int .i64 c) ∧ w5.cell? ⟨g, 1, none⟩ = some (.int .i64 h) := ⟨blk_cell h5 0 _ rfl, blk_cell h5 1 _ rfl, blk_cell h5 2 _ rfl, blk_cell h5 3 _ rfl, HN5.out.reads.c1⟩; clear hch hch5 hN5 h5)))
    all_goals
      go_wp2_with fail
      go_end0
      rw [HCL.out]
      exact ⟨rfl, C'', by simpa using HN5.out, HB5.out⟩
  · have hd : decide ((h : Int) ≤ c) = false := decide_eq_false hle
    have hd' : c < (h : Int) := by omega
    have hcl : cellsOfP l h f a b c = [upT l h f a b c] := by unfold cellsOfP; rw [if_neg hle]; rfl
    have HCL := Lib.hid hcl
    clear hcl HCH
    go_wp2_with fail
    go_quiet (fail)
    go_wp2_with fail
    go_end0
    rw [HCL.out]
    exact ⟨rfl, _, HN2.out.below (below_drewN (Below.refl _ _) _), below_drewN HB2.out _⟩
end Go.Proofs.YtcoddcdiimpndaaGreatDoor
