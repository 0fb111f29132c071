/-
  The compare functions of cells and edges.
-/
import Derived.Test.YtcoddcdiimpndaaGreatDoorM03
import Derived.Test.YtcoddcdiimpndaaGreatDoorM01
import Derived.Deep.RegionHeld3
import Derived.Deep.DrawnRows
import Derived.Deep.DeepCutAuto
import Derived.Deep.DeepMust
import Derived.StillTailTactics
set_option linter.unusedVariables false
set_option linter.unusedSimpArgs false
namespace Go.Proofs.YtcoddcdiimpndaaGreatDoor
open Go.RowKit Go.Sort
/-- w' is w with new blocks, some draws later. -/
def GQ (w w' : World) : Prop := ∃ q os, w' = Sort.grow (w.drewN q) os
theorem gq_refl (w : World) : GQ w w := ⟨0, #[], by simp [Sort.grow, World.drewN]⟩
theorem gq_alloc {w W : World} (h : GQ w W) (o : Obj) : GQ w (W.alloc o) := by
  obtain ⟨q, os, rfl⟩ := h
  exact ⟨q, os.push o, by rw [alloc_eq_grow, grow_grow]; rfl⟩
theorem gq_drewN {w W : World} (h : GQ w W) (n : Nat) : GQ w (W.drewN n) := by
  obtain ⟨q, os, rfl⟩ := h
  exact ⟨q + n, os, by simp [Sort.grow, World.drewN, Nat.add_assoc]⟩
theorem gq_drew {w W : World} (h : GQ w W) : GQ w W.drew := gq_drewN h 1
/-- cmp.Compare at whole numbers. -/
def cmpI (x y : Int) : Int := if x < y then -1 else if y < x then 1 else 0
theorem nan_any (x : Int) (w : World) : Calls Tryz.prog 119 #[.int .i64 x] w fun e w' => e = .returned (.bool false) ∧ w = w' := by
  go_enter Tryz.func119, Tryz.ntmps119
  go_wp2
  go_ret
  exact ⟨ret_bool (by simp), rfl⟩
set_option maxHeartbeats 1000000 in
theorem compare_any (x y : Int) (w : World) : Calls Tryz.prog 93 #[.int .i64 x, .int .i64 y] w fun e w' => e = .returned (.int .i64 (cmpI x y)) ∧ w = w' := by
  by_cases h : x < y
  · have hd : decide (x < y) = true := decide_eq_true h
    have hc : cmpI x y = -1 := by simp [cmpI, h]
    rw [hc]
    clear hc
    go_enter Tryz.func93, Tryz.ntmps93
    go_wp2_with (go_at_call 119; refine (nan_any _ _).mono ?_; rintro e w' ⟨rfl, rfl⟩)
    go_ret
    exact ⟨rfl, rfl⟩
  · have hd : decide (x < y) = false := decide_eq_false h
    by_cases h2 : y < x
    · have hd2 : decide (y < x) = true := decide_eq_true h2
      have hc : cmpI x y = 1 := by simp [cmpI, h, h2]
      rw [hc]
      clear hc
      go_enter Tryz.func93, Tryz.ntmps93
      go_wp2_with (go_at_call 119; refine (nan_any _ _).mono ?_; rintro e w' ⟨rfl, rfl⟩)
      go_ret
      exact ⟨rfl, rfl⟩
    · have hd2 : decide (y < x) = false := decide_eq_false h2
      have hc : cmpI x y = 0 := by simp [cmpI, h, h2]
      rw [hc]
      clear hc
      go_enter Tryz.func93, Tryz.ntmps93
      go_wp2_with (go_at_call 119; refine (nan_any _ _).mono ?_; rintro e w' ⟨rfl, rfl⟩)
      go_ret
      exact ⟨rfl, rfl⟩
/-- cmp.Or: the first that is not 0. -/
def orTo (E : Nat → Int) (n : Nat) : Nat → Int
  | 0 => 0
  | k + 1 => if E (n - (k + 1)) ≠ 0 then E (n - (k + 1)) else orTo E n k
set_option maxHeartbeats 1000000 in
theorem or_any (E : Nat → Int) (n g cap : Nat) (hn : n ≤ 1000) (w : World) (hc : ∀ i, i < n → w.cell? ⟨g, i, none⟩ = some (.int .i64 (E i))) : Calls Tryz.prog 92 #[.slice (some ⟨g, 0, none⟩) n cap] w fun e w' => e = .returned (.int .i64 (orTo E n n)) ∧ w = w' := by
  have HC := Lib.hid hc
  have HN := Lib.hid (show orTo E n n = orTo E n n from rfl)
  generalize hr : orTo E n n = r
  have HR := Lib.hid hr
  clear hc hr HN
  go_enter Tryz.func92, Tryz.ntmps92
  go_wp2_with fail
  go_loop [8] (fun s8 => ∃ k : Nat, k ≤ n ∧ s8 = .int .i64 k ∧ Hid (orTo E n (n - k) = r)) (fun s8 => n - (intOf s8).toNat)
  case atStart => exact ⟨0, Nat.zero_le _, rfl, HR⟩
  case round =>
    obtain ⟨k, hk, rfl, HK⟩ := hrel
    by_cases hkn : k < n
    · have hkI : (k : Int) < (n : Int) := by omega
      have c := HC.out k hkn
      have HS := Lib.hid (show orTo E n (n - k) = if E k ≠ 0 then E k else orTo E n (n - (k + 1)) by
        obtain ⟨m, hm⟩ : ∃ m, n - k = m + 1 := ⟨n - k - 1, by omega⟩
        rw [hm, orTo, show n - (m + 1) = k from by omega, show n - (k + 1) = m from by omega])
      by_cases h0 : E k = 0
      · have hd : (E k != 0) = false := by simpa using h0
        have HK2 := Lib.hid (show orTo E n (n - (k + 1)) = r by rw [← HK.out, HS.out, if_neg (by simpa using h0)])
        clear h0
        go_wp2_with fail
        go_round
        case rel => exact ⟨k + 1, by omega, by go_num, HK2⟩
        case measure => simp [intOf]; omega
      · have hd : (E k != 0) = true := by simpa using h0
        have HK2 := Lib.hid (show E k = r by rw [← HK.out, HS.out, if_pos h0])
        clear h0
        go_wp2_with fail
        go_ret
        exact ⟨ret_int HK2.out, rfl⟩
    · have hd : decide (k < n) = false := decide_eq_false hkn
      obtain rfl : n = k := by omega
      go_wp2_with fail
      go_ret
      exact ⟨ret_int (by rw [← HK.out, Nat.sub_self]; rfl), rfl⟩
/-- A cell; an edge. -/
structure Tri where
  a : Int
  b : Int
  c : Int
  deriving DecidableEq, Inhabited
structure Ed where
  a : Int
  b : Int
  deriving DecidableEq, Inhabited
def tric (t : Tri) : List Value := [.int .i64 t.a, .int .i64 t.b, .int .i64 t.c]
def edc (t : Ed) : List Value := [.int .i64 t.a, .int .i64 t.b]
def or2 (x y : Int) : Int := if x ≠ 0 then x else if y ≠ 0 then y else 0
def or3 (x y z : Int) : Int := if x ≠ 0 then x else or2 y z
def cmpT (x y : Tri) : Int := or3 (cmpI x.a y.a) (cmpI x.b y.b) (cmpI x.c y.c)
def cmpE (x y : Ed) : Int := or2 (cmpI x.a y.a) (cmpI x.b y.b)
theorem or_three (x y z : Int) (w : World) (g cap : Nat) (h0 : w.cell? ⟨g, 0, none⟩ = some (.int .i64 x)) (h1 : w.cell? ⟨g, 1, none⟩ = some (.int .i64 y)) (h2 : w.cell? ⟨g, 2, none⟩ = some (.int .i64 z)) : Calls Tryz.prog 92 #[.slice (some ⟨g, 0, none⟩) 3 cap] w fun e w' => e = .returned (.int .i64 (or3 x y z)) ∧ w = w' := by
  have := or_any (fun i => if i = 0 then x else if i = 1 then y else z) 3 g cap (by omega) w (fun i hi => by
    rcases (show i = 0 ∨ i = 1 ∨ i = 2 by omega) with rfl | rfl | rfl
    · exact h0
    · exact h1
    · exact h2)
  simpa [orTo, or3, or2] using this
theorem or_two (x y : Int) (w : World) (g cap : Nat) (h0 : w.cell? ⟨g, 0, none⟩ = some (.int .i64 x)) (h1 : w.cell? ⟨g, 1, none⟩ = some (.int .i64 y)) : Calls Tryz.prog 92 #[.slice (some ⟨g, 0, none⟩) 2 cap] w fun e w' => e = .returned (.int .i64 (or2 x y)) ∧ w = w' := by
  have := or_any (fun i => if i = 0 then x else y) 2 g cap (by omega) w (fun i hi => by
    rcases (show i = 0 ∨ i = 1 by omega) with rfl | rfl
    · exact h0
    · exact h1)
  simpa [orTo, or2] using this
set_option maxRecDepth 100000 in
set_option maxHeartbeats 2000000 in
theorem lessE_any (x y : Ed) (w : World) : Calls Tryz.prog 95 #[.agg #[.int .i64 x.a, .int .i64 x.b], .agg #[.int .i64 y.a, .int .i64 y.b]] w fun e w' => e = .returned (.int .i64 (cmpE x y)) ∧ GQ w w' := by
  go_enter Tryz.func95, Tryz.ntmps95
  go_wp2_with fail
  go_region_held3 (fun w' => w'.cell? ⟨w.heap.size, 0, none⟩ = some (.int .i64 x.a) ∧ w'.cell? ⟨w.heap.size, 1, none⟩ = some (.int .i64 x.b) ∧ w'.cell? ⟨w.heap.size + 1, 0, none⟩ = some (.int .i64 y.a) ∧ w'.cell? ⟨w.heap.size + 1, 1, none⟩ = some (.int .i64 y.b))
    (first | assumption | (refine ⟨?_, ?_, ?_, ?_⟩ <;> go_simp))
    (first
      | (go_at_call 93; refine (compare_any _ _ _).mono ?_; rintro e w' ⟨rfl, rfl⟩)
      | (go_at_call 92; refine (or_two (cmpI x.a y.a) (cmpI x.b y.b) _ _ _ ?_ ?_).mono ?_; go_simp; go_simp; rintro e w' ⟨rfl, rfl⟩))
  all_goals
    go_wp2_with fail
    go_ret
    exact ⟨rfl, by repeat (first | exact gq_refl _ | refine gq_alloc ?_ _ | refine gq_drew ?_ | refine gq_drewN ?_ _)⟩
set_option maxRecDepth 100000 in
set_option maxHeartbeats 4000000 in
theorem lessT_any (x y : Tri) (w : World) : Calls Tryz.prog 91 #[.agg #[.int .i64 x.a, .int .i64 x.b, .int .i64 x.c], .agg #[.int .i64 y.a, .int .i64 y.b, .int .i64 y.c]] w fun e w' => e = .returned (.int .i64 (cmpT x y)) ∧ GQ w w' := by
  go_enter Tryz.func91, Tryz.ntmps91
  go_wp2_with fail
  go_region_held3 (fun w' => w'.cell? ⟨w.heap.size, 0, none⟩ = some (.int .i64 x.a) ∧ w'.cell? ⟨w.heap.size, 1, none⟩ = some (.int .i64 x.b) ∧ w'.cell? ⟨w.heap.size, 2, none⟩ = some (.int .i64 x.c) ∧ w'.cell? ⟨w.heap.size + 1, 0, none⟩ = some (.int .i64 y.a) ∧ w'.cell? ⟨w.heap.size + 1, 1, none⟩ = some (.int .i64 y.b) ∧ w'.cell? ⟨w.heap.size + 1, 2, none⟩ = some (.int .i64 y.c))
    (first | assumption | (refine ⟨?_, ?_, ?_, ?_, ?_, ?_⟩ <;> go_simp))
    (first
      | (go_at_call 93; refine (compare_any _ _ _).mono ?_; rintro e w' ⟨rfl, rfl⟩)
      | (go_at_call 92; refine (or_three (cmpI x.a y.a) (cmpI x.b y.b) (cmpI x.c y.c) _ _ _ ?_ ?_ ?_).mono ?_; go_simp; go_simp; go_simp; rintro e w' ⟨rfl, rfl⟩))
  all_goals
    go_wp2_with fail
    go_ret
    exact ⟨rfl, by repeat (first | exact gq_refl _ | refine gq_alloc ?_ _ | refine gq_drew ?_ | refine gq_drewN ?_ _)⟩
end Go.Proofs.YtcoddcdiimpndaaGreatDoor
