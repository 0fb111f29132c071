/-
  The compare functions of cells and edges.
  DERIVED: THE SHELF's CONTRACTS AT THIS DUMP, IN PLAIN WORDS (tools/lay-plain.mjs out of 'TrydShelfB.lean', which tools/lay-shelf.mjs wrote): THE SAME DECLARATIONS UNDER THE SAME NAMES: 'import', 'namespace', 'open', 'def', 'theorem' AND NOTHING ELSE: no command of the shelf's: FOR A HAND-IN. Each laying: the table of numbers ('.._ren') and one theorem, a field a fact of the dump's own or the kernel's comparison; each contract: ONE APPLICATION.
  The sorts of cells, edges and numbers that a call owns.
  The sort of whole numbers in a block.
  The walks of mesh that read a grid: at, Index, moved, upward, downward; Frequency.
-/
import Derived.Test.YtcoddcdiimpndaaDoorM03
import Derived.Test.YtcoddcdiimpndaaDoorM01
import Derived.Deep.RegionHeld3
import Derived.Deep.DrawnRows
import Derived.Deep.DeepCutAuto
import Derived.Deep.DeepMust
import Derived.StillTailTactics
import Derived.Shelf.SlGeneric
import Derived.Shelf.SlSortCmp.SmallK
import Derived.Shelf.SlSortCmp.WholeK
import Derived.Shelf.Small.Bits
import Derived.Shelf.Sort.Plain
import Derived.Ground.SlsfProg
import Derived.Ground.NamesProg
import Derived.Test.YtcoddcdiimpndaaDoorProg
import Derived.Sort.LotA
import Derived.Test.YtcoddcdiimpndaaDoorM02
set_option linter.unusedVariables false
set_option linter.unusedSimpArgs false
namespace Go.Proofs.YtcoddcdiimpndaaDoor
open Go.RowKit Go.Sort
/-- w' is w with new blocks, some draws later. -/
def GQ (w w' : World) : Prop := ∃ q os, w' = Sort.grow (w.drewN q) os
theorem gq_refl (w : World) : GQ w w := ⟨0, #[], by simp [Sort.grow, World.drewN]⟩
theorem gq_alloc {w W : World} (h : GQ w W) (o : Obj) : GQ w (W.alloc o) := by
  obtain ⟨q, os, rfl⟩ := h
  exact ⟨q, os.push o, by rw [alloc_eq_grow, grow_grow]; rfl⟩
theorem gq_drewN {w W : World} (h : GQ w W) (n : Nat) : GQ w (W.drewN n) := by
  obtain ⟨q, os, rfl⟩ := h
  exact ⟨q + n, os, by simp [Sort.grow, World.drewN, Nat.add_assoc]⟩
theorem gq_drew {w W : World} (h : GQ w W) : GQ w W.drew := gq_drewN h 1
/-- cmp.Compare at whole numbers. -/
def cmpI (x y : Int) : Int := if x < y then -1 else if y < x then 1 else 0
theorem nan_any (x : Int) (w : World) : Calls Tryd.prog 68 #[.int .i64 x] w fun e w' => e = .returned (.bool false) ∧ w = w' := by
  go_enter Tryd.func68, Tryd.ntmps68
  go_wp2
  go_ret
  exact ⟨ret_bool (by simp), rfl⟩
set_option maxHeartbeats 1000000 in
theorem compare_any (x y : Int) (w : World) : Calls Tryd.prog 55 #[.int .i64 x, .int .i64 y] w fun e w' => e = .returned (.int .i64 (cmpI x y)) ∧ w = w' := by
  by_cases h : x < y
  · have hd : decide (x < y) = true := decide_eq_true h
    have hc : cmpI x y = -1 := by simp [cmpI, h]
    rw [hc]
    clear hc
    go_enter Tryd.func55, Tryd.ntmps55
    go_wp2_with (go_at_call 68; refine (nan_any _ _).mono ?_; rintro e w' ⟨rfl, rfl⟩)
    go_ret
    exact ⟨rfl, rfl⟩
  · have hd : decide (x < y) = false := decide_eq_false h
    by_cases h2 : y < x
    · have hd2 : decide (y < x) = true := decide_eq_true h2
      have hc : cmpI x y = 1 := by simp [cmpI, h, h2]
      rw [hc]
      clear hc
      go_enter Tryd.func55, Tryd.ntmps55
      go_wp2_with (go_at_call 68; refine (nan_any _ _).mono ?_; rintro e w' ⟨rfl, rfl⟩)
      go_ret
      exact ⟨rfl, rfl⟩
    · have hd2 : decide (y < x) = false := decide_eq_false h2
      have hc : cmpI x y = 0 := by simp [cmpI, h, h2]
      rw [hc]
      clear hc
      go_enter Tryd.func55, Tryd.ntmps55
      go_wp2_with (go_at_call 68; refine (nan_any _ _).mono ?_; rintro e w' ⟨rfl, rfl⟩)
      go_ret
      exact ⟨rfl, rfl⟩
/-- cmp.Or: the first that is not 0. -/
def orTo (E : Nat → Int) (n : Nat) : Nat → Int
  | 0 => 0
  | k + 1 => if E (n - (k + 1)) ≠ 0 then E (n - (k + 1)) else orTo E n k
set_option maxHeartbeats 1000000 in
theorem or_any (E : Nat → Int) (n g cap : Nat) (hn : n ≤ 1000) (w : World) (hc : ∀ i, i < n → w.cell? ⟨g, i, none⟩ = some (.int .i64 (E i))) : Calls Tryd.prog 54 #[.slice (some ⟨g, 0, none⟩) n cap] w fun e w' => e = .returned (.int .i64 (orTo E n n)) ∧ w = w' := by
  have HC := Lib.hid hc
  have HN := Lib.hid (show orTo E n n = orTo E n n from rfl)
  generalize hr : orTo E n n = r
  have HR := Lib.hid hr
  clear hc hr HN
  go_enter Tryd.func54, Tryd.ntmps54
  go_wp2_with fail
  go_loop [8] (fun s8 => ∃ k : Nat, k ≤ n ∧ s8 = .int .i64 k ∧ Hid (orTo E n (n - k) = r)) (fun s8 => n - (intOf s8).toNat)
  case atStart => exact ⟨0, Nat.zero_le _, rfl, HR⟩
  case round =>
    obtain ⟨k, hk, rfl, HK⟩ := hrel
    by_cases hkn : k < n
    · have hkI : (k : Int) < (n : Int) := by omega
      have c := HC.out k hkn
      have HS := Lib.hid (show orTo E n (n - k) = if E k ≠ 0 then E k else orTo E n (n - (k + 1)) by
        obtain ⟨m, hm⟩ : ∃ m, n - k = m + 1 := ⟨n - k - 1, by omega⟩
        rw [hm, orTo, show n - (m + 1) = k from by omega, show n - (k + 1) = m from by omega])
      by_cases h0 : E k = 0
      · have hd : (E k != 0) = false := by simpa using h0
        have HK2 := Lib.hid (show orTo E n (n - (k + 1)) = r by rw [← HK.out, HS.out, if_neg (by simpa using h0)])
        clear h0
        go_wp2_with fail
        go_round
        case rel => exact ⟨k + 1, by omega, by go_num, HK2⟩
        case measure => simp [intOf]; omega
      · have hd : (E k != 0) = true := by simpa using h0
        have HK2 := Lib.hid (show E k = r by rw [← HK.out, HS.out, if_pos h0])
        clear h0
        go_wp2_with fail
        go_ret
        exact ⟨ret_int HK2.out, rfl⟩
    · have hd : decide (k < n) = false := decide_eq_false hkn
      obtain rfl : n = k := by omega
      go_wp2_with fail
      go_ret
      exact ⟨ret_int (by rw [← HK.out, Nat.sub_self]; rfl), rfl⟩
/-- A cell; an edge. -/
structure Tri where
  a : Int
  b : Int
  c : Int
  deriving DecidableEq, Inhabited
structure Ed where
  a : Int
  b : Int
  deriving DecidableEq, Inhabited
def tric (t : Tri) : List Value := [.int .i64 t.a, .int .i64 t.b, .int .i64 t.c]
def edc (t : Ed) : List Value := [.int .i64 t.a, .int .i64 t.b]
def or2 (x y : Int) : Int := if x ≠ 0 then x else if y ≠ 0 then y else 0
def or3 (x y z : Int) : Int := if x ≠ 0 then x else or2 y z
def cmpT (x y : Tri) : Int := or3 (cmpI x.a y.a) (cmpI x.b y.b) (cmpI x.c y.c)
def cmpE (x y : Ed) : Int := or2 (cmpI x.a y.a) (cmpI x.b y.b)
theorem or_three (x y z : Int) (w : World) (g cap : Nat) (h0 : w.cell? ⟨g, 0, none⟩ = some (.int .i64 x)) (h1 : w.cell? ⟨g, 1, none⟩ = some (.int .i64 y)) (h2 : w.cell? ⟨g, 2, none⟩ = some (.int .i64 z)) : Calls Tryd.prog 54 #[.slice (some ⟨g, 0, none⟩) 3 cap] w fun e w' => e = .returned (.int .i64 (or3 x y z)) ∧ w = w' := by
  have := or_any (fun i => if i = 0 then x else if i = 1 then y else z) 3 g cap (by omega) w (fun i hi => by
    rcases (show i = 0 ∨ i = 1 ∨ i = 2 by omega) with rfl | rfl | rfl
    · exact h0
    · exact h1
    · exact h2)
  simpa [orTo, or3, or2] using this
theorem or_two (x y : Int) (w : World) (g cap : Nat) (h0 : w.cell? ⟨g, 0, none⟩ = some (.int .i64 x)) (h1 : w.cell? ⟨g, 1, none⟩ = some (.int .i64 y)) : Calls Tryd.prog 54 #[.slice (some ⟨g, 0, none⟩) 2 cap] w fun e w' => e = .returned (.int .i64 (or2 x y)) ∧ w = w' := by
  have := or_any (fun i => if i = 0 then x else y) 2 g cap (by omega) w (fun i hi => by
    rcases (show i = 0 ∨ i = 1 by omega) with rfl | rfl
    · exact h0
    · exact h1)
  simpa [orTo, or2] using this
set_option maxRecDepth 100000 in
set_option maxHeartbeats 2000000 in
theorem lessE_any (x y : Ed) (w : World) : Calls Tryd.prog 57 #[.agg #[.int .i64 x.a, .int .i64 x.b], .agg #[.int .i64 y.a, .int .i64 y.b]] w fun e w' => e = .returned (.int .i64 (cmpE x y)) ∧ GQ w w' := by
  go_enter Tryd.func57, Tryd.ntmps57
  go_wp2_with fail
  go_region_held3 (fun w' => w'.cell? ⟨w.heap.size, 0, none⟩ = some (.int .i64 x.a) ∧ w'.cell? ⟨w.heap.size, 1, none⟩ = some (.int .i64 x.b) ∧ w'.cell? ⟨w.heap.size + 1, 0, none⟩ = some (.int .i64 y.a) ∧ w'.cell? ⟨w.heap.size + 1, 1, none⟩ = some (.int .i64 y.b))
    (first | assumption | (refine ⟨?_, ?_, ?_, ?_⟩ <;> go_simp))
    (first
      | (go_at_call 55; refine (compare_any _ _ _).mono ?_; rintro e w' ⟨rfl, rfl⟩)
      | (go_at_call 54; refine (or_two (cmpI x.a y.a) (cmpI x.b y.b) _ _ _ ?_ ?_).mono ?_; go_simp; go_simp; rintro e w' ⟨rfl, rfl⟩))
  all_goals
    go_wp2_with fail
    go_ret
    exact ⟨rfl, by repeat (first | exact gq_refl _ | refine gq_alloc ?_ _ | refine gq_drew ?_ | refine gq_drewN ?_ _)⟩
set_option maxRecDepth 100000 in
set_option maxHeartbeats 4000000 in
theorem lessT_any (x y : Tri) (w : World) : Calls Tryd.prog 53 #[.agg #[.int .i64 x.a, .int .i64 x.b, .int .i64 x.c], .agg #[.int .i64 y.a, .int .i64 y.b, .int .i64 y.c]] w fun e w' => e = .returned (.int .i64 (cmpT x y)) ∧ GQ w w' := by
  go_enter Tryd.func53, Tryd.ntmps53
  go_wp2_with fail
  go_region_held3 (fun w' => w'.cell? ⟨w.heap.size, 0, none⟩ = some (.int .i64 x.a) ∧ w'.cell? ⟨w.heap.size, 1, none⟩ = some (.int .i64 x.b) ∧ w'.cell? ⟨w.heap.size, 2, none⟩ = some (.int .i64 x.c) ∧ w'.cell? ⟨w.heap.size + 1, 0, none⟩ = some (.int .i64 y.a) ∧ w'.cell? ⟨w.heap.size + 1, 1, none⟩ = some (.int .i64 y.b) ∧ w'.cell? ⟨w.heap.size + 1, 2, none⟩ = some (.int .i64 y.c))
    (first | assumption | (refine ⟨?_, ?_, ?_, ?_, ?_, ?_⟩ <;> go_simp))
    (first
      | (go_at_call 55; refine (compare_any _ _ _).mono ?_; rintro e w' ⟨rfl, rfl⟩)
      | (go_at_call 54; refine (or_three (cmpI x.a y.a) (cmpI x.b y.b) (cmpI x.c y.c) _ _ _ ?_ ?_ ?_).mono ?_; go_simp; go_simp; go_simp; rintro e w' ⟨rfl, rfl⟩))
  all_goals
    go_wp2_with fail
    go_ret
    exact ⟨rfl, by repeat (first | exact gq_refl _ | refine gq_alloc ?_ _ | refine gq_drew ?_ | refine gq_drewN ?_ _)⟩
end Go.Proofs.YtcoddcdiimpndaaDoor
namespace Go.Proofs
open Go.Shelf
def Tryd.sortInts_ren : Go.Shelf.Ren := ⟨fun | 189 => 59 | 125 => 65 | 257 => 70 | 128 => 80 | 129 => 81 | 294 => 98 | 295 => 99 | 296 => 100 | 297 => 101 | 298 => 102 | 299 => 103 | 216 => 104 | 300 => 105 | 301 => 106 | 328 => 118 | 329 => 108 | 330 => 109 | 331 => 119 | 332 => 120 | 215 => 68 | 343 => 124 | n => n, fun | 28 => 24 | 3 => 3 | 46 => 101 | 0 => 0 | 51 => 117 | 53 => 119 | 4 => 4 | 183 => 111 | 182 => 110 | 131 => 59 | 5 => 5 | 9 => 9 | 218 => 136 | 222 => 140 | 228 => 148 | 229 => 149 | n => n, fun | n => n⟩
theorem Tryd.sortInts : Go.Proofs.Lays.n189 Tryd.prog Tryd.sortInts_ren := {
  mixed := by kernel_rfl
  f125 := Tryd.func65.trans (congrArg some (by kernel_rfl))
  f128 := Tryd.func80.trans (congrArg some (by kernel_rfl))
  f129 := Tryd.func81.trans (congrArg some (by kernel_rfl))
  f189 := Tryd.func59.trans (congrArg some (by kernel_rfl))
  f215 := Tryd.func68.trans (congrArg some (by kernel_rfl))
  f216 := Tryd.func104.trans (congrArg some (by kernel_rfl))
  f257 := Tryd.func70.trans (congrArg some (by kernel_rfl))
  f294 := Tryd.func98.trans (congrArg some (by kernel_rfl))
  f295 := Tryd.func99.trans (congrArg some (by kernel_rfl))
  f296 := Tryd.func100.trans (congrArg some (by kernel_rfl))
  f297 := Tryd.func101.trans (congrArg some (by kernel_rfl))
  f298 := Tryd.func102.trans (congrArg some (by kernel_rfl))
  f299 := Tryd.func103.trans (congrArg some (by kernel_rfl))
  f300 := Tryd.func105.trans (congrArg some (by kernel_rfl))
  f301 := Tryd.func106.trans (congrArg some (by kernel_rfl))
  f328 := Tryd.func118.trans (congrArg some (by kernel_rfl))
  f329 := Tryd.func108.trans (congrArg some (by kernel_rfl))
  f330 := Tryd.func109.trans (congrArg some (by kernel_rfl))
  f331 := Tryd.func119.trans (congrArg some (by kernel_rfl))
  f332 := Tryd.func120.trans (congrArg some (by kernel_rfl))
  f343 := Tryd.func124.trans (congrArg some (by kernel_rfl))
  t0 := Tryd.underlying0
  a0 := Tryd.isAgg0
  z0 := Tryd.sizeOf0
  v0 := Tryd.zeroValue0
  t3 := Tryd.underlying3
  a3 := Tryd.isAgg3
  z3 := Tryd.sizeOf3
  v3 := Tryd.zeroValue3
  t4 := Tryd.underlying4
  a4 := Tryd.isAgg4
  z4 := Tryd.sizeOf4
  v4 := Tryd.zeroValue4
  t5 := Tryd.underlying5
  a5 := Tryd.isAgg5
  z5 := Tryd.sizeOf5
  v5 := Tryd.zeroValue5
  t9 := Tryd.underlying9
  a9 := Tryd.isAgg9
  z9 := Tryd.sizeOf9
  v9 := Tryd.zeroValue9
  t28 := Tryd.underlying24
  a28 := Tryd.isAgg24
  z28 := Tryd.sizeOf24
  v28 := Tryd.zeroValue24
  t46 := Tryd.underlying101
  a46 := Tryd.isAgg101
  z46 := Tryd.sizeOf101
  v46 := Tryd.zeroValue101
  t51 := Tryd.underlying117
  a51 := Tryd.isAgg117
  z51 := Tryd.sizeOf117
  v51 := Tryd.zeroValue117
  t53 := Tryd.underlying119
  a53 := Tryd.isAgg119
  z53 := Tryd.sizeOf119
  v53 := Tryd.zeroValue119
  t131 := Tryd.underlying59
  a131 := Tryd.isAgg59
  z131 := Tryd.sizeOf59
  v131 := Tryd.zeroValue59
  t182 := Tryd.underlying110
  a182 := Tryd.isAgg110
  z182 := Tryd.sizeOf110
  v182 := Tryd.zeroValue110
  t183 := Tryd.underlying111
  a183 := Tryd.isAgg111
  z183 := Tryd.sizeOf111
  v183 := Tryd.zeroValue111
  t218 := Tryd.underlying136
  a218 := Tryd.isAgg136
  z218 := Tryd.sizeOf136
  v218 := Tryd.zeroValue136
  t222 := Tryd.underlying140
  a222 := Tryd.isAgg140
  z222 := Tryd.sizeOf140
  v222 := Tryd.zeroValue140
  t228 := Tryd.underlying148
  a228 := Tryd.isAgg148
  z228 := Tryd.sizeOf148
  v228 := Tryd.zeroValue148
  t229 := Tryd.underlying149
  a229 := Tryd.isAgg149
  z229 := Tryd.sizeOf149
  v229 := Tryd.zeroValue149 }
end Go.Proofs
set_option linter.unusedVariables false
set_option linter.unusedSimpArgs false
namespace Go.Proofs.YtcoddcdiimpndaaDoor
open Go.RowKit Go.Sort
section
variable {α : Type} [Inhabited α] {w : World} {base g cap n : Nat} {e : TypeId} {k : Nat} {enc : α → List Value} {d d' : Array α}
theorem heap_setCells_ne {b k : Nat} (h : k ≠ b) (vs : List Value) (o : Nat) (w : World) : (w.setCells b o vs).heap[k]? = w.heap[k]? := heap_setCells_other h vs o w
theorem grown_setCells (b : Nat) : ∀ (vs : List Value) (o : Nat) (w W : World), w.grownBy W (some b) → w.grownBy (W.setCells b o vs) (some b)
  | [], _, _, _, h => h
  | v :: r, o, w, W, h => grown_setCells b r (o + 1) w (W.setCell ⟨b, o, none⟩ v) (World.grownBy.trans h (setCell_grown W ⟨b, o, none⟩ v))
theorem own_sortedG (hk : ∀ x, (enc x).length = k) (hn : n = d.size) (h : w.ownsRow base e k (.slice (some ⟨g, 0, none⟩) n cap) n (d.toList.flatMap enc)) (hs : d'.size = d.size) (m : Nat) (os : Array Obj) :
    (Go.Proofs.sortWorldK enc k w g 0 m d' os).ownsRow base e k (.slice (some ⟨g, 0, none⟩) n cap) n (d'.toList.flatMap enc) ∧ w.grownBy (Go.Proofs.sortWorldK enc k w g 0 m d' os) (some g) := by
  refine ⟨(own_sorted hk hn h hs m os).1, ?_⟩
  rw [sortW_eq hk hn h hs]
  have h1 : w.grownBy (Sort.ahead w m) (some g) := ⟨rfl, rfl, rfl, Nat.le_refl _, fun _ _ _ => rfl⟩
  exact World.grownBy.trans (grown_setCells g _ 0 w _ h1) (grown_grow _ os _)
end
/-- Lexicographic orders by a compare function: what the sort asks. -/
theorem cmpI_lt (x y : Int) : (cmpI x y < 0 ↔ x < y) ∧ (cmpI x y = 0 ↔ x = y) := by
  unfold cmpI
  split
  · omega
  · split <;> omega
theorem cmpE_lt (x y : Ed) : cmpE x y < 0 ↔ (x.a < y.a ∨ x.a = y.a ∧ x.b < y.b) := by
  unfold cmpE or2
  have h1 := cmpI_lt x.a y.a
  have h2 := cmpI_lt x.b y.b
  split
  · rename_i h; omega
  · rename_i h
    split <;> omega
theorem cmpT_lt (x y : Tri) : cmpT x y < 0 ↔ (x.a < y.a ∨ x.a = y.a ∧ (x.b < y.b ∨ x.b = y.b ∧ x.c < y.c)) := by
  unfold cmpT or3 or2
  have h1 := cmpI_lt x.a y.a
  have h2 := cmpI_lt x.b y.b
  have h3 := cmpI_lt x.c y.c
  split
  · rename_i h; omega
  · rename_i h
    split
    · rename_i h'; omega
    · split <;> omega
def ltT (x y : Tri) : Bool := ltOf cmpT x y
def ltE (x y : Ed) : Bool := ltOf cmpE x y
theorem ltE_iff (x y : Ed) : ltOf cmpE x y = true ↔ (x.a < y.a ∨ x.a = y.a ∧ x.b < y.b) := by simp [ltOf, cmpE_lt]
theorem ltT_iff (x y : Tri) : ltOf cmpT x y = true ↔ (x.a < y.a ∨ x.a = y.a ∧ (x.b < y.b ∨ x.b = y.b ∧ x.c < y.c)) := by simp [ltOf, cmpT_lt]
theorem ltE_no (x y : Ed) : ltOf cmpE x y = false ↔ ¬ (x.a < y.a ∨ x.a = y.a ∧ x.b < y.b) := by rw [← ltE_iff, Bool.not_eq_true]
theorem ltT_no (x y : Tri) : ltOf cmpT x y = false ↔ ¬ (x.a < y.a ∨ x.a = y.a ∧ (x.b < y.b ∨ x.b = y.b ∧ x.c < y.c)) := by rw [← ltT_iff, Bool.not_eq_true]
theorem swoE : SWO (ltOf cmpE) :=
  ⟨fun x => (ltE_no x x).2 (by omega), fun x y z h1 h2 => by rw [ltE_iff] at *; omega, fun x y z h1 h2 => by rw [ltE_no] at *; omega⟩
theorem swoT : SWO (ltOf cmpT) :=
  ⟨fun x => (ltT_no x x).2 (by omega), fun x y z h1 h2 => by rw [ltT_iff] at *; omega, fun x y z h1 h2 => by rw [ltT_no] at *; omega⟩
theorem antiE (x y : Ed) (h1 : ltOf cmpE x y = false) (h2 : ltOf cmpE y x = false) : x = y := by
  rw [ltE_no] at h1 h2
  cases x; cases y
  simp at *
  omega
theorem antiT (x y : Tri) (h1 : ltOf cmpT x y = false) (h2 : ltOf cmpT y x = false) : x = y := by
  rw [ltT_no] at h1 h2
  cases x; cases y
  simp at *
  omega
/-- The cells, the edges in order. -/
def sortT (L : List Tri) : List Tri := L.mergeSort (fun x y => !ltOf cmpT y x)
def sortE (L : List Ed) : List Ed := L.mergeSort (fun x y => !ltOf cmpE y x)
def sortI (L : List Int) : List Int := L.mergeSort (fun x y => decide (x ≤ y))
def cellsT (L : List Tri) : List Value := L.flatMap tric
def cellsE (L : List Ed) : List Value := L.flatMap edc
theorem sortT_any (L : List Tri) (base g cap : Nat) (w : World) (hL : L.length ≤ 1000000) (h : w.ownsRow base 54 3 (.slice (some ⟨g, 0, none⟩) L.length cap) L.length (cellsT L)) :
    Calls Tryd.prog 52 #[.slice (some ⟨g, 0, none⟩) L.length cap, .func (.func 53) #[] #[]] w fun e w' => e = .returned (.tuple #[]) ∧ w'.ownsRow base 54 3 (.slice (some ⟨g, 0, none⟩) L.length cap) L.length (cellsT (sortT L)) ∧ w.grownBy w' (some g) := by
  have hk : ∀ x, (tric x).length = 3 := fun _ => rfl
  have hrow : w.ownsRow base 54 3 (.slice (some ⟨g, 0, none⟩) L.length cap) L.length (L.toArray.toList.flatMap tric) := h
  have hH := own_holds hk (by simp) hrow
  have eg : ∀ args w, (callFunc 53 args).run Tryd.prog w = .ok (.enter 53 args) w := enters_of Tryd.func53 (by kernel_rfl) rfl
  have hc := AnyQ.slices_SortFunc Tryd.sortCell 3 Tryd.isAgg54 Tryd.sizeOf54 tric hk (fun x v hv => by simp [tric] at hv; rcases hv with rfl | rfl | rfl <;> rfl) cmpT swoT 53 #[] g 0 cap L.toArray w eg (fun _ _ _ _ x y => lessT_any x y _) hH (h.lt g rfl).2 (by simp; omega)
  refine hc.mono ?_
  rintro e w' ⟨rfl, d', m, os, hP, hS, rfl⟩
  have hu := sorted_unique_holds (lt := ltOf cmpT) swoT antiT L.toArray d' hP hS
  obtain ⟨h1, h2⟩ := own_sortedG hk (by simp) hrow hP.1 m os
  rw [hu] at h1
  exact ⟨rfl, h1, h2⟩
theorem sortE_any (L : List Ed) (base g cap : Nat) (w : World) (hL : L.length ≤ 1000000) (h : w.ownsRow base 52 2 (.slice (some ⟨g, 0, none⟩) L.length cap) L.length (cellsE L)) :
    Calls Tryd.prog 56 #[.slice (some ⟨g, 0, none⟩) L.length cap, .func (.func 57) #[] #[]] w fun e w' => e = .returned (.tuple #[]) ∧ w'.ownsRow base 52 2 (.slice (some ⟨g, 0, none⟩) L.length cap) L.length (cellsE (sortE L)) ∧ w.grownBy w' (some g) := by
  have hk : ∀ x, (edc x).length = 2 := fun _ => rfl
  have hrow : w.ownsRow base 52 2 (.slice (some ⟨g, 0, none⟩) L.length cap) L.length (L.toArray.toList.flatMap edc) := h
  have hH := own_holds hk (by simp) hrow
  have eg : ∀ args w, (callFunc 57 args).run Tryd.prog w = .ok (.enter 57 args) w := enters_of Tryd.func57 (by kernel_rfl) rfl
  have hc := AnyQ.slices_SortFunc Tryd.sortEdge 2 Tryd.isAgg52 Tryd.sizeOf52 edc hk (fun x v hv => by simp [edc] at hv; rcases hv with rfl | rfl <;> rfl) cmpE swoE 57 #[] g 0 cap L.toArray w eg (fun _ _ _ _ x y => lessE_any x y _) hH (h.lt g rfl).2 (by simp; omega)
  refine hc.mono ?_
  rintro e w' ⟨rfl, d', m, os, hP, hS, rfl⟩
  have hu := sorted_unique_holds (lt := ltOf cmpE) swoE antiE L.toArray d' hP hS
  obtain ⟨h1, h2⟩ := own_sortedG hk (by simp) hrow hP.1 m os
  rw [hu] at h1
  exact ⟨rfl, h1, h2⟩
end Go.Proofs.YtcoddcdiimpndaaDoor
set_option linter.unusedVariables false
set_option linter.unusedSimpArgs false
namespace Go.Proofs.YtcoddcdiimpndaaDoor
open Go.RowKit Go.Sort
theorem heap_mapBlock_same {w : World} {b : Nat} {c : Array Value} {t : TypeId} {fr : Nat × Nat} (f : Array Value → Array Value) (h : w.heap[b]? = some (.cells c t fr)) : (Go.Sort.mapBlock w b f).heap[b]? = some (.cells (f c) t fr) := by
  simp [Go.Sort.mapBlock, Array.getElem?_modify, h, Go.Sort.onCells]
theorem heap_mapBlock_other {w : World} {b k : Nat} (f : Array Value → Array Value) (h : k ≠ b) : (Go.Sort.mapBlock w b f).heap[k]? = w.heap[k]? := by
  simp [Go.Sort.mapBlock, Array.getElem?_modify, Ne.symm h]
theorem size_mapBlock (w : World) (b : Nat) (f : Array Value → Array Value) : (Go.Sort.mapBlock w b f).heap.size = w.heap.size := by simp [Go.Sort.mapBlock]
/-- A block whose first cells are given numbers. -/
def putI (zs : List Int) (c : Array Value) : Array Value := Go.Sort.putCells (Value.int .i64) 0 zs.toArray c
theorem putI_size (zs : List Int) (c : Array Value) : (putI zs c).size = c.size := by simp [putI, Go.Sort.putCells]
theorem putI_get (zs : List Int) (c : Array Value) (i : Nat) (hi : i < zs.length) (hc : i < c.size) : (putI zs c)[i]? = some (.int .i64 zs[i]!) := by
  simp only [putI, Go.Sort.putCells, Array.getElem?_mapIdx]
  rw [Array.getElem?_eq_getElem hc]
  simp [hi]
theorem putI_out (zs : List Int) (c : Array Value) (i : Nat) (hi : zs.length ≤ i) : (putI zs c)[i]? = c[i]? := by
  simp only [putI, Go.Sort.putCells, Array.getElem?_mapIdx]
  cases h : c[i]? with
  | none => rfl
  | some v =>
    simp
    intro h2
    omega
theorem sortI_length (zs : List Int) : (sortI zs).length = zs.length := List.length_mergeSort _
theorem sortI_blk (zs : List Int) (b cap : Nat) (c : Array Value) (t : TypeId) (w : World) (hb : w.heap[b]? = some (.cells c t (0, 0))) (hc : ∀ i, i < zs.length → c[i]? = some (.int .i64 zs[i]!)) (hz : zs.length ≤ 1000000) :
    Calls Tryd.prog 59 #[.slice (some ⟨b, 0, none⟩) zs.length cap] w fun e w' => e = .returned (.tuple #[]) ∧ w'.heap[b]? = some (.cells (putI (sortI zs) c) t (0, 0)) ∧ w.grownBy w' (some b) := by
  have hH : Go.Sort.Holds (Value.int .i64) w b 0 zs.toArray := by
    intro j hj
    have hj' : j < zs.length := by simpa using hj
    rw [Nat.zero_add]
    refine ⟨(blk_cell hb j _ (hc j hj')).trans ?_, blk_free hb j⟩
    simp
  have hlt := blk_lt hb
  refine (Any.slices_Sort_int Tryd.sortInts b 0 cap zs w hH hlt (by omega)).mono ?_
  rintro e w' ⟨rfl, m, os, rfl⟩
  have h1 : (Go.Sort.putRow (Value.int .i64) (Go.Sort.ahead w m) b 0 (sortI zs).toArray).heap[b]? = some (.cells (putI (sortI zs) c) t (0, 0)) := heap_mapBlock_same (w := Go.Sort.ahead w m) _ hb
  have h2 : w.grownBy (Go.Sort.putRow (Value.int .i64) (Go.Sort.ahead w m) b 0 (sortI zs).toArray) (some b) :=
    ⟨rfl, rfl, rfl, by unfold Go.Sort.putRow; rw [size_mapBlock]; exact Nat.le_refl _, fun k hk hne => heap_mapBlock_other (w := Go.Sort.ahead w m) _ (fun e => hne (by rw [e]))⟩
  refine ⟨rfl, ?_, World.grownBy.trans h2 (grown_grow _ os _)⟩
  show (Go.Sort.grow (Go.Sort.putRow (Value.int .i64) (Go.Sort.ahead w m) b 0 (sortI zs).toArray) os).heap[b]? = _
  simp only [Go.Sort.grow]
  rw [Array.getElem?_append_left (blk_lt h1)]
  exact h1
def cellsI (zs : List Int) : List Value := zs.map (Value.int .i64)
theorem cellsI_get (zs : List Int) (i : Nat) (hi : i < zs.length) : (cellsI zs)[i]? = some (.int .i64 zs[i]!) := by simp [cellsI, hi]
/-- The sort of a row that a call owns. -/
theorem sortI_own (zs : List Int) (base g cap : Nat) (w : World) (hz : zs.length ≤ 1000000) (h : w.ownsRow base 3 1 (.slice (some ⟨g, 0, none⟩) zs.length cap) zs.length (cellsI zs)) :
    Calls Tryd.prog 59 #[.slice (some ⟨g, 0, none⟩) zs.length cap] w fun e w' => e = .returned (.tuple #[]) ∧ w'.ownsRow base 3 1 (.slice (some ⟨g, 0, none⟩) zs.length cap) zs.length (cellsI (sortI zs)) ∧ w.grownBy w' (some g) := by
  rcases h.2 with ⟨h0, _⟩ | ⟨g', cap', cur, h0, hb, hh, h1, h2, h3, h4⟩
  · cases h0
  · injection h0 with h5 h6 h7
    injection h5 with h5
    injection h5 with h5
    subst h5
    subst h7
    rw [Nat.mul_one] at h3 h4
    refine (sortI_blk zs g cap cur 3 w hh (fun i hi => ?_) hz).mono ?_
    · have : (cur.toList.take zs.length)[i]? = some (.int .i64 zs[i]!) := by rw [h4]; exact cellsI_get zs i hi
      rw [List.getElem?_take, if_pos hi] at this
      simpa using this
    · rintro e w' ⟨rfl, k1, k2⟩
      refine ⟨rfl, ⟨by simp [cellsI, sortI_length], .inr ⟨g, cap, _, rfl, hb, k1, h1, h2, by rw [putI_size, h3, Nat.mul_one], ?_⟩⟩, k2⟩
      apply List.ext_getElem?
      intro i
      rw [Nat.mul_one, List.getElem?_take]
      by_cases hi : i < zs.length
      · rw [if_pos hi, Array.getElem?_toList, putI_get _ _ i (by rw [sortI_length]; exact hi) (by rw [h3]; omega), cellsI_get _ i (by rw [sortI_length]; exact hi)]
      · rw [if_neg hi, List.getElem?_eq_none]
        simp [cellsI, sortI_length]
        omega
end Go.Proofs.YtcoddcdiimpndaaDoor
set_option linter.unusedVariables false
set_option linter.unusedSimpArgs false
namespace Go.Proofs.YtcoddcdiimpndaaDoor
open Go.RowKit

def freqB (n : Int) : Bool := decide (1 ≤ n ∧ n ≤ 8)
theorem freq_any (n : Int) (w : World) : Calls Tryd.prog 24 #[.int .i64 n] w fun e w' => e = .returned (.bool (freqB n)) ∧ w = w' := by
  by_cases h : 1 ≤ n
  · have e : freqB n = decide (n ≤ 8) := by simp [freqB, h]
    rw [e]
    clear e
    go_enter Tryd.func24, Tryd.ntmps24
    go_wp2
    go_ret
    exact ⟨rfl, rfl⟩
  · have e : freqB n = false := by simp [freqB, h]
    rw [e]
    clear e
    go_enter Tryd.func24, Tryd.ntmps24
    go_wp2
    go_ret
    exact ⟨rfl, rfl⟩

set_option maxHeartbeats 2000000 in
theorem at_any (f a b c : Int) (hv : validB f a b c = true) (w : World) (hT : TabOk w) (h n g gm : Nat) (l : List Pl) (hN : NetR w h n g gm l) (hl : Fine l) :
    Calls Tryd.prog 44 #[.pointer (some ⟨g, 0, none⟩), .agg #[.int .i64 f, .int .i64 a, .int .i64 b, .int .i64 c]] w fun e w' => e = .returned (.int .i64 (ix l (normPl f a b c) : Nat)) ∧ Below w.heap.size w w' := by
  have HT := Lib.hid hT
  have HN := Lib.hid hN
  clear hT hN
  go_enter Tryd.func44, Tryd.ntmps44
  go_wp2_with fail
  refine (normal_yes f a b c hv _ (HT.out.alloc _)).mono ?_
  rintro e w1 ⟨rfl, hb1⟩
  have hs1 := hb1.size
  simp at hs1
  have hbw1 : Below w.heap.size w w1 := below_then ((Below.refl _ _).alloc (Nat.le_refl _) _) hb1 (by simp)
  have HB1 := Lib.hid hbw1
  have hN1 := HN.out.below hbw1
  have c3 := hN1.c3
  have hlt := hN1.lt
  have hlook := (hN1.map.below ((Below.refl _ _).alloc (Nat.le_refl _) (.cells #[.int .i64 (nf f a b c : Nat), .int .i64 (nc f a b c 0), .int .i64 (nc f a b c 1), .int .i64 (nc f a b c 2)] 23)).drew).look hl.wf hl.nodup (normPl f a b c) (normPl_wf f a b c hv)
  simp only [normPl] at hlook
  clear hb1 hbw1 hN1 hl hv
  go_wp2
  go_region
  go_wp2
  go_ret
  exact ⟨rfl, (below_alloc HB1.out _).drew⟩

set_option maxHeartbeats 2000000 in
theorem netIndex_any (f a b c : Int) (hv : validB f a b c = true) (w : World) (hT : TabOk w) (h n g gm : Nat) (l : List Pl) (hN : NetR w h n g gm l) (hl : Fine l) :
    Calls Tryd.prog 27 #[.pointer (some ⟨g, 0, none⟩), .agg #[.int .i64 f, .int .i64 a, .int .i64 b, .int .i64 c]] w fun e w' =>
      e = .returned (.tuple #[.int .i64 (ix l (normPl f a b c) : Nat), .bool (decide (normPl f a b c ∈ l))]) ∧ Below w.heap.size w w' := by
  generalize hdin : decide (normPl f a b c ∈ l) = din
  have HD := Lib.hid hdin
  have HT := Lib.hid hT
  have HN := Lib.hid hN
  clear hT hN hdin
  go_enter Tryd.func27, Tryd.ntmps27
  go_wp2_with fail
  refine (normal_yes f a b c hv _ (HT.out.alloc _)).mono ?_
  rintro e w1 ⟨rfl, hb1⟩
  have hs1 := hb1.size
  simp at hs1
  have hbw1 : Below w.heap.size w w1 := below_then ((Below.refl _ _).alloc (Nat.le_refl _) _) hb1 (by simp)
  have HB1 := Lib.hid hbw1
  have hN1 := HN.out.below hbw1
  have c3 := hN1.c3
  have hlt := hN1.lt
  have hlook := (hN1.map.below ((Below.refl _ _).alloc (Nat.le_refl _) (.cells #[.int .i64 (nf f a b c : Nat), .int .i64 (nc f a b c 0), .int .i64 (nc f a b c 1), .int .i64 (nc f a b c 2)] 23)).drew).look_ok hl.wf hl.nodup (normPl f a b c) (normPl_wf f a b c hv)
  rw [HD.out] at hlook
  simp only [normPl] at hlook
  clear hb1 hbw1 hN1 hl hv
  go_wp2
  go_region
  go_wp2
  go_ret2
  exact ⟨rfl, (below_alloc HB1.out _).drew⟩

set_option maxHeartbeats 2000000 in
theorem moved_any (f a b c x y z : Int) (h1 : 0 ≤ a + x ∧ a + x ≤ 1000000) (h2 : 0 ≤ b + y ∧ b + y ≤ 1000000) (h3 : 0 ≤ c + z ∧ c + z ≤ 1000000) (w : World) :
    Calls Tryd.prog 43 #[.agg #[.int .i64 f, .int .i64 a, .int .i64 b, .int .i64 c], .int .i64 x, .int .i64 y, .int .i64 z] w fun e w' =>
      e = .returned (.agg #[.int .i64 f, .int .i64 (a + x), .int .i64 (b + y), .int .i64 (c + z)]) ∧ (w.alloc (.cells #[.int .i64 f, .int .i64 a, .int .i64 b, .int .i64 c] 23)).alloc (.cells #[.int .i64 f, .int .i64 (a + x), .int .i64 (b + y), .int .i64 (c + z)] 23) = w' := by
  obtain ⟨h1a, h1b⟩ := h1
  obtain ⟨h2a, h2b⟩ := h2
  obtain ⟨h3a, h3b⟩ := h3
  go_enter Tryd.func43, Tryd.ntmps43
  go_wp2
  refine bodyPost_ret (v := .agg #[.int .i64 f, .int .i64 (a + x), .int .i64 (b + y), .int .i64 (c + z)]) (by simp [results, Tryd.results43, go_sem]) rfl ⟨rfl, rfl⟩
end Go.Proofs.YtcoddcdiimpndaaDoor
