/-
  The plain mathematics of places on the icosahedron: the corners of the faces, validity, weights, the normal place; no program.
  Small laws on worlds and blocks that the walks use.
  The walks of package place: each function's contract (what it returns; all that lay in memory before is left as it was), where the table of the corners holds what its initialiser lays.
  The walk of place.Normal: the normal place of a valid one; the zero place and the error of ranges else.
  The nodes of a grid, as both programs list them: plain mathematics.
-/
import Init
import Derived.WalkKit
import Derived.Lib.Hide
import Derived.Test.YtcoddcdiimpndaaGreatDoorProg
import Derived.Deep.QuietTactic
import Derived.BigQuiet
import Derived.BigRegion
import Derived.RegionTactic
import Derived.Deep.RegionWith
import Derived.ChangeAlike
import Derived.Handy
namespace Go.Proofs.YtcoddcdiimpndaaGreatDoor

/-- The corners of the faces, as the program's table has them. -/
def tabL : List Nat := [0, 1, 2, 0, 2, 3, 0, 3, 4, 0, 4, 5, 0, 5, 1, 1, 6, 2, 2, 7, 3, 3, 8, 4, 4, 9, 5, 5, 10, 1, 6, 7, 2, 7, 8, 3, 8, 9, 4, 9, 10, 5, 10, 6, 1, 11, 7, 6, 11, 8, 7, 11, 9, 8, 11, 10, 9, 11, 6, 10]
def cor (n i : Nat) : Nat := tabL.getD (3 * n + i) 0

def faceB (n : Int) : Bool := decide (0 ≤ n ∧ n < 20)
def validB (f a b c : Int) : Bool := decide (0 ≤ f ∧ f < 20 ∧ 0 ≤ a ∧ a ≤ 840 ∧ 0 ≤ b ∧ b ≤ 840 ∧ 0 ≤ c ∧ c ≤ 840 ∧ a + b + c = 840)

/-- The weight of vertex v at the place (f, a, b, c). -/
def wt (f a b c : Int) (v : Nat) : Int := if v = cor f.toNat 0 then a else if v = cor f.toNat 1 then b else if v = cor f.toNat 2 then c else 0

/-- Is the place with the weights X on face n? -/
def okAt (X : Nat → Int) (n : Nat) : Bool := validB n (X (cor n 0)) (X (cor n 1)) (X (cor n 2))
def firstOk (X : Nat → Int) : Nat := ((List.range 20).find? (okAt X)).getD 0
/-- The face of the normal place. -/
def nf (f a b c : Int) : Nat := firstOk (wt f a b c)
/-- The coordinates of the normal place. -/
def nc (f a b c : Int) (i : Nat) : Int := wt f a b c (cor (nf f a b c) i)

theorem validB_iff (f a b c : Int) : validB f a b c = true ↔ (0 ≤ f ∧ f < 20 ∧ 0 ≤ a ∧ a ≤ 840 ∧ 0 ≤ b ∧ b ≤ 840 ∧ 0 ≤ c ∧ c ≤ 840 ∧ a + b + c = 840) := by unfold validB; rw [decide_eq_true_eq]
theorem cor_ne : ∀ n, n < 20 → cor n 0 ≠ cor n 1 ∧ cor n 0 ≠ cor n 2 ∧ cor n 1 ≠ cor n 2 := by decide
theorem wt_own (f a b c : Int) (h : validB f a b c = true) : wt f a b c (cor f.toNat 0) = a ∧ wt f a b c (cor f.toNat 1) = b ∧ wt f a b c (cor f.toNat 2) = c := by
  obtain ⟨h0, h1, _⟩ := (validB_iff ..).1 h
  obtain ⟨n1, n2, n3⟩ := cor_ne f.toNat (by omega)
  unfold wt
  refine ⟨by rw [if_pos rfl], by rw [if_neg (Ne.symm n1), if_pos rfl], by rw [if_neg (Ne.symm n2), if_neg (Ne.symm n3), if_pos rfl]⟩
theorem okAt_own (f a b c : Int) (h : validB f a b c = true) : okAt (wt f a b c) f.toNat = true := by
  obtain ⟨e0, e1, e2⟩ := wt_own f a b c h
  unfold okAt
  rw [e0, e1, e2, show ((f.toNat : Nat) : Int) = f from Int.toNat_of_nonneg ((validB_iff ..).1 h).1]
  exact h
theorem firstOk_spec (X : Nat → Int) (m : Nat) (hm : m < 20) (h : okAt X m = true) : firstOk X ≤ m ∧ okAt X (firstOk X) = true ∧ ∀ j, j < firstOk X → okAt X j = false := by
  unfold firstOk
  cases hf : (List.range 20).find? (okAt X) with
  | none =>
    have := List.find?_eq_none.1 hf m (List.mem_range.2 hm)
    exact absurd h this
  | some r =>
    obtain ⟨hr, as1, bs1, hl, hn⟩ := List.find?_eq_some_iff_append.1 hf
    have hlen : as1.length = r := by
      have e : (List.range 20)[as1.length]? = some r := by rw [hl]; simp
      have := List.getElem?_eq_some_iff.1 e
      obtain ⟨h1, h2⟩ := this
      simpa using h2
    have hlt : ∀ j, j < r → okAt X j = false := by
      intro j hj
      have e : (List.range 20)[j]? = as1[j]? := by rw [hl, List.getElem?_append_left (by omega)]
      have hr20 : r < 20 := by
        have : r ∈ List.range 20 := by rw [hl]; simp
        exact List.mem_range.1 this
      rw [List.getElem?_range (by omega)] at e
      have := hn j (List.mem_of_getElem? e.symm)
      simpa using this
    refine ⟨?_, hr, hlt⟩
    simp only [Option.getD_some]
    refine Nat.le_of_not_lt fun hlt' => ?_
    have := hlt m hlt'
    rw [h] at this
    cases this
theorem nf_spec (f a b c : Int) (h : validB f a b c = true) : nf f a b c < 20 ∧ nf f a b c ≤ f.toNat ∧ okAt (wt f a b c) (nf f a b c) = true ∧ ∀ j, j < nf f a b c → okAt (wt f a b c) j = false := by
  have hf := (validB_iff ..).1 h
  obtain ⟨h1, h2, h3⟩ := firstOk_spec (wt f a b c) f.toNat (by omega) (okAt_own f a b c h)
  exact ⟨by unfold nf; omega, h1, h2, h3⟩

end Go.Proofs.YtcoddcdiimpndaaGreatDoor
set_option linter.unusedVariables false
set_option linter.unusedSimpArgs false
namespace Go.Proofs.YtcoddcdiimpndaaGreatDoor
open Go.RowKit

theorem bcell {W w1 : World} (hb : Below W.heap.size W w1) : (∀ b o, b < W.heap.size → w1.cell? ⟨b, o, none⟩ = W.cell? ⟨b, o, none⟩) ∧ (∀ b o, b < W.heap.size → w1.frozen? ⟨b, o, none⟩ = W.frozen? ⟨b, o, none⟩) :=
  ⟨fun b o h => hb.cell (p := ⟨b, o, none⟩) h, fun b o h => hb.frozen (p := ⟨b, o, none⟩) h⟩
/-- Below, one after the other. -/
theorem below_then {B : Nat} {w w1 w2 : World} (h : Below B w w1) (k : Below w1.heap.size w1 w2) (hB : B ≤ w1.heap.size) : Below B w w2 := h.trans (k.mono hB)
theorem below_alloc {w W : World} (h : Below w.heap.size w W) (o : Obj) : Below w.heap.size w (W.alloc o) := h.alloc h.size o

/-- What a block holds, cell by cell. -/
theorem blk_cell {w : World} {b : Nat} {cs : Array Value} {t : TypeId} {fr : Nat × Nat} (h : w.heap[b]? = some (.cells cs t fr)) (j : Nat) (v : Value) (hv : cs[j]? = some v) : w.cell? ⟨b, j, none⟩ = some v := by
  simp [World.cell?, h, hv]
theorem blk_free {w : World} {b : Nat} {cs : Array Value} {t : TypeId} (h : w.heap[b]? = some (.cells cs t (0, 0))) (j : Nat) : w.frozen? ⟨b, j, none⟩ = false := by
  simp [World.frozen?, h]
theorem blk_below {B : Nat} {w w' : World} {b : Nat} {o : Obj} (hb : Below B w w') (h : w.heap[b]? = some o) (hlt : b < B) : w'.heap[b]? = some o := (hb.block b hlt).trans h
theorem blk_new (w : World) (o : Obj) : (w.alloc o).heap[w.heap.size]? = some o := by show (w.heap.push o)[w.heap.size]? = _; simp
theorem blk_lt {w : World} {b : Nat} {o : Obj} (h : w.heap[b]? = some o) : b < w.heap.size := (Array.getElem?_eq_some_iff.1 h).1
theorem blk_old {w : World} (x : Obj) {b : Nat} {o : Obj} (h : w.heap[b]? = some o) : (w.alloc x).heap[b]? = some o := blk_below ((Below.refl _ _).alloc (Nat.le_refl _) x) h (blk_lt h)
theorem ret_bool {a b : Bool} (h : a = b) : Ending.returned (.bool a) = .returned (.bool b) := by rw [h]
theorem ret_int {k : IntKind} {a b : Int} (h : a = b) : Ending.returned (.int k a) = .returned (.int k b) := by rw [h]
end Go.Proofs.YtcoddcdiimpndaaGreatDoor
set_option linter.unusedVariables false
set_option linter.unusedSimpArgs false
namespace Go.Proofs.YtcoddcdiimpndaaGreatDoor
open Go.RowKit

/-- The table of the corners lies as its initialiser lays it. -/
structure TabOk (w : World) : Prop where
  pos : 0 < w.heap.size
  cell : ∀ i, i < 60 → w.cell? ⟨0, i, none⟩ = some (.int .i64 (tabL.getD i 0 : Nat))
theorem TabOk.below {w w' : World} (h : TabOk w) (hb : Below w.heap.size w w') : TabOk w' :=
  ⟨Nat.lt_of_lt_of_le h.pos hb.size, fun i hi => (hb.cell (p := ⟨0, i, none⟩) h.pos).trans (h.cell i hi)⟩
theorem TabOk.alloc {w : World} (h : TabOk w) (o : Obj) : TabOk (w.alloc o) := h.below ((Below.refl _ _).alloc (Nat.le_refl _) o)
theorem TabOk.drew {w : World} (h : TabOk w) : TabOk w.drew := h.below (Below.refl _ _).drew
theorem TabOk.cor {w : World} (h : TabOk w) (n i : Nat) (hn : n < 20) (hi : i < 3) : w.cell? ⟨0, n * 3 + i, none⟩ = some (.int .i64 (cor n i : Nat)) := by
  have := h.cell (n * 3 + i) (by omega)
  rw [this]
  unfold Proofs.YtcoddcdiimpndaaGreatDoor.cor
  rw [Nat.mul_comm]
theorem cor_lt : ∀ n, n < 20 → cor n 0 < 12 ∧ cor n 1 < 12 ∧ cor n 2 < 12 ∧ cor n 0 ≠ cor n 1 ∧ cor n 0 ≠ cor n 2 ∧ cor n 1 ≠ cor n 2 := by decide

theorem face_any (n : Int) (w : World) : Calls Tryz.prog 98 #[.int .i64 n] w fun e w' => e = .returned (.bool (faceB n)) ∧ w = w' := by
  by_cases h : 0 ≤ n
  · have e : faceB n = decide (n < 20) := by simp [faceB, h]
    rw [e]
    clear e
    go_enter Tryz.func98, Tryz.ntmps98
    go_wp2
    go_ret
    exact ⟨rfl, rfl⟩
  · have e : faceB n = false := by simp [faceB, h]
    rw [e]
    clear e
    go_enter Tryz.func98, Tryz.ntmps98
    go_wp2
    go_ret
    exact ⟨rfl, rfl⟩

set_option maxHeartbeats 1000000 in
theorem valid_any (f a b c : Int) (w : World) : Calls Tryz.prog 59 #[.agg #[.int .i64 f, .int .i64 a, .int .i64 b, .int .i64 c]] w fun e w' => e = .returned (.bool (validB f a b c)) ∧ Below w.heap.size w w' := by
  have i0 : ∀ w, (Instr.index 97 (.agg #[.int .i64 a, .int .i64 b, .int .i64 c]) (.int .i64 0)).run Tryz.prog w = .ok (.int .i64 a) w := fun _ => by kernel_rfl
  have i1 : ∀ w, (Instr.index 97 (.agg #[.int .i64 a, .int .i64 b, .int .i64 c]) (.int .i64 1)).run Tryz.prog w = .ok (.int .i64 b) w := fun _ => by kernel_rfl
  have i2 : ∀ w, (Instr.index 97 (.agg #[.int .i64 a, .int .i64 b, .int .i64 c]) (.int .i64 2)).run Tryz.prog w = .ok (.int .i64 c) w := fun _ => by kernel_rfl
  by_cases ha : 0 ≤ a ∧ a ≤ 840
  · obtain ⟨a0, a1⟩ := ha
    by_cases hb : 0 ≤ b ∧ b ≤ 840
    · obtain ⟨b0, b1⟩ := hb
      by_cases hc : 0 ≤ c ∧ c ≤ 840
      · obtain ⟨c0, c1⟩ := hc
        have e : validB f a b c = (faceB f && (a + b + c == 840)) := by
          unfold validB faceB
          rw [Bool.eq_iff_iff]
          simp only [decide_eq_true_eq, Bool.and_eq_true, beq_iff_eq]
          omega
        rw [e]
        clear e
        go_enter Tryz.func59, Tryz.ntmps59
        go_wp2
        refine wp_loop_rounds 4 ?_
        rw [rounds_succ]; go_wp2
        rw [rounds_succ]; go_wp2
        rw [rounds_succ]; go_wp2
        rw [rounds_succ]; go_wp2_with fail
        refine (face_any _ _).mono ?_
        rintro e w' ⟨rfl, rfl⟩
        clear i0 i1 i2
        cases hf : faceB f
        all_goals
          go_wp2
          go_ret
          exact ⟨ret_bool (by simp [hf]), (Below.refl _ _).alloc (Nat.le_refl _) _⟩
      · have hn : c < 0 ∨ 840 < c := by omega
        have hv : validB f a b c = false := by unfold validB; rw [decide_eq_false_iff_not]; omega
        rw [hv]
        clear hc hv
        rcases hn with hn | hn
        all_goals
          go_enter Tryz.func59, Tryz.ntmps59
          go_wp2
          refine wp_loop_rounds 3 ?_
          rw [rounds_succ]; go_wp2
          rw [rounds_succ]; go_wp2
          rw [rounds_succ]; go_wp2
          go_ret
          exact ⟨rfl, (Below.refl _ _).alloc (Nat.le_refl _) _⟩
    · have hn : b < 0 ∨ 840 < b := by omega
      have hv : validB f a b c = false := by unfold validB; rw [decide_eq_false_iff_not]; omega
      rw [hv]
      clear hb hv
      rcases hn with hn | hn
      all_goals
        go_enter Tryz.func59, Tryz.ntmps59
        go_wp2
        refine wp_loop_rounds 2 ?_
        rw [rounds_succ]; go_wp2
        rw [rounds_succ]; go_wp2
        go_ret
        exact ⟨rfl, (Below.refl _ _).alloc (Nat.le_refl _) _⟩
  · have hn : a < 0 ∨ 840 < a := by omega
    have hv : validB f a b c = false := by unfold validB; rw [decide_eq_false_iff_not]; omega
    rw [hv]
    clear ha hv
    rcases hn with hn | hn
    all_goals
      go_enter Tryz.func59, Tryz.ntmps59
      go_wp2
      refine wp_loop_rounds 1 ?_
      rw [rounds_succ]; go_wp2
      go_ret
      exact ⟨rfl, (Below.refl _ _).alloc (Nat.le_refl _) _⟩

theorem list12 (X : Nat → Int) : ∀ j, j < 12 → ∀ h, ([.int .i64 (X 0), .int .i64 (X 1), .int .i64 (X 2), .int .i64 (X 3), .int .i64 (X 4), .int .i64 (X 5), .int .i64 (X 6), .int .i64 (X 7), .int .i64 (X 8), .int .i64 (X 9), .int .i64 (X 10), .int .i64 (X 11)] : List Value)[j]'h = .int .i64 (X j) := by
  intro j hj
  match j, hj with
  | 0, _ | 1, _ | 2, _ | 3, _ | 4, _ | 5, _ | 6, _ | 7, _ | 8, _ | 9, _ | 10, _ | 11, _ => intro _; rfl

set_option maxHeartbeats 2000000 in
theorem on_core (n : Nat) (hn : n < 20) (c0 c1 c2 : Nat) (k0 : c0 < 12) (k1 : c1 < 12) (k2 : c2 < 12) (X : Nat → Int) (w : World) (h0 : w.cell? ⟨0, n * 3, none⟩ = some (.int .i64 c0)) (h1 : w.cell? ⟨0, n * 3 + 1, none⟩ = some (.int .i64 c1)) (h2 : w.cell? ⟨0, n * 3 + 2, none⟩ = some (.int .i64 c2)) (hz : 0 < w.heap.size) :
    Calls Tryz.prog 116 #[.int .i64 n, .agg #[.int .i64 (X 0), .int .i64 (X 1), .int .i64 (X 2), .int .i64 (X 3), .int .i64 (X 4), .int .i64 (X 5), .int .i64 (X 6), .int .i64 (X 7), .int .i64 (X 8), .int .i64 (X 9), .int .i64 (X 10), .int .i64 (X 11)]] w fun e w' =>
      e = .returned (.tuple #[.agg #[.int .i64 n, .int .i64 (X c0), .int .i64 (X c1), .int .i64 (X c2)], .bool (validB n (X c0) (X c1) (X c2))]) ∧ Below w.heap.size w w' := by
  have X0 := list12 X c0 k0
  have X1 := list12 X c1 k1
  have X2 := list12 X c2 k2
  have m0 : (c0 : Int) < 12 := by omega
  have m1 : (c1 : Int) < 12 := by omega
  have m2 : (c2 : Int) < 12 := by omega
  go_enter Tryz.func116, Tryz.ntmps116
  go_wp2
  go_region
  go_wp2
  clear X0 X1 X2 h0 h1 h2
  go_region_with (go_at_call 59; refine (valid_any _ _ _ _ _).mono ?_; rintro e w1 ⟨rfl, hb⟩; obtain ⟨hc, hf⟩ := bcell hb)
  all_goals go_wp2
  all_goals
    have g0 : w1.cell? ⟨w.heap.size + 1, 0, none⟩ = some (.int .i64 0) := by rw [hc _ _ (by simp)]; simp [go_sem]
    have g1 : w1.cell? ⟨w.heap.size + 1, 1, none⟩ = some (.int .i64 0) := by rw [hc _ _ (by simp)]; simp [go_sem]
    have g2 : w1.cell? ⟨w.heap.size + 1, 2, none⟩ = some (.int .i64 0) := by rw [hc _ _ (by simp)]; simp [go_sem]
    have g3 : w1.cell? ⟨w.heap.size + 1, 3, none⟩ = some (.int .i64 0) := by rw [hc _ _ (by simp)]; simp [go_sem]
    clear hc hf
    refine bodyPost_ret (v := .tuple #[.agg #[.int .i64 n, .int .i64 (X c0), .int .i64 (X c1), .int .i64 (X c2)], .bool (validB n (X c0) (X c1) (X c2))]) ?_ rfl ⟨rfl, ?_⟩
    · simp [results, Tryz.results116, go_sem, g0, g1, g2, g3]
    · have hb2 : Below w.heap.size w w1 := ((((((Below.refl _ _).alloc (Nat.le_refl _) _).alloc (by simp) _).alloc (by simp; omega) _).alloc (by simp; omega) _).drew.drew).trans (hb.mono (by simp; omega))
      exact (((hb2.setCell (by simp) _).setCell (by simp) _).setCell (by simp) _).setCell (by simp) _

theorem on_any (n : Nat) (hn : n < 20) (X : Nat → Int) (w : World) (hT : TabOk w) :
    Calls Tryz.prog 116 #[.int .i64 n, .agg #[.int .i64 (X 0), .int .i64 (X 1), .int .i64 (X 2), .int .i64 (X 3), .int .i64 (X 4), .int .i64 (X 5), .int .i64 (X 6), .int .i64 (X 7), .int .i64 (X 8), .int .i64 (X 9), .int .i64 (X 10), .int .i64 (X 11)]] w fun e w' =>
      e = .returned (.tuple #[.agg #[.int .i64 n, .int .i64 (X (cor n 0)), .int .i64 (X (cor n 1)), .int .i64 (X (cor n 2))], .bool (validB n (X (cor n 0)) (X (cor n 1)) (X (cor n 2)))]) ∧ Below w.heap.size w w' := by
  obtain ⟨a, b, c, _⟩ := cor_lt n hn
  exact on_core n hn _ _ _ a b c X w (hT.cor n 0 hn (by omega)) (hT.cor n 1 hn (by omega)) (hT.cor n 2 hn (by omega)) hT.pos

theorem set12 (c0 c1 c2 : Nat) (k0 : c0 < 12) (k1 : c1 < 12) (k2 : c2 < 12) (a b c : Int) : ∀ j, j < 12 → ∀ h, (((([.int .i64 0, .int .i64 0, .int .i64 0, .int .i64 0, .int .i64 0, .int .i64 0, .int .i64 0, .int .i64 0, .int .i64 0, .int .i64 0, .int .i64 0, .int .i64 0] : List Value).set c0 (.int .i64 a)).set c1 (.int .i64 b)).set c2 (.int .i64 c))[j]'h = .int .i64 (if j = c2 then c else if j = c1 then b else if j = c0 then a else 0) := by
  intro j hj h
  simp only [List.getElem_set]
  have hz : ([.int .i64 0, .int .i64 0, .int .i64 0, .int .i64 0, .int .i64 0, .int .i64 0, .int .i64 0, .int .i64 0, .int .i64 0, .int .i64 0, .int .i64 0, .int .i64 0] : List Value)[j]'(by simpa using hj) = .int .i64 0 := list12 (fun _ => 0) j hj _
  rw [hz]
  by_cases h2 : c2 = j
  · rw [if_pos h2, if_pos h2.symm]
  · rw [if_neg h2, if_neg (Ne.symm h2)]
    by_cases h1 : c1 = j
    · rw [if_pos h1, if_pos h1.symm]
    · rw [if_neg h1, if_neg (Ne.symm h1)]
      by_cases h0 : c0 = j
      · rw [if_pos h0, if_pos h0.symm]
      · rw [if_neg h0, if_neg (Ne.symm h0)]

set_option maxHeartbeats 2000000 in
theorem of_core (n : Nat) (hn : n < 20) (c0 c1 c2 : Nat) (k0 : c0 < 12) (k1 : c1 < 12) (k2 : c2 < 12) (n1 : c0 ≠ c1) (n2 : c0 ≠ c2) (n3 : c1 ≠ c2) (a b c : Int) (w : World) (h0 : w.cell? ⟨0, n * 3, none⟩ = some (.int .i64 c0)) (h1 : w.cell? ⟨0, n * 3 + 1, none⟩ = some (.int .i64 c1)) (h2 : w.cell? ⟨0, n * 3 + 2, none⟩ = some (.int .i64 c2)) (hz : 0 < w.heap.size)
    (Y : Nat → Int) (hY : ∀ j, j < 12 → ∀ h, (((([.int .i64 0, .int .i64 0, .int .i64 0, .int .i64 0, .int .i64 0, .int .i64 0, .int .i64 0, .int .i64 0, .int .i64 0, .int .i64 0, .int .i64 0, .int .i64 0] : List Value).set c0 (.int .i64 a)).set c1 (.int .i64 b)).set c2 (.int .i64 c))[j]'h = .int .i64 (Y j)) :
    Calls Tryz.prog 115 #[.agg #[.int .i64 n, .int .i64 a, .int .i64 b, .int .i64 c]] w fun e w' =>
      e = .returned (.agg #[.int .i64 (Y 0), .int .i64 (Y 1), .int .i64 (Y 2), .int .i64 (Y 3), .int .i64 (Y 4), .int .i64 (Y 5), .int .i64 (Y 6), .int .i64 (Y 7), .int .i64 (Y 8), .int .i64 (Y 9), .int .i64 (Y 10), .int .i64 (Y 11)]) ∧ Below w.heap.size w w' := by
  have m0 : (c0 : Int) < 12 := by omega
  have m1 : (c1 : Int) < 12 := by omega
  have m2 : (c2 : Int) < 12 := by omega
  have y0 := hY 0 (by omega)
  have y1 := hY 1 (by omega)
  have y2 := hY 2 (by omega)
  have y3 := hY 3 (by omega)
  have y4 := hY 4 (by omega)
  have y5 := hY 5 (by omega)
  have y6 := hY 6 (by omega)
  have y7 := hY 7 (by omega)
  have y8 := hY 8 (by omega)
  have y9 := hY 9 (by omega)
  have y10 := hY 10 (by omega)
  have y11 := hY 11 (by omega)
  clear hY
  go_enter Tryz.func115, Tryz.ntmps115
  go_wp2
  go_region
  go_wp2
  refine bodyPost_ret (v := .agg #[.int .i64 (Y 0), .int .i64 (Y 1), .int .i64 (Y 2), .int .i64 (Y 3), .int .i64 (Y 4), .int .i64 (Y 5), .int .i64 (Y 6), .int .i64 (Y 7), .int .i64 (Y 8), .int .i64 (Y 9), .int .i64 (Y 10), .int .i64 (Y 11)]) (by simp [results, Tryz.results115, go_sem]) rfl ⟨rfl, ?_⟩
  exact (((((Below.refl _ _).alloc (Nat.le_refl _) _).alloc (by simp) _).alloc (by simp; omega) _).alloc (by simp; omega) _).drew

theorem of_any (f a b c : Int) (hf0 : 0 ≤ f) (hf1 : f < 20) (w : World) (hT : TabOk w) :
    Calls Tryz.prog 115 #[.agg #[.int .i64 f, .int .i64 a, .int .i64 b, .int .i64 c]] w fun e w' =>
      e = .returned (.agg #[.int .i64 (wt f a b c 0), .int .i64 (wt f a b c 1), .int .i64 (wt f a b c 2), .int .i64 (wt f a b c 3), .int .i64 (wt f a b c 4), .int .i64 (wt f a b c 5), .int .i64 (wt f a b c 6), .int .i64 (wt f a b c 7), .int .i64 (wt f a b c 8), .int .i64 (wt f a b c 9), .int .i64 (wt f a b c 10), .int .i64 (wt f a b c 11)]) ∧ Below w.heap.size w w' := by
  obtain ⟨n, rfl⟩ := Int.eq_ofNat_of_zero_le hf0
  have hn : n < 20 := by omega
  obtain ⟨k0, k1, k2, n1, n2, n3⟩ := cor_lt n hn
  refine of_core n hn _ _ _ k0 k1 k2 n1 n2 n3 a b c w (hT.cor n 0 hn (by omega)) (hT.cor n 1 hn (by omega)) (hT.cor n 2 hn (by omega)) hT.pos (wt n a b c) ?_
  intro j hj h
  rw [set12 _ _ _ k0 k1 k2 a b c j hj h]
  unfold wt
  rw [show Int.toNat (n : Int) = n from rfl]
  by_cases h0 : j = cor n 0
  · rw [if_pos h0, if_neg (by omega), if_neg (by omega), if_pos h0]
  · rw [if_neg h0, if_neg h0]
    by_cases h1 : j = cor n 1
    · rw [if_pos h1, if_neg (by omega), if_pos h1]
    · rw [if_neg h1, if_neg h1]
end Go.Proofs.YtcoddcdiimpndaaGreatDoor
set_option linter.unusedVariables false
set_option linter.unusedSimpArgs false
namespace Go.Proofs.YtcoddcdiimpndaaGreatDoor
open Go.RowKit
set_option maxHeartbeats 2000000 in
theorem normal_core (f a b c : Int) (hv : validB f a b c = true) (w : World) (hT : TabOk w) (X : Nat → Int) (hX : wt f a b c = X) (m : Nat) (hm : m < 20) (h1 : okAt X m = true) (h2 : ∀ j, j < m → okAt X j = false) :
    Calls Tryz.prog 88 #[.agg #[.int .i64 f, .int .i64 a, .int .i64 b, .int .i64 c]] w fun e w' =>
      e = .returned (.tuple #[.agg #[.int .i64 m, .int .i64 (X (cor m 0)), .int .i64 (X (cor m 1)), .int .i64 (X (cor m 2))], .int .i64 0]) ∧ Below w.heap.size w w' := by
  have hf := (validB_iff ..).1 hv
  have HT := Lib.hid hT
  have H2 := Lib.hid h2
  have H1 := Lib.hid h1
  have hf0 := hf.1
  have hf1 := hf.2.1
  clear hT h1 h2 hf
  go_enter Tryz.func88, Tryz.ntmps88
  go_wp2_with fail
  refine (valid_any _ _ _ _ _).mono ?_
  rintro e w1 ⟨rfl, hb1⟩
  rw [hv]
  have hs1 := hb1.size
  simp at hs1
  have B1 : w1.heap[w.heap.size + 1]? = some (.cells #[.int .i64 0, .int .i64 0, .int .i64 0, .int .i64 0] 32 (0, 0)) := blk_below hb1 (by simpa using blk_new (w.alloc _) _) (by simp)
  have B0 : w1.heap[w.heap.size]? = some (.cells #[.int .i64 f, .int .i64 a, .int .i64 b, .int .i64 c] 32 (0, 0)) := blk_below hb1 (blk_old _ (blk_new w _)) (by simp only [World.size_alloc]; omega)
  have hbw1 : Below w.heap.size w w1 := below_then (((Below.refl _ _).alloc (Nat.le_refl _) _).alloc (by simp) _) hb1 (by simp; omega)
  have p0 := blk_cell B0 0 _ rfl
  have p1 := blk_cell B0 1 _ rfl
  have p2 := blk_cell B0 2 _ rfl
  have p3 := blk_cell B0 3 _ rfl
  have HB1 := Lib.hid B1
  have HBW1 := Lib.hid hbw1
  clear B1 B0 hb1 hbw1
  go_wp2_with fail
  refine (of_any f a b c hf0 hf1 _ (HT.out.below HBW1.out)).mono ?_
  rintro e w2 ⟨rfl, hb2⟩
  have hs2 := hb2.size
  have B2 := blk_below hb2 HB1.out (by omega)
  have HB2 := Lib.hid B2
  have hbw2 : Below w.heap.size w w2 := below_then HBW1.out hb2 HBW1.out.size
  have HT2 := Lib.hid (HT.out.below hbw2)
  have HBW2 := Lib.hid hbw2
  clear HT HB1 HBW1 hb2 p0 p1 p2 p3 hv B2 hbw2
  rw [hX]
  go_wp2
  go_loopw [14] (fun i wr => ∃ k : Nat, k ≤ m ∧ i = .int .i64 k ∧ Below (w2.heap.size + 1) (w2.alloc (.cells #[.int .i64 (X 0), .int .i64 (X 1), .int .i64 (X 2), .int .i64 (X 3), .int .i64 (X 4), .int .i64 (X 5), .int .i64 (X 6), .int .i64 (X 7), .int .i64 (X 8), .int .i64 (X 9), .int .i64 (X 10), .int .i64 (X 11)] 144)) wr) (fun i _ => 20 - (intOf i).toNat)
  case atStart => exact ⟨0, Nat.zero_le _, rfl, Below.refl _ _⟩
  case round =>
    obtain ⟨k, hk, rfl, hb⟩ := hrel
    have hk20 : k < 20 := by omega
    have hsz := hb.size
    simp at hsz
    have HBR := Lib.hid hb
    have BX := blk_below hb (blk_new w2 _) (by omega)
    have x0 := blk_cell BX 0 (.int .i64 (X 0)) rfl
    have x1 := blk_cell BX 1 (.int .i64 (X 1)) rfl
    have x2 := blk_cell BX 2 (.int .i64 (X 2)) rfl
    have x3 := blk_cell BX 3 (.int .i64 (X 3)) rfl
    have x4 := blk_cell BX 4 (.int .i64 (X 4)) rfl
    have x5 := blk_cell BX 5 (.int .i64 (X 5)) rfl
    have x6 := blk_cell BX 6 (.int .i64 (X 6)) rfl
    have x7 := blk_cell BX 7 (.int .i64 (X 7)) rfl
    have x8 := blk_cell BX 8 (.int .i64 (X 8)) rfl
    have x9 := blk_cell BX 9 (.int .i64 (X 9)) rfl
    have x10 := blk_cell BX 10 (.int .i64 (X 10)) rfl
    have x11 := blk_cell BX 11 (.int .i64 (X 11)) rfl
    have BR := blk_below hb (blk_old _ HB2.out) (by omega)
    have HTr := Lib.hid (HT2.out.below ((Below.refl _ _).alloc (Nat.le_refl _) _ |>.trans (hb.mono (by omega))))
    have HBR2 := Lib.hid BR
    clear BX BR hb
    go_wp2_with fail
    refine (on_any k hk20 X _ HTr.out).mono ?_
    rintro e w3 ⟨rfl, hb3⟩
    clear x0 x1 x2 x3 x4 x5 x6 x7 x8 x9 x10 x11
    have hs3 := hb3.size
    have B3 := blk_below hb3 HBR2.out (by omega)
    have y0 := blk_cell B3 0 (.int .i64 0) rfl
    have y1 := blk_cell B3 1 (.int .i64 0) rfl
    have y2 := blk_cell B3 2 (.int .i64 0) rfl
    have y3 := blk_cell B3 3 (.int .i64 0) rfl
    have yf := blk_free B3
    have hb4 := HBR.out.trans (hb3.mono hsz)
    have HB4 := Lib.hid hb4
    have hz3 : w.heap.size + 1 < w3.heap.size := blk_lt B3
    clear HBR2 B3 HTr hb3 hb4
    rcases Nat.lt_or_ge k m with hkm | hkm
    · have hno := H2.out k hkm
      unfold okAt at hno
      rw [hno]
      go_wp2
      go_roundw
      case rel => exact ⟨k + 1, by omega, by go_num, below_then HB4.out ((Below.refl _ _).alloc (Nat.le_refl _) _) (Nat.le_trans hsz hs3)⟩
      case measure => simp [intOf]; omega
    · obtain rfl : k = m := Nat.le_antisymm hk hkm
      have hyes := H1.out
      unfold okAt at hyes
      rw [hyes]
      go_wp2
      refine bodyPost_ret (v := .tuple #[.agg #[.int .i64 k, .int .i64 (X (cor k 0)), .int .i64 (X (cor k 1)), .int .i64 (X (cor k 2))], .int .i64 0]) (by simp [results, Tryz.results88, go_sem, y0, y1, y2, y3, hz3]) rfl ⟨rfl, ?_⟩
      repeat (first | refine below_alloc ?_ _ | refine Below.drew ?_ | refine Below.setCell ?_ (by exact Nat.le_succ _) _)
      exact (HBW2.out.alloc HBW2.out.size _).trans (HB4.out.mono (Nat.le_succ_of_le HBW2.out.size))

/-- The normal place of a valid one. -/
theorem normal_yes (f a b c : Int) (hv : validB f a b c = true) (w : World) (hT : TabOk w) :
    Calls Tryz.prog 88 #[.agg #[.int .i64 f, .int .i64 a, .int .i64 b, .int .i64 c]] w fun e w' =>
      e = .returned (.tuple #[.agg #[.int .i64 (nf f a b c), .int .i64 (nc f a b c 0), .int .i64 (nc f a b c 1), .int .i64 (nc f a b c 2)], .int .i64 0]) ∧ Below w.heap.size w w' := by
  obtain ⟨h1, _, h2, h3⟩ := nf_spec f a b c hv
  exact normal_core f a b c hv w hT _ rfl _ h1 h2 h3

/-- Of an invalid place. -/
theorem normal_no (f a b c : Int) (hv : validB f a b c = false) (w : World) :
    Calls Tryz.prog 88 #[.agg #[.int .i64 f, .int .i64 a, .int .i64 b, .int .i64 c]] w fun e w' =>
      e = .returned (.tuple #[.agg #[.int .i64 0, .int .i64 0, .int .i64 0, .int .i64 0], .int .i64 1]) ∧ Below w.heap.size w w' := by
  go_enter Tryz.func88, Tryz.ntmps88
  go_wp2_with fail
  refine (valid_any _ _ _ _ _).mono ?_
  rintro e w1 ⟨rfl, hb1⟩
  rw [hv]
  have hs1 := hb1.size
  simp at hs1
  have B1 : w1.heap[w.heap.size + 1]? = some (.cells #[.int .i64 0, .int .i64 0, .int .i64 0, .int .i64 0] 32 (0, 0)) := blk_below hb1 (by simpa using blk_new (w.alloc _) _) (by simp)
  have hbw1 : Below w.heap.size w w1 := below_then (((Below.refl _ _).alloc (Nat.le_refl _) _).alloc (by simp) _) hb1 (by simp; omega)
  have y0 := blk_cell B1 0 (.int .i64 0) rfl
  have y1 := blk_cell B1 1 (.int .i64 0) rfl
  have y2 := blk_cell B1 2 (.int .i64 0) rfl
  have y3 := blk_cell B1 3 (.int .i64 0) rfl
  have yf := blk_free B1
  have hz3 : w.heap.size + 1 < w1.heap.size := by omega
  have HBW1 := Lib.hid hbw1
  clear B1 hbw1 hb1
  go_wp2
  refine bodyPost_ret (v := .tuple #[.agg #[.int .i64 0, .int .i64 0, .int .i64 0, .int .i64 0], .int .i64 1]) (by simp [results, Tryz.results88, go_sem, y0, y1, y2, y3, hz3]) rfl ⟨rfl, ?_⟩
  repeat (first | refine below_alloc ?_ _ | refine Below.drew ?_ | refine Below.setCell ?_ (by exact Nat.le_succ _) _)
  exact HBW1.out
end Go.Proofs.YtcoddcdiimpndaaGreatDoor
set_option linter.unusedVariables false
set_option linter.unusedSimpArgs false
namespace Go.Proofs.YtcoddcdiimpndaaGreatDoor
/-- A place. -/
structure Pl where
  f : Int
  a : Int
  b : Int
  c : Int
deriving DecidableEq
def plN (h n f a b : Nat) : Pl := ⟨f, a * h, b * h, ((n : Int) - a - b) * h⟩
/-- Is the normal place of p the place p itself? -/
def qEq (f a b c : Int) : Bool := (nf f a b c : Int) == f && (nc f a b c 0 == a && (nc f a b c 1 == b && nc f a b c 2 == c))
def isNode (p : Pl) : Bool := qEq p.f p.a p.b p.c
def rowTo (h n f a b : Nat) : List Pl := ((List.range b).map (plN h n f a)).filter isNode
def colTo (h n f a : Nat) : List Pl := (List.range a).flatMap fun i => rowTo h n f i (n + 1 - i)
def nodesTo (h n f : Nat) : List Pl := (List.range f).flatMap fun g => colTo h n g (n + 1)
def nodes (n : Nat) : List Pl := nodesTo (840 / n) n 20
theorem rowTo_yes (h n f a b : Nat) (hy : isNode (plN h n f a b) = true) : rowTo h n f a (b + 1) = rowTo h n f a b ++ [plN h n f a b] := by simp [rowTo, List.range_succ, hy]
theorem rowTo_no (h n f a b : Nat) (hy : isNode (plN h n f a b) = false) : rowTo h n f a (b + 1) = rowTo h n f a b := by simp [rowTo, List.range_succ, hy]
theorem colTo_succ (h n f a : Nat) : colTo h n f (a + 1) = colTo h n f a ++ rowTo h n f a (n + 1 - a) := by simp [colTo, List.range_succ, List.flatMap_append]
theorem nodesTo_succ (h n f : Nat) : nodesTo h n (f + 1) = nodesTo h n f ++ colTo h n f (n + 1) := by simp [nodesTo, List.range_succ, List.flatMap_append]
/-- What has been listed ahead of (f, a, b). -/
def ptsTo (h n f a b : Nat) : List Pl := nodesTo h n f ++ colTo h n f a ++ rowTo h n f a b
theorem ptsTo_zero (h n : Nat) : ptsTo h n 0 0 0 = [] := rfl
theorem ptsTo_yes (h n f a b : Nat) (hy : isNode (plN h n f a b) = true) : ptsTo h n f a (b + 1) = ptsTo h n f a b ++ [plN h n f a b] := by simp [ptsTo, rowTo_yes h n f a b hy]
theorem ptsTo_no (h n f a b : Nat) (hy : isNode (plN h n f a b) = false) : ptsTo h n f a (b + 1) = ptsTo h n f a b := by simp [ptsTo, rowTo_no h n f a b hy]
theorem ptsTo_a (h n f a : Nat) : ptsTo h n f (a + 1) 0 = ptsTo h n f a (n + 1 - a) := by simp [ptsTo, colTo_succ, rowTo]
theorem ptsTo_f (h n f : Nat) : ptsTo h n (f + 1) 0 0 = ptsTo h n f (n + 1) 0 := by simp [ptsTo, nodesTo_succ, rowTo, colTo]
theorem ptsTo_end (n : Nat) : ptsTo (840 / n) n 20 0 0 = nodes n := by simp [ptsTo, nodes, rowTo, colTo]
end Go.Proofs.YtcoddcdiimpndaaGreatDoor
