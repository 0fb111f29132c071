/-
  The reader of numbers that the statements share: New, Raw, Mod, N, Range.
-/
import Derived.Test.YtcoddcdiimpndaaGreatDoorM01
import Derived.Test.YtcoddcdiimpndaaGreatDoorM02
import Derived.OpenShut
import Derived.ProofKit
set_option linter.unusedVariables false
set_option linter.unusedSimpArgs false
namespace Go.Proofs.YtcoddcdiimpndaaGreatDoor
open Go.RowKit
/-- Behind b lies a reader of numbers; its list lies below B. -/
structure SrcAt (w : World) (b B : Nat) (A : Option Addr) (n cap : Nat) (Z : Nat → Int) (k : Nat) : Prop where
  blk : w.heap[b]? = some (.cells #[.slice A n cap, .int .i64 (k : Nat)] 95 (0, 0))
  le : k ≤ n
  most : n ≤ 2000
  cells : ∀ i, i < n → ∃ a, A = some a ∧ w.cell? (a.add i) = some (.int .i64 (Z i)) ∧ a.block < B
  up : B ≤ b
def SrcOk (w : World) (b B : Nat) : Prop := ∃ A n cap Z k, SrcAt w b B A n cap Z k
theorem add_block (a : Addr) (i : Nat) : (a.add i).block = a.block := by unfold Addr.add; split <;> rfl
theorem SrcOk.grown {w w' : World} {b B : Nat} {row : Option Nat} (h : SrcOk w b B) (hg : w.grownBy w' row) (hb : some b ≠ row) (hr : ∀ r, row = some r → B ≤ r) : SrcOk w' b B := by
  obtain ⟨A, n, cap, Z, k, H⟩ := h
  refine ⟨A, n, cap, Z, k, (hg.block b (blk_lt H.blk) hb).trans H.blk, H.le, H.most, fun i hi => ?_, H.up⟩
  obtain ⟨a, ha, hc, hB⟩ := H.cells i hi
  refine ⟨a, ha, hg.cell hc (fun e => ?_), hB⟩
  rw [add_block] at e
  have := hr _ e.symm
  omega
theorem SrcOk.below {w w' : World} {b B C : Nat} (h : SrcOk w b B) (hb : Below C w w') (hC : b < C) : SrcOk w' b B := by
  obtain ⟨A, n, cap, Z, k, H⟩ := h
  refine ⟨A, n, cap, Z, k, blk_below hb H.blk hC, H.le, H.most, fun i hi => ?_, H.up⟩
  obtain ⟨a, ha, hc, hB⟩ := H.cells i hi
  refine ⟨a, ha, (hb.cell (p := a.add i) ?_).trans hc, hB⟩
  rw [add_block]
  have := H.up
  omega
set_option maxHeartbeats 1000000 in
theorem mod_any (x n : Int) (hn : 1 ≤ n) (hn2 : n ≤ 1000000000) (w : World) : Calls Tryz.prog 12 #[.int .i64 x, .int .i64 n] w fun e w' => e = .returned (.int .i64 (x % n)) ∧ w = w' := by
  have hd : decide (n < 1) = false := decide_eq_false (by omega)
  have h1 := Int.tmod_lt_of_pos x (show 0 < n by omega)
  have h2 := Int.lt_tmod_of_pos x (show 0 < n by omega)
  have h3 := Int.tmod_eq_emod_of_nonneg (a := x) (b := n)
  have hpos := Int.emod_nonneg x (show n ≠ 0 by omega)
  have hlt := Int.emod_lt_of_pos x (show 0 < n by omega)
  have hm := Int.mul_tdiv_add_tmod x n
  have he := Int.mul_ediv_add_emod x n
  by_cases hx : x.tmod n < 0
  · have hdx : decide (x.tmod n < 0) = true := decide_eq_true hx
    have hq : x % n = x.tmod n + n := by
      have e1 : n * (x.tdiv n - x / n) = x % n - x.tmod n := by rw [Int.mul_sub]; omega
      have e2 : x.tdiv n - x / n = 1 := by
        rcases Int.lt_or_le (x.tdiv n - x / n) 1 with q | q
        · have : n * (x.tdiv n - x / n) ≤ n * 0 := Int.mul_le_mul_of_nonneg_left (by omega) (by omega)
          omega
        · rcases Int.lt_or_le (x.tdiv n - x / n) 2 with r | r
          · omega
          · have : n * 2 ≤ n * (x.tdiv n - x / n) := Int.mul_le_mul_of_nonneg_left r (by omega)
            omega
      rw [e2] at e1
      omega
    rw [hq]
    clear hq h3 hpos hlt hm he
    go_enter Tryz.func12, Tryz.ntmps12
    go_wp2
    go_ret
    exact ⟨rfl, rfl⟩
  · have hdx : decide (x.tmod n < 0) = false := decide_eq_false hx
    have hq : x % n = x.tmod n := by
      have e1 : n * (x.tdiv n - x / n) = x % n - x.tmod n := by rw [Int.mul_sub]; omega
      have e2 : x.tdiv n - x / n = 0 := by
        rcases Int.lt_or_le (x.tdiv n - x / n) 0 with q | q
        · have : n * (x.tdiv n - x / n) ≤ n * (-1) := Int.mul_le_mul_of_nonneg_left (by omega) (by omega)
          omega
        · rcases Int.lt_or_le (x.tdiv n - x / n) 1 with r | r
          · omega
          · have : n * 1 ≤ n * (x.tdiv n - x / n) := Int.mul_le_mul_of_nonneg_left r (by omega)
            omega
      rw [e2] at e1
      omega
    rw [hq]
    clear hq h3 hpos hlt hm he
    go_enter Tryz.func12, Tryz.ntmps12
    go_wp2
    go_ret
    exact ⟨rfl, rfl⟩
set_option maxHeartbeats 2000000 in
theorem raw_any (w : World) (b B : Nat) (h : SrcOk w b B) : Calls Tryz.prog 65 #[.pointer (some ⟨b, 0, none⟩)] w fun e w' => ∃ x : Int, e = .returned (.int .i64 x) ∧ SrcOk w' b B ∧ w.grownBy w' (some b) := by
  obtain ⟨A, n, cap, Z, k, H⟩ := h
  have c0 := blk_cell H.blk 0 (.slice A n cap) rfl
  have c1 := blk_cell H.blk 1 (.int .i64 (k : Nat)) rfl
  have f1 := blk_free H.blk 1
  have hlt := blk_lt H.blk
  have hle := H.le
  have hmost := H.most
  have HH := Lib.hid H
  clear H
  by_cases hk : k < n
  · obtain ⟨a, rfl, hc, ha⟩ := HH.out.cells k hk
    have hkn : ((k : Int)) < (n : Int) := by omega
    have hd : decide (n ≤ k) = false := decide_eq_false (by omega)
    have hd2 : decide ((n : Int) ≤ (k : Int)) = false := decide_eq_false (by omega)
    have hne : ¬ a.block = b := by have := HH.out.up; omega
    go_enter Tryz.func65, Tryz.ntmps65
    go_wp2_with fail
    go_quiet (fail)
    go_wp2_with fail
    obtain ⟨W, hW⟩ : ∃ W, W = (w.drewN nq).setCell ⟨b, 1, none⟩ (.int .i64 ((k : Int) + 1)) := ⟨_, rfl⟩
    rw [← hW]
    have hblk : W.heap[b]? = some (.cells #[.slice (some a) n cap, .int .i64 ((k : Int) + 1)] 95 (0, 0)) := by
      rw [hW]
      exact heap_setCell_same (w.drewN nq) b 1 _ _ _ HH.out.blk
    have hg : w.grownBy W (some b) := by
      rw [hW]
      have := setCell_grown (w.drewN nq) ⟨b, 1, none⟩ (.int .i64 ((k : Int) + 1))
      exact ⟨this.os, this.tape, this.output, this.size, this.block⟩
    have HG := Lib.hid hg
    have hca : ∀ i, i < n → W.cell? (a.add i) = some (.int .i64 (Z i)) := fun i hi => by
      obtain ⟨a', ha', hc', hb'⟩ := HH.out.cells i hi
      obtain rfl := Option.some.inj ha'
      exact hg.cell hc' (fun e => by rw [add_block] at e; exact hne (Option.some.inj e))
    have HCA := Lib.hid hca
    have hcc := hca k hk
    have HBL := Lib.hid hblk
    have d0 := blk_cell hblk 0 (.slice (some a) n cap) rfl
    have d1 := blk_cell hblk 1 (.int .i64 ((k : Int) + 1)) rfl
    clear c0 c1 f1 hc hblk hg hca hW
    go_quiet (fail)
    go_wp2_with fail
    go_ret
    refine ⟨Z k, rfl, ⟨some a, n, cap, Z, k + 1, ?_, by omega, hmost, fun i hi => ⟨a, rfl, HCA.out i hi, ha⟩, HH.out.up⟩, ?_⟩
    · exact HBL.out
    · exact ⟨HG.out.os, HG.out.tape, HG.out.output, HG.out.size, HG.out.block⟩
  · have hd : decide (n ≤ k) = true := decide_eq_true (by omega)
    have hd2 : decide ((n : Int) ≤ (k : Int)) = true := decide_eq_true (by omega)
    go_enter Tryz.func65, Tryz.ntmps65
    go_wp2_with fail
    go_quiet (fail)
    go_wp2_with fail
    go_ret
    exact ⟨0, rfl, ⟨A, n, cap, Z, k, HH.out.blk, hle, hmost, HH.out.cells, HH.out.up⟩, ⟨rfl, rfl, rfl, Nat.le_refl _, fun _ _ _ => rfl⟩⟩
theorem n_any (n : Int) (hn : 1 ≤ n) (hn2 : n ≤ 1000000000) (w : World) (b B : Nat) (h : SrcOk w b B) : Calls Tryz.prog 32 #[.pointer (some ⟨b, 0, none⟩), .int .i64 n] w fun e w' => ∃ x : Int, e = .returned (.int .i64 x) ∧ 0 ≤ x ∧ x < n ∧ SrcOk w' b B ∧ w.grownBy w' (some b) := by
  have HR := Lib.hid (raw_any w b B h)
  clear h
  go_enter Tryz.func32, Tryz.ntmps32
  go_wp2_with fail
  refine HR.out.mono ?_
  rintro e w1 ⟨x, rfl, hs, hg⟩
  have HS := Lib.hid hs
  have HG := Lib.hid hg
  clear hs hg
  go_wp2_with fail
  refine (mod_any x n hn hn2 _).mono ?_
  rintro e w2 ⟨rfl, rfl⟩
  go_wp2_with fail
  go_ret
  exact ⟨_, rfl, Int.emod_nonneg x (by omega), Int.emod_lt_of_pos x (by omega), HS.out, HG.out⟩
theorem range_any (lo hi : Int) (h0 : -1000000 ≤ lo) (h1 : lo ≤ hi) (h2 : hi ≤ 1000000) (w : World) (b B : Nat) (h : SrcOk w b B) : Calls Tryz.prog 25 #[.pointer (some ⟨b, 0, none⟩), .int .i64 lo, .int .i64 hi] w fun e w' => ∃ x : Int, e = .returned (.int .i64 x) ∧ lo ≤ x ∧ x ≤ hi ∧ SrcOk w' b B ∧ w.grownBy w' (some b) := by
  have HR := Lib.hid (n_any (hi - lo + 1) (by omega) (by omega) w b B h)
  clear h
  go_enter Tryz.func25, Tryz.ntmps25
  go_wp2_with fail
  refine HR.out.mono ?_
  rintro e w1 ⟨x, rfl, hx0, hx1, hs, hg⟩
  have HS := Lib.hid hs
  have HG := Lib.hid hg
  clear hs hg
  go_wp2_with fail
  go_ret
  exact ⟨_, rfl, by omega, by omega, HS.out, HG.out⟩
/-- A list of numbers as an argument reads. -/
def IntsArg (w : World) (v : Value) : Prop := v = .slice none 0 0 ∨ ∃ (a : Addr) (len cap : Nat) (Z : Nat → Int), v = .slice (some a) len cap ∧ len ≤ cap ∧ cap ≤ maxLen ∧ (∀ i, i < len → w.cell? (a.add i) = some (.int .i64 (Z i)))
theorem cell_ltk {w : World} {p : Addr} {v : Value} (h : w.cell? p = some v) : p.block < w.heap.size := by
  rcases Nat.lt_or_ge p.block w.heap.size with h1 | h1
  · exact h1
  · simp [World.cell?, Array.getElem?_eq_none h1] at h
theorem add_zero_addr (a : Addr) : a.add 0 = a := by unfold Addr.add; split <;> simp_all
set_option maxHeartbeats 1000000 in
theorem new_any (v : Value) (w : World) (h : IntsArg w v) : Calls Tryz.prog 24 #[v] w fun e w' => e = .returned (.pointer (some ⟨w.heap.size, 0, none⟩)) ∧ SrcOk w' w.heap.size w.heap.size ∧ Below w.heap.size w w' := by
  rcases h with rfl | ⟨a, len, cap, Z, rfl, hl, hm, hc⟩
  · go_enter Tryz.func24, Tryz.ntmps24
    go_wp2_with fail
    go_ret
    exact ⟨rfl, ⟨none, 0, 0, fun _ => 0, 0, blk_new w _, Nat.le_refl _, by omega, fun i hi => absurd hi (Nat.not_lt_zero _), Nat.le_refl _⟩, (Below.refl _ _).alloc (Nat.le_refl _) _⟩
  · have hm2 : cap ≤ 9223372036854775807 := by unfold maxLen at hm; omega
    have HC := Lib.hid hc
    have hs : ∀ W, (sizeOf (Tryz.prog.elem 23)).run Tryz.prog W = .ok 1 W := fun W => by rw [show Tryz.prog.elem 23 = 3 from by simp [Program.elem, Tryz.underlying23]]; exact Tryz.sizeOf3 W
    have hbl : ∀ i, i < len → a.block < w.heap.size := fun i hi => by have := cell_ltk (HC.out i hi); rwa [add_block] at this
    have HBL := Lib.hid hbl
    have hu : Tryz.prog.underlying 23 = some (.slice (Tryz.prog.elem 23)) := by rw [show Tryz.prog.elem 23 = 3 from by simp [Program.elem, Tryz.underlying23]]; exact Tryz.underlying23
    clear hc hm hbl
    by_cases hle : len ≤ 2000
    · have hleI : (len : Int) ≤ 2000 := by omega
      have hsl : ∀ W, (Instr.slice 23 (.slice (some a) len cap) none (some (.int .i64 (len : Int))) none).run Tryz.prog W = .ok (.slice (some a) len cap) W := by
        intro W
        rw [run_slice_h W 23 (some a) len cap hu .i64 len (by omega) (by omega), hs]
        simp [sliced, add_zero_addr]
      clear hs hu
      go_enter Tryz.func24, Tryz.ntmps24
      go_wp2_with fail
      go_ret
      exact ⟨rfl, ⟨some a, len, cap, Z, 0, blk_new w _, Nat.zero_le _, hle, fun i hi => ⟨a, rfl, (((Below.refl _ _).alloc (Nat.le_refl _) _).cell (p := a.add i) (by rw [add_block]; exact HBL.out i hi)).trans (HC.out i hi), HBL.out i hi⟩, Nat.le_refl _⟩, (Below.refl _ _).alloc (Nat.le_refl _) _⟩
    · have hleI : decide ((len : Int) ≤ 2000) = false := decide_eq_false (by omega)
      have hleJ : (2000 : Int) < (len : Int) := by omega
      have hsl : ∀ W, (Instr.slice 23 (.slice (some a) len cap) none (some (.int .i64 2000)) none).run Tryz.prog W = .ok (.slice (some a) 2000 cap) W := by
        intro W
        rw [run_slice_h W 23 (some a) len cap hu .i64 2000 (by omega) (by omega), hs]
        simp [sliced, add_zero_addr]
      clear hs hu
      go_enter Tryz.func24, Tryz.ntmps24
      go_wp2_with fail
      go_ret
      exact ⟨rfl, ⟨some a, 2000, cap, Z, 0, blk_new w _, Nat.zero_le _, Nat.le_refl _, fun i hi => ⟨a, rfl, (((Below.refl _ _).alloc (Nat.le_refl _) _).cell (p := a.add i) (by rw [add_block]; exact HBL.out i (by omega))).trans (HC.out i (by omega)), HBL.out i (by omega)⟩, Nat.le_refl _⟩, (Below.refl _ _).alloc (Nat.le_refl _) _⟩
end Go.Proofs.YtcoddcdiimpndaaGreatDoor
