/-
  The walk of slices.Repeat at a slice of one number: N copies of it in a new row.
-/
import Derived.Test.YtcoddcdiimpndaaGreatDoorM23
import Derived.Test.YtcoddcdiimpndaaGreatDoorM01
import Derived.Deep.OwnRows
import Derived.Outline
import Derived.Deep.RegionHeldLaw
import Derived.Deep.DeepCutAuto
import Derived.Deep.RegionHeld3
import Derived.Deep.RegionLaw
import Derived.Laws.CopyOwn
import Derived.Laws.OwnMore
set_option linter.unusedVariables false
set_option linter.unusedSimpArgs false
namespace Go.Proofs.YtcoddcdiimpndaaGreatDoor
open Go.RowKit
theorem mul_once (N : Nat) (hN : N ≤ 1000000) (w : World) : Calls Tryz.prog 123 #[.int .u64 1, .int .u64 N] w fun e w' => e = .returned (.tuple #[.int .u64 0, .int .u64 N]) ∧ w = w' := by
  refine (Any.bits_Mul Tryz.bitsMul 1 N (by omega) (by omega) w).mono ?_
  rintro e w' ⟨rfl, rfl⟩
  refine ⟨?_, rfl⟩
  rw [Nat.one_mul, Nat.div_eq_of_lt (by omega), Nat.mod_eq_of_lt (by omega)]
  rfl
def repN (x : Int) (m N : Nat) : List Value := List.replicate m (.int .i64 x) ++ List.replicate (N - m) (.int .i64 0)
theorem repN_len (x : Int) (m N : Nat) (h : m ≤ N) : (repN x m N).length = N := by simp [repN]; omega
theorem repN_splice (x : Int) (m c N : Nat) (h : m + c ≤ N) : splice (repN x m N) m (List.replicate c (.int .i64 x)) = repN x (m + c) N := by
  unfold splice repN
  have e1 : (List.replicate m (Value.int .i64 x) ++ List.replicate (N - m) (Value.int .i64 0)).take m = List.replicate m (.int .i64 x) := List.take_left' (by simp)
  have e2 : (List.replicate m (Value.int .i64 x) ++ List.replicate (N - m) (Value.int .i64 0)).drop (m + c) = List.replicate (N - (m + c)) (.int .i64 0) := by
    rw [List.drop_append, List.length_replicate, List.drop_replicate, List.drop_replicate, show m - (m + c) = 0 by omega, show N - m - (m + c - m) = N - (m + c) by omega]
    simp
  rw [e1, List.length_replicate, e2, ← List.append_assoc, List.replicate_append_replicate]
theorem repN_get (x : Int) (m N j : Nat) (h : j < m) : (repN x m N)[j]? = some (.int .i64 x) := by
  unfold repN
  rw [List.getElem?_append_left (by simpa using h), List.getElem?_replicate, if_pos h]
set_option maxRecDepth 100000 in
set_option maxHeartbeats 2000000 in
theorem repeat_any (x : Int) (N : Nat) (h1 : 1 ≤ N) (hN : N ≤ 1000000) (w : World) (b : Nat) (hb : w.cell? ⟨b, 0, none⟩ = some (.int .i64 x)) :
    Calls Tryz.prog 105 #[.slice (some ⟨b, 0, none⟩) 1 1, .int .i64 N] w fun e w' => e = .returned (.slice (some ⟨w.heap.size, 0, none⟩) N N) ∧ w'.rowIs w.heap.size 3 N (fun _ => .int .i64 x) ∧ Below w.heap.size w w' := by
  have HM := Lib.hid (fun W => mul_once N hN W)
  have hmk : ∀ W : World, (Instr.makeSlice 23 (.int .i64 (N : Int)) (.int .i64 (N : Int))).run Tryz.prog W = .ok (.slice (some ⟨W.heap.size, 0, none⟩) N N) (W.alloc (.cells (madeCells #[.int .i64 0] N) 3)) := fun W => run_make_row' 23 3 (.int .i64 0) 8 (by rfl) (by kernel_rfl) rfl .i64 .i64 N (by omega) (by omega) W
  have hbl : b < w.heap.size := by
    rcases Nat.lt_or_ge b w.heap.size with h2 | h2
    · exact h2
    · simp [World.cell?, Array.getElem?_eq_none h2] at hb
  have hd0 : decide ((N : Int) < 0) = false := decide_eq_false (by omega)
  have hd1 : decide ((9223372036854775807 : Int) < (N : Int)) = false := decide_eq_false (by omega)
  have HB := Lib.hid hb
  clear hb
  go_enter Tryz.func105, Tryz.ntmps105
  go_wp2_with fail
  refine (HM.out _).mono ?_
  rintro e w1 ⟨rfl, rfl⟩
  go_upto_region 7 with fail
  obtain ⟨g, hg⟩ : ∃ g, g = w.heap.size := ⟨_, rfl⟩
  obtain ⟨W2, hW2⟩ : ∃ W2, W2 = w.alloc (.cells (madeCells #[.int .i64 0] N) 3) := ⟨_, rfl⟩
  have hgb : b < g := by omega
  have HG2 := Lib.hid (show W2.heap[g]? = some (.cells (repN x 0 N).toArray 3 (0, 0)) by
    rw [hW2, hg, blk_new]
    congr 2
    apply Array.toList_inj.1
    rw [toList_madeCells_one]
    simp [repN])
  have HB2 := Lib.hid (show Below g w W2 by rw [hW2, hg]; exact (Below.refl _ _).alloc (Nat.le_refl _) _)
  have HC2 := Lib.hid (show W2.cell? ⟨b, 0, none⟩ = some (.int .i64 x) by rw [← HB.out]; exact HB2.out.cell (p := ⟨b, 0, none⟩) hgb)
  rw [← hW2]
  rw [← hg]
  have HGE := Lib.hid hg
  clear hW2 hg hbl hmk
  go_wp2_with (with_reducible refine wpList_copy_splice rfl (.tmp 31) (.tmp 32) 23 23 rfl 3 Tryz.underlying23 (by kernel_rfl) (some ⟨g, 0, none⟩) (some ⟨b, 0, none⟩) N N 1 1 rfl rfl g 0 (repN x 0 N) 3 HG2.out [.int .i64 x] ?c1 ?c2 ?c3 ?c4 g w HB2.out (Nat.le_refl _) ?c5)
  case c1 => show 1 = min 1 N; omega
  case c2 =>
    intro j v hj
    have : j = 0 := by
      rcases j with _ | j
      · rfl
      · simp at hj
    subst this
    simp at hj
    subst hj
    exact HC2.out
  case c3 => simp [repN_len]; omega
  case c4 => simp [Value.oneCell']
  intro w3 hg3 hb3
  have HG3 := Lib.hid (show w3.heap[g]? = some (.cells (repN x 1 N).toArray 3 (0, 0)) by rw [← show splice (repN x 0 N) 0 [.int .i64 x] = repN x 1 N from repN_splice x 0 1 N (by omega)]; exact hg3.out)
  have HB3 := Lib.hid hb3
  clear hg3 hb3 HG2 HB2 HC2
  go_wp2_with fail
  go_loopw [8] (fun n wr => ∃ m : Nat, 1 ≤ m ∧ m ≤ N ∧ n = .int .i64 m ∧ Below g w wr ∧ wr.heap[g]? = some (.cells (repN x m N).toArray 3 (0, 0))) (fun n _ => N - (intOf n).toNat)
  case atStart => exact ⟨1, Nat.le_refl _, h1, rfl, HB3.out, HG3.out⟩
  case round =>
    obtain ⟨m, hm1, hmN, rfl, hb, hg⟩ := hrel
    have HBB := Lib.hid hb
    have HGG := Lib.hid hg
    clear hb hg HB3 HG3
    by_cases hlt : m < N
    · have hltI : (m : Int) < (N : Int) := by omega
      have hmi : (m : Int) ≤ (N : Int) := by omega
      obtain ⟨c, hc⟩ : ∃ c : Nat, c = min m (N - m) := ⟨_, rfl⟩
      have hcp : 1 ≤ c := by omega
      have hcm : c ≤ m := by omega
      have hmc : m + c ≤ N := by omega
      have HC := Lib.hid hc
      clear hc
      have hNm : ¬ N = m := by omega
      have hNm' : ¬ m = N := by omega
      have HN1 : Hid ((List.replicate c (Value.int .i64 x)).length = Nat.min m (N - m)) := Lib.hid (by rw [List.length_replicate, HC.out])
      have HS1 : Hid (∀ j v, (List.replicate c (Value.int .i64 x))[j]? = some v → wr.cell? (Addr.add ⟨g, 0, none⟩ j) = some v) := Lib.hid (fun j v hj => by
        rw [List.getElem?_replicate] at hj
        split at hj
        · rename_i hjc
          injection hj with hj
          subst hj
          rw [show Addr.add ⟨g, 0, none⟩ j = ⟨g, j, none⟩ by unfold Addr.add; split <;> simp_all]
          exact blk_cell HGG.out j _ (by rw [List.getElem?_toArray]; exact repN_get x m N j (by omega))
        · cases hj)
      have HF1 : Hid (m + (List.replicate c (Value.int .i64 x)).length ≤ (repN x m N).length) := Lib.hid (by rw [List.length_replicate, repN_len _ _ _ hmN]; exact hmc)
      have HO1 : Hid (∀ v ∈ List.replicate c (Value.int .i64 x), v.oneCell' = true) := Lib.hid (by intro v hv; rw [List.eq_of_mem_replicate hv]; rfl)
      go_wp2_with fail
      refine wp_region_noPanic ?_
      have HWR := Lib.hid (show IntKind.i64.wrap ((m : Int) + (c : Int)) = (m : Int) + (c : Int) from IntWalk.i64_in _ (by omega))
      have hcw : wr.cell? ⟨b, 0, none⟩ = some (.int .i64 x) := (HBB.out.cell (p := ⟨b, 0, none⟩) hgb).trans HB.out
      refine wp_region_held_drew (S := fun w' => w'.cell? ⟨b, 0, none⟩ = some (.int .i64 x)) (by kernel_rfl) (by go_simp) (fun hHeld => ?_)
      refine wpAnyH_take (i := 0) (v := ?_) (by simp only [List.getElem?_toArray, List.getElem?_cons_zero, List.getElem?_cons_succ]; rfl) (by kernel_rfl) (by kernel_rfl) (by kernel_rfl) (fun _ _ _ h => h) (Or.inl ⟨by rfl, ?_⟩) (by assumption) ?_
      rotate_left
      · (intro w' hSw; (try dsimp only at hSw); go_simp; try with_reducible rfl)
      try simp only [Act.put, List.setIfInBounds_toArray, List.set_cons_zero, List.set_cons_succ]
      refine wpAnyH_take (i := 1) (v := ?_) (by simp only [List.getElem?_toArray, List.getElem?_cons_zero, List.getElem?_cons_succ]; rfl) (by kernel_rfl) (by kernel_rfl) (by kernel_rfl) (fun _ _ _ h => h) (Or.inl ⟨by rfl, ?_⟩) (by assumption) ?_
      rotate_left
      · (intro w' hSw; (try dsimp only at hSw); go_simp; try with_reducible rfl)
      try simp only [Act.put, List.setIfInBounds_toArray, List.set_cons_zero, List.set_cons_succ]
      refine wpAnyH_take (i := 2) (v := ?_) (by simp only [List.getElem?_toArray, List.getElem?_cons_zero, List.getElem?_cons_succ]; rfl) (by kernel_rfl) (by kernel_rfl) (by kernel_rfl) (fun _ _ _ h => h) (Or.inl ⟨by rfl, ?_⟩) (by assumption) ?_
      rotate_left
      · (intro w' hSw; (try dsimp only at hSw); go_simp; try with_reducible rfl)
      try simp only [Act.put, List.setIfInBounds_toArray, List.set_cons_zero, List.set_cons_succ]
      refine wpAnyH_take (i := 3) (v := ?_) (by simp only [List.getElem?_toArray, List.getElem?_cons_zero, List.getElem?_cons_succ]; rfl) (by kernel_rfl) (by kernel_rfl) (by kernel_rfl) (fun _ _ _ h => h) (Or.inl ⟨by rfl, ?_⟩) (by assumption) ?_
      rotate_left
      · (intro w' hSw; (try dsimp only at hSw); go_simp; try with_reducible rfl)
      try simp only [Act.put, List.setIfInBounds_toArray, List.set_cons_zero, List.set_cons_succ]
      refine wpAnyH_take (i := 4) (v := ?_) (by simp only [List.getElem?_toArray, List.getElem?_cons_zero, List.getElem?_cons_succ]; rfl) (by kernel_rfl) (by kernel_rfl) (by kernel_rfl) (fun _ _ _ h => h) (Or.inl ⟨by rfl, ?_⟩) (by assumption) ?_
      rotate_left
      · (intro w' hSw; (try dsimp only at hSw); go_simp; try with_reducible rfl)
      try simp only [Act.put, List.setIfInBounds_toArray, List.set_cons_zero, List.set_cons_succ]
      refine wpAnyH_take (i := 5) (v := ?_) (by simp only [List.getElem?_toArray, List.getElem?_cons_zero, List.getElem?_cons_succ]; rfl) (by kernel_rfl) (by kernel_rfl) (by kernel_rfl) (fun _ _ _ h => h) (Or.inl ⟨by rfl, ?_⟩) (by assumption) ?_
      rotate_left
      · (intro w' hSw; (try dsimp only at hSw); go_simp; try with_reducible rfl)
      try simp only [Act.put, List.setIfInBounds_toArray, List.set_cons_zero, List.set_cons_succ]
      refine wpAnyH_take (i := 6) (v := ?_) (by simp only [List.getElem?_toArray, List.getElem?_cons_zero, List.getElem?_cons_succ]; rfl) (by kernel_rfl) (by kernel_rfl) (by kernel_rfl) (fun _ _ _ h => h) (Or.inl ⟨by rfl, ?_⟩) (by assumption) ?_
      rotate_left
      · (intro w' hSw; (try dsimp only at hSw); go_simp; try with_reducible rfl)
      try simp only [Act.put, List.setIfInBounds_toArray, List.set_cons_zero, List.set_cons_succ]
      refine wpAnyH_ready (rs := [7]) (by kernel_rfl) (by simp) ?_
      refine AllReadyH.cons (by simp only [List.getElem?_toArray, List.getElem?_cons_zero, List.getElem?_cons_succ]; rfl) (fun K hK => ?_) ?_
      · refine step_copy_splice (by rfl) (.tmp 41) (.tmp 44) 23 23 (by rfl) 3 Tryz.underlying23 (by kernel_rfl) (some ⟨g, m, none⟩) (some ⟨g, 0, none⟩) (N - m) (N - m) m N (by rfl) (by rfl) g m (repN x m N) 3 (by exact HGG.out) (List.replicate c (.int .i64 x)) HN1.out (by exact fun _ => ⟨rfl, ⟨g, 0, none⟩, rfl, HS1.out⟩) HF1.out HO1.out g w (by exact Below.drew HBB.out) (Nat.le_refl _) ?_
        intro w5 hg5 hb5
        have HG5 := Lib.hid (show w5.heap[g]? = some (.cells (repN x (m + c) N).toArray 3 (0, 0)) by rw [← repN_splice x m c N hmc]; exact hg5.out)
        have HB5 := Lib.hid hb5
        rw [List.length_replicate]
        clear hg5 hb5
        have k7 : w5.cell? ⟨b, 0, none⟩ = some (.int .i64 x) := (HB5.out.cell (p := ⟨b, 0, none⟩) hgb).trans HB.out
        refine hK.out _ _ (by assumption) (fun hH1 => ?_)
        clear hK K hHeld
        refine wpAnyH_take (i := 8) (v := ?_) (by simp only [List.getElem?_toArray, List.getElem?_cons_zero, List.getElem?_cons_succ]; rfl) (by kernel_rfl) (by kernel_rfl) (by kernel_rfl) (fun _ _ _ h => h) (Or.inl ⟨by rfl, ?_⟩) (by assumption) ?_
        rotate_left
        · (intro w' hSw; (try dsimp only at hSw); go_simp; try with_reducible rfl)
        try simp only [Act.put, List.setIfInBounds_toArray, List.set_cons_zero, List.set_cons_succ]
        refine wpAnyH_take (i := 9) (v := ?_) (by simp only [List.getElem?_toArray, List.getElem?_cons_zero, List.getElem?_cons_succ]; rfl) (by kernel_rfl) (by kernel_rfl) (by kernel_rfl) (fun _ _ _ h => h) (Or.inl ⟨by rfl, ?_⟩) (by assumption) ?_
        rotate_left
        · (intro w' hSw; (try dsimp only at hSw); go_simp; try with_reducible rfl)
        try simp only [Act.put, List.setIfInBounds_toArray, List.set_cons_zero, List.set_cons_succ]
        refine wpAnyH_done (by kernel_rfl) ?_ _
        refine NoPanic.normal ?_
        go_wp2_with fail
        go_roundw
        case rel => exact ⟨m + c, by omega, hmc, by rw [HWR.out]; go_num, HB5.out, HG5.out⟩
        case measure => simp [intOf, HWR.out]; omega
      · exact AllReadyH.nil
    · obtain rfl : m = N := by omega
      have hd : decide (m < m) = false := decide_eq_false (by omega)
      go_wp2_with fail
      go_ret
      refine ⟨by rw [← HGE.out]; rfl, ?_, by rw [← HGE.out]; exact HBB.out⟩
      rw [← HGE.out]
      refine ⟨_, HGG.out, by simp [repN], fun i hi => ?_⟩
      rw [List.getElem?_toArray]
      exact repN_get x m m i hi
end Go.Proofs.YtcoddcdiimpndaaGreatDoor
