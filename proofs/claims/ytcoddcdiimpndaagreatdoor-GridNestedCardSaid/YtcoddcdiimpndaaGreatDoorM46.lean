/-
  The walk of GridNested.
-/
import Derived.Test.YtcoddcdiimpndaaGreatDoorM40
import Derived.Test.YtcoddcdiimpndaaGreatDoorM43
import Derived.Test.YtcoddcdiimpndaaGreatDoorM45
set_option linter.unusedVariables false
set_option linter.unusedSimpArgs false
namespace Go.Proofs.YtcoddcdiimpndaaGreatDoor
open Go.RowKit
set_option maxRecDepth 100000 in
set_option maxHeartbeats 8000000 in
theorem nested_core (v : Value) (w : World) (hT : TabOk w) (hl : IntsArg w v)
    (N M : Nat → Nat) (P : Nat → Nat → Pl) (E : Nat → Nat → Ed) (U : Nat → Nat → Nat) (hN : ∀ n, 1 ≤ n → n ≤ 2 → 0 < N n ∧ N n ≤ 1000 ∧ 0 < M n ∧ M n ≤ 1000)
    (hnodes : ∀ n : Nat, 1 ≤ n → n ≤ 2 → ∀ W : World, TabOk W → Calls Tryz.prog 13 #[.int .i64 n] W fun e w' => ∃ g cap, e = .returned (.tuple #[.slice (some ⟨g, 0, none⟩) (N n) cap, .int .i64 0]) ∧ RdE w' g (P n) (N n) ∧ W.heap.size ≤ g ∧ Below W.heap.size W w')
    (hedges : ∀ n : Nat, 1 ≤ n → n ≤ 2 → ∀ W : World, TabOk W → Calls Tryz.prog 17 #[.int .i64 n] W fun e w' => ∃ g cap, e = .returned (.tuple #[.slice (some ⟨g, 0, none⟩) (M n) cap, .int .i64 0]) ∧ RdG w' g (E n) (M n) ∧ W.heap.size ≤ g ∧ Below W.heap.size W w')
    (hidx : ∀ n : Nat, 1 ≤ n → n ≤ 2 → ∀ k, k < N n → ∀ W : World, TabOk W → Calls Tryz.prog 35 #[.int .i64 (2 * n), .agg #[.int .i64 (P n k).f, .int .i64 (P n k).a, .int .i64 (P n k).b, .int .i64 (P n k).c]] W fun e w' => e = .returned (.tuple #[.int .i64 (U n k : Nat), .int .i64 0]) ∧ Below W.heap.size W w')
    (hloc : ∀ n : Nat, 1 ≤ n → n ≤ 2 → ∀ k, k < N n → ∀ W : World, TabOk W → Calls Tryz.prog 27 #[.int .i64 (2 * n), .agg #[.int .i64 (P n k).f, .int .i64 (P n k).a, .int .i64 (P n k).b, .int .i64 (P n k).c]] W fun e w' => ∃ V, e = .returned (.tuple #[V, .int .i64 0]) ∧ w'.ownsRow W.heap.size 54 2 V 1 (cellsS [⟨(U n k : Nat), 840⟩]) ∧ Below W.heap.size W w')
    (hhop : ∀ n : Nat, 1 ≤ n → n ≤ 2 → ∀ q, q < M n → ∀ W : World, TabOk W → Calls Tryz.prog 31 #[.int .i64 (2 * n), .int .i64 (U n (E n q).a.toNat : Nat), .int .i64 (U n (E n q).b.toNat : Nat)] W fun e w' => e = .returned (.tuple #[.int .i64 2, .int .i64 0]) ∧ Below W.heap.size W w')
    (hE : ∀ n : Nat, 1 ≤ n → n ≤ 2 → ∀ i, i < M n → 0 ≤ (E n i).a ∧ (E n i).a < (E n i).b ∧ (E n i).b < (N n : Int)) :
    Calls Tryz.prog 6 #[v] w fun e w' => e = .returned (.bool true) ∧ Below w.heap.size w w' := by
  have hp0 := hT.pos
  have HTT := Lib.hid (fun (W : World) (h : Below w.heap.size w W) => hT.below h)
  have HL := Lib.hid hl
  have HN := Lib.hid hN
  have HNO := Lib.hid hnodes
  have HED := Lib.hid hedges
  have HID := Lib.hid hidx
  have HLO := Lib.hid hloc
  have HHO := Lib.hid hhop
  have HEE := Lib.hid hE
  clear hT hl hN hnodes hedges hidx hloc hhop hE
  go_enter Tryz.func6, Tryz.ntmps6
  go_wp2_with fail
  refine (new_any v _ HL.out).mono ?_
  rintro e w1 ⟨rfl, hs1, hb1⟩
  have HS1 := Lib.hid hs1
  have HB1 := Lib.hid hb1
  clear hs1 hb1 HL
  go_wp2_with fail
  refine (range_any 1 2 (by omega) (by omega) (by omega) _ _ _ HS1.out).mono ?_
  rintro e w2 ⟨n, rfl, hn0, hn1, hs2, hg2⟩
  have HS2 := Lib.hid hs2
  have HB2 := Lib.hid (grown_low HB1.out hg2 HB1.out.size (Nat.le_refl _))
  clear hs2 hg2 HS1 HB1
  obtain ⟨n, rfl⟩ := Int.eq_ofNat_of_zero_le (show 0 ≤ n by omega)
  have hm1 : 1 ≤ n := by omega
  have hm2 : n ≤ 2 := by omega
  obtain ⟨k1, k2, k3, k4⟩ := HN.out n hm1 hm2
  have HNO := Lib.hid (HNO.out n hm1 hm2)
  have HED := Lib.hid (HED.out n hm1 hm2)
  have HID := Lib.hid (HID.out n hm1 hm2)
  have HLO := Lib.hid (HLO.out n hm1 hm2)
  have HHO := Lib.hid (HHO.out n hm1 hm2)
  have HEE := Lib.hid (HEE.out n hm1 hm2)
  clear hn0 hn1 HN
  generalize N n = N at *
  generalize M n = M at *
  generalize P n = P at *
  generalize E n = E at *
  generalize U n = U at *
  have hnI : (n : Int) ≤ 2 := by omega
  go_wp2_with fail
  refine (HNO.out _ (HTT.out _ HB2.out)).mono ?_
  rintro e w3 ⟨gN, capN, rfl, hrd, hgn, hb⟩
  have hsrc := (src_lt HS2.out).1
  have HS3 := Lib.hid (HS2.out.below hb hsrc)
  have HB3 := Lib.hid (below_then HB2.out hb HB2.out.size)
  have HR3 := Lib.hid hrd
  have hgN : w.heap.size < gN := Nat.lt_of_lt_of_le hsrc hgn
  clear hrd hb HNO hsrc hgn
  go_wp2_with fail
  refine (HED.out _ (HTT.out _ HB3.out)).mono ?_
  rintro e w4 ⟨gE, capE, rfl, hre, hge, hb⟩
  have hsrc := (src_lt HS3.out).1
  have HS4 := Lib.hid (HS3.out.below hb hsrc)
  have HB4 := Lib.hid (below_then HB3.out hb HB3.out.size)
  have HR4 := Lib.hid (HR3.out.below hb HR3.out.lt)
  have HE4 := Lib.hid hre
  have hgE : w.heap.size < gE := Nat.lt_of_lt_of_le hsrc hge
  have hz1 : ((N : Int) == 0) = false := by simp; omega
  have hz2 : (N == 0) = false := by simp; omega
  have hz3 : ((M : Int) == 0) = false := by simp; omega
  have hz4 : (M == 0) = false := by simp; omega
  clear hre hb HED hsrc hge HS3 HB3 HR3
  go_wp2_with fail
  refine (n_any N (by omega) (by omega) _ _ _ HS4.out).mono ?_
  rintro e w5 ⟨m, rfl, hm0, hmn, hs5, hg5⟩
  have HS5 := Lib.hid hs5
  have HB5 := Lib.hid (grown_low HB4.out hg5 HB4.out.size (Nat.le_refl _))
  have HR5 := Lib.hid (HR4.out.grown hg5 (by simp; omega))
  have HE5 := Lib.hid (HE4.out.grown hg5 (by simp; omega))
  obtain ⟨m, rfl⟩ := Int.eq_ofNat_of_zero_le hm0
  have hmN : m < N := by omega
  have hmI : (m : Int) < (N : Int) := by omega
  obtain ⟨q0, q1, q2, q3⟩ := HR5.out.cells m hmN
  have hlg := HR5.out.lt
  clear hs5 hg5 hz1 hz2 hz3 hz4 HS4 HB4 HR4 HE4 hm0 hmn
  go_wp2_with fail
  refine (HID.out m hmN _ (HTT.out _ HB5.out)).mono ?_
  rintro e w6 ⟨rfl, hb⟩
  have HS6 := Lib.hid (HS5.out.below hb (src_lt HS5.out).1)
  have HB6 := Lib.hid (below_then HB5.out hb HB5.out.size)
  have HR6 := Lib.hid (HR5.out.below hb HR5.out.lt)
  have HE6 := Lib.hid (HE5.out.below hb HE5.out.lt)
  clear hb q0 q1 q2 q3 hlg HS5 HB5 HR5 HE5
  obtain ⟨q0, q1, q2, q3⟩ := HR6.out.cells m hmN
  have hlg := HR6.out.lt
  go_wp2_with fail
  refine (HLO.out m hmN _ (HTT.out _ HB6.out)).mono ?_
  rintro e w7 ⟨V, rfl, hown, hb⟩
  have HS7 := Lib.hid (HS6.out.below hb (src_lt HS6.out).1)
  have HB7 := Lib.hid (below_then HB6.out hb HB6.out.size)
  have HR7 := Lib.hid (HR6.out.below hb HR6.out.lt)
  have HE7 := Lib.hid (HE6.out.below hb HE6.out.lt)
  have HO7 := Lib.hid hown
  clear hb hown q0 q1 q2 q3 hlg HS6 HB6 HR6 HE6 HLO
  go_wp2_with fail
  refine (shares_true [⟨(U m : Nat), 840⟩] (by simp) _ _ _ w7.heap.size _ (HO7.out.alloc _) (own_new w7 w7.heap.size 54 2 (cellsS [⟨(U m : Nat), 840⟩]) 1 rfl (Nat.le_refl _) (by omega))).mono ?_
  rintro e w8 ⟨rfl, hb⟩
  have hsz8 : (w7.alloc (.cells (cellsS [⟨(U m : Nat), 840⟩]).toArray 54)).heap.size = w7.heap.size + 1 := by simp
  have HS8 := Lib.hid ((src_new HS7.out _).below hb (by have := (src_lt HS7.out).1; simp; omega))
  have HB8 := Lib.hid (below_then (below_alloc HB7.out _) hb (by have := HB7.out.size; simp; omega))
  have HR8 := Lib.hid ((HR7.out.below (alloc_below _ _) HR7.out.lt).below hb (by have := HR7.out.lt; simp; omega))
  have HE8 := Lib.hid ((HE7.out.below (alloc_below _ _) HE7.out.lt).below hb (by have := HE7.out.lt; simp; omega))
  clear hb hsz8 HS7 HB7 HR7 HE7 HO7
  go_wp2_with fail
  refine (n_any M (by omega) (by omega) _ _ _ HS8.out).mono ?_
  rintro e w9 ⟨q, rfl, hq0, hqn, hs9, hg9⟩
  have HB9 := Lib.hid (grown_low HB8.out hg9 HB8.out.size (Nat.le_refl _))
  have HR9 := Lib.hid (HR8.out.grown hg9 (by simp; omega))
  have HE9 := Lib.hid (HE8.out.grown hg9 (by simp; omega))
  obtain ⟨q, rfl⟩ := Int.eq_ofNat_of_zero_le hq0
  have hqM : q < M := by omega
  have hqI : (q : Int) < (M : Int) := by omega
  obtain ⟨e0, e1, e2⟩ := HEE.out q hqM
  obtain ⟨ja, hja⟩ := Int.eq_ofNat_of_zero_le e0
  obtain ⟨jb, hjb⟩ := Int.eq_ofNat_of_zero_le (show 0 ≤ (E q).b by omega)
  obtain ⟨p0, p1⟩ := HE9.out.cells q hqM
  have HHQ := Lib.hid (HHO.out q hqM)
  rw [hja] at p0 e0 e1 HHQ
  rw [hjb] at p1 e1 e2 HHQ
  simp only [Int.toNat_natCast] at HHQ
  have hjaN : ja < N := by omega
  have hjbN : jb < N := by omega
  have hjaI : (ja : Int) < (N : Int) := by omega
  have hjbI : (jb : Int) < (N : Int) := by omega
  have d1 : decide ((ja : Int) < 0) = false := decide_eq_false (by omega)
  have d2 : decide (N ≤ ja) = false := decide_eq_false (by omega)
  have d3 : decide ((jb : Int) < 0) = false := decide_eq_false (by omega)
  have d4 : decide (N ≤ jb) = false := decide_eq_false (by omega)
  have hlE := HE9.out.lt
  clear hja hjb hs9 hg9 HB8 HR8 HE8 HS8 hq0 hqn HEE HHO
  obtain ⟨w10, hw10⟩ : ∃ w10, w10 = w9.alloc (.cells #[.int .i64 (ja : Int), .int .i64 (jb : Int)] 39) := ⟨_, rfl⟩
  have HB10 := Lib.hid (show Below w.heap.size w w10 by rw [hw10]; exact below_alloc HB9.out _)
  have HR10 := Lib.hid (show RdE w10 gN P N by rw [hw10]; exact HR9.out.below (alloc_below _ _) HR9.out.lt)
  have HD10 := Lib.hid (show w10.heap[w9.heap.size]? = some (.cells #[.int .i64 (ja : Int), .int .i64 (jb : Int)] 39 (0, 0)) by rw [hw10]; exact blk_new w9 _)
  go_upto_region 15 with fail
  rw [← hw10]
  clear hw10 p0 p1 hlE HB9 HR9 HE9
  obtain ⟨q0, q1, q2, q3⟩ := HR10.out.cells ja hjaN
  have c0 := blk_cell HD10.out 0 (.int .i64 (ja : Int)) rfl
  have hlD := blk_lt HD10.out
  have hlg := HR10.out.lt
  go_wp2_with fail
  refine (HID.out ja hjaN _ (HTT.out _ HB10.out)).mono ?_
  rintro e w11 ⟨rfl, hb⟩
  have HB11 := Lib.hid (below_then HB10.out hb HB10.out.size)
  have HR11 := Lib.hid (HR10.out.below hb HR10.out.lt)
  have HD11 := Lib.hid (blk_below hb HD10.out (blk_lt HD10.out))
  clear hb q0 q1 q2 q3 c0 hlD hlg HB10 HR10 HD10
  obtain ⟨q0, q1, q2, q3⟩ := HR11.out.cells jb hjbN
  have c1 := blk_cell HD11.out 1 (.int .i64 (jb : Int)) rfl
  have hlD := blk_lt HD11.out
  have hlg := HR11.out.lt
  go_wp2_with fail
  refine (HID.out jb hjbN _ (HTT.out _ HB11.out)).mono ?_
  rintro e w12 ⟨rfl, hb⟩
  have HB12 := Lib.hid (below_then HB11.out hb HB11.out.size)
  clear hb q0 q1 q2 q3 c1 hlD hlg HB11 HR11 HD11
  go_wp2_with fail
  refine (HHQ.out _ (HTT.out _ HB12.out)).mono ?_
  rintro e w13 ⟨rfl, hb⟩
  have HB13 := Lib.hid (below_then HB12.out hb HB12.out.size)
  clear hb
  go_wp2_with fail
  refine (awake_any _ (HTT.out _ HB13.out)).mono ?_
  rintro e w14 ⟨rfl, hb⟩
  have HB14 := Lib.hid (below_then HB13.out hb HB13.out.size)
  clear hb
  go_wp2_with fail
  go_ret
  exact ⟨rfl, HB14.out⟩
theorem gridNested_any (v : Value) (w : World) (hT : TabOk w) (hl : IntsArg w v) :
    Calls Tryz.prog 6 #[v] w fun e w' => e = .returned (.bool true) ∧ Below w.heap.size w w' := by
  have len : ∀ n, 1 ≤ n → n ≤ 2 → (nodes n).length = 10 * (n * n) + 2 ∧ (edL (nodes n) (840 / n) n).length = 30 * (n * n) ∧ 1 ≤ n * n ∧ n * n ≤ 4 := fun n h1 h2 => by
    refine ⟨nodes_count n h1 (by omega), (surf_all n h1 (by omega)).2.2, ?_, ?_⟩
    · exact Nat.mul_le_mul h1 h1
    · exact Nat.mul_le_mul h2 h2
  refine nested_core v w hT hl (fun n => (nodes n).length) (fun n => (edL (nodes n) (840 / n) n).length) (fun n i => (nodes n)[i]!) (fun n i => (edL (nodes n) (840 / n) n)[i]!) upN (fun n h1 h2 => ?_) (fun n h1 h2 W hW => ?_) (fun n h1 h2 W hW => ?_) (fun n h1 h2 k hk W hW => ?_) (fun n h1 h2 k hk W hW => ?_) (fun n h1 h2 q hq W hW => ?_) (fun n h1 h2 => edL_lt n h1 (by omega))
  · obtain ⟨a1, a2, a3, a4⟩ := len n h1 h2
    omega
  · refine (gnodes_rd n h1 (by omega) W hW).mono ?_
    rintro e w1 ⟨g, cap, he, hr, hg, hb⟩
    exact ⟨g, cap, he, hr, hg, hb⟩
  · refine (gedges_own n h1 (by omega) W hW).mono ?_
    rintro e w1 ⟨V, he, hown, hb⟩
    obtain ⟨a1, a2, a3, a4⟩ := len n h1 h2
    obtain ⟨g, cap, rfl, hg, _⟩ := hown.form (by omega)
    exact ⟨g, cap, he, RdG.of_own hown, hg, hb⟩
  · obtain ⟨a1, a2, a3, a4⟩ := nest_node n k h1 h2 hk
    refine (gindex_any (2 * (n : Int)) _ _ _ _ W hW).mono ?_
    rintro e w1 ⟨he, hb⟩
    rw [a1, a2] at he
    exact ⟨he, hb⟩
  · obtain ⟨a1, a2, a3, a4⟩ := nest_node n k h1 h2 hk
    refine (glocate_any (2 * (n : Int)) _ _ _ _ W hW).mono ?_
    rintro e w1 ⟨V, he, hown, hb⟩
    rw [a4] at he
    rw [a3] at hown
    exact ⟨V, he, hown, hb⟩
  · obtain ⟨a1, a2⟩ := nest_hop n h1 h2 _ (show (edL (nodes n) (840 / n) n)[q]! ∈ _ by rw [getElem!_pos _ q hq]; exact List.getElem_mem hq)
    refine (ghops_any (2 * (n : Int)) _ _ W hW).mono ?_
    rintro e w1 ⟨he, hb⟩
    rw [a1, a2] at he
    exact ⟨he, hb⟩
end Go.Proofs.YtcoddcdiimpndaaGreatDoor
