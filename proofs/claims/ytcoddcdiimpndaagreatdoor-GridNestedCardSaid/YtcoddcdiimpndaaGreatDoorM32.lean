/-
  The walks of grid's node, Neighbours and Hops.
-/
import Derived.Test.YtcoddcdiimpndaaGreatDoorM25
import Derived.Test.YtcoddcdiimpndaaGreatDoorM18
import Derived.Test.YtcoddcdiimpndaaGreatDoorM31
set_option linter.unusedVariables false
set_option linter.unusedSimpArgs false
namespace Go.Proofs.YtcoddcdiimpndaaGreatDoor
open Go.RowKit
/-- Is i a node of frequency n? -/
def ndB (n i : Int) : Bool := freqB n && (decide (0 ≤ i) && decide (i < gCount n))
theorem gCount_bd (n : Int) : 0 ≤ gCount n ∧ gCount n ≤ 642 := by
  unfold gCount
  split
  · rename_i h
    have hn : 1 ≤ n ∧ n ≤ 8 := by simpa [freqB] using h
    have h64 : n * n ≤ 8 * 8 := Int.mul_le_mul hn.2 hn.2 (by omega) (by omega)
    have hnn : 0 ≤ n * n := Int.mul_nonneg (by omega) (by omega)
    omega
  · omega
theorem nd_nat {n i : Int} (h : ndB n i = true) : ∃ m a : Nat, n = m ∧ i = a ∧ 1 ≤ m ∧ m ≤ 8 ∧ a < (nodes m).length ∧ gCount n = (nodes m).length := by
  simp only [ndB, Bool.and_eq_true, decide_eq_true_eq] at h
  obtain ⟨h1, h2, h3⟩ := h
  obtain ⟨m, rfl, h4, h5, _⟩ := freq_nat h1
  obtain ⟨a, rfl⟩ := Int.eq_ofNat_of_zero_le h2
  have hc : gCount (m : Int) = (nodes m).length := by
    rw [nodes_count m h4 h5]
    simp [gCount, h1]
  exact ⟨m, a, rfl, rfl, h4, h5, by omega, hc⟩
theorem nx_ok (m : Nat) (h1 : 1 ≤ m) (h8 : m ≤ 8) : (∀ i : Nat, ∀ v ∈ nxL (nodes m) (840 / m) m i, 0 ≤ v ∧ v < ((nodes m).length : Int)) ∧ ∀ i : Nat, (nxL (nodes m) (840 / m) m i).length ≤ (nodes m).length := by
  have hok := tris_ok h1 h8 rfl (nh m h1 h8)
  have hb : ∀ i : Nat, ∀ v ∈ nxL (nodes m) (840 / m) m i, 0 ≤ v ∧ v < ((nodes m).length : Int) := by
    intro i v hv
    obtain ⟨t, ht, hc⟩ := ((nxL_facts hok i).2 v).1 hv
    obtain ⟨q0, q1, q2, q3⟩ := hok t ht
    omega
  refine ⟨hb, fun i => ?_⟩
  have hs := (nxL_facts hok i).1
  have := pigeon (nodes m).length ((nxL (nodes m) (840 / m) m i).map Int.toNat) (by
    refine List.Pairwise.map _ (fun x y hxy => ?_) (List.Pairwise.and_mem.1 hs)
    have h2 := (hb i x hxy.1).1
    have h3 := hxy.2.2
    intro e
    omega) (fun x hx => by
    obtain ⟨v, hv, rfl⟩ := List.mem_map.1 hx
    have := hb i v hv
    omega)
  simpa using this
theorem node_any (n i : Int) (w : World) : Calls Tryz.prog 57 #[.int .i64 n, .int .i64 i] w fun e w' => e = .returned (.bool (ndB n i)) ∧ w = w' := by
  have hf := fun W => freq_any n W
  have hc := fun W => count_any n W
  obtain ⟨b0, b1⟩ := gCount_bd n
  cases hq : freqB n
  · have hn : ndB n i = false := by simp [ndB, hq]
    rw [hn]
    rw [hq] at hf
    clear hn hq hc
    go_enter Tryz.func57, Tryz.ntmps57
    go_wp2_with fail
    refine (hf _).mono ?_
    rintro e w1 ⟨rfl, rfl⟩
    clear hf
    go_wp2_with fail
    go_ret
    exact ⟨rfl, rfl⟩
  · rw [hq] at hf
    by_cases h0 : 0 ≤ i
    · have hd0 : decide (0 ≤ i) = true := decide_eq_true h0
      by_cases h1 : i < gCount n
      · have hn : ndB n i = true := by simp [ndB, hq, h0, h1]
        have hd1 : decide (i < gCount n) = true := decide_eq_true h1
        rw [hn]
        clear hn hq
        go_enter Tryz.func57, Tryz.ntmps57
        go_wp2_with fail
        refine (hf _).mono ?_
        rintro e w1 ⟨rfl, rfl⟩
        clear hf
        go_wp2_with fail
        refine (hc _).mono ?_
        rintro e w1 ⟨rfl, rfl⟩
        clear hc
        go_wp2_with fail
        go_ret
        exact ⟨rfl, rfl⟩
      · have hn : ndB n i = false := by simp [ndB, hq, h1]
        have hd1 : decide (i < gCount n) = false := decide_eq_false h1
        have h1' : gCount n ≤ i := by omega
        rw [hn]
        clear hn hq h1
        go_enter Tryz.func57, Tryz.ntmps57
        go_wp2_with fail
        refine (hf _).mono ?_
        rintro e w1 ⟨rfl, rfl⟩
        clear hf
        go_wp2_with fail
        refine (hc _).mono ?_
        rintro e w1 ⟨rfl, rfl⟩
        clear hc
        go_wp2_with fail
        go_ret
        exact ⟨rfl, rfl⟩
    · have hn : ndB n i = false := by simp [ndB, h0]
      have hd0 : decide (0 ≤ i) = false := decide_eq_false h0
      have h0' : i < 0 := by omega
      rw [hn]
      clear hn hq hc h0
      go_enter Tryz.func57, Tryz.ntmps57
      go_wp2_with fail
      refine (hf _).mono ?_
      rintro e w1 ⟨rfl, rfl⟩
      clear hf
      go_wp2_with fail
      go_ret
      exact ⟨rfl, rfl⟩
/-- What Neighbours and Hops return. -/
def nxG (n : Int) (i : Nat) : List Int := nxL (nodes n.toNat) (840 / n.toNat) n.toNat i
def gNb (n i : Int) : List Int := if ndB n i then nxG n i.toNat else []
def nErr (n i : Int) : Int := if ndB n i then 0 else 1
def hpB (n a b : Int) : Bool := ndB n a && ndB n b
def gHop (n a b : Int) : Int := if hpB n a b then hopD (nxG n) (nodes n.toNat).length a.toNat b.toNat else 0
def hErr (n a b : Int) : Int := if hpB n a b then 0 else 1
set_option maxHeartbeats 2000000 in
theorem gneigh_any (n i : Int) (w : World) (hT : TabOk w) : Calls Tryz.prog 20 #[.int .i64 n, .int .i64 i] w fun e w' => ∃ V, e = .returned (.tuple #[V, .int .i64 (nErr n i)]) ∧ w'.ownsRow w.heap.size 3 1 V (gNb n i).length (cellsI (gNb n i)) ∧ Below w.heap.size w w' := by
  have hnd := fun W => node_any n i W
  cases hq : ndB n i
  · have e1 : nErr n i = 1 := by simp [nErr, hq]
    have e2 : gNb n i = [] := by simp [gNb, hq]
    rw [e1, e2]
    rw [hq] at hnd
    clear e1 e2 hq hT
    go_enter Tryz.func20, Tryz.ntmps20
    go_wp2_with fail
    refine (hnd _).mono ?_
    rintro e w1 ⟨rfl, rfl⟩
    clear hnd
    go_wp2_with fail
    go_ret2
    exact ⟨_, rfl, World.ownsRow_nil _ _ _ _, Below.refl _ _⟩
  · have e1 : nErr n i = 0 := by simp [nErr, hq]
    have e2 : gNb n i = nxG n i.toNat := by simp [gNb, hq]
    rw [e1, e2]
    rw [hq] at hnd
    obtain ⟨m, a, rfl, rfl, h1, h8, ham, _⟩ := nd_nat hq
    have HB := Lib.hid (build_any m h1 h8 w hT)
    have e3 : nxG (m : Int) ((a : Int)).toNat = nxL (nodes m) (840 / m) m a := rfl
    rw [e3]
    have haI : (a : Int) < ((nodes m).length : Int) := by omega
    clear e1 e2 e3 hq hT
    go_enter Tryz.func20, Tryz.ntmps20
    go_wp2_with fail
    refine (hnd _).mono ?_
    rintro e w1 ⟨rfl, rfl⟩
    clear hnd
    go_wp2_with fail
    refine HB.out.mono ?_
    rintro e w2 ⟨rfl, hblt⟩
    unfold Built at hblt
    obtain ⟨V, C, Ev, gx, Vx, hnet, hr2, hb⟩ := hblt
    have c6 := blk_cell hnet.blk 6 (.slice (some ⟨gx, 0, none⟩) (nodes m).length (nodes m).length) rfl
    have hlt := blk_lt hnet.blk
    have r0 := hr2.row.cell ham
    have hlx := hr2.row.lt
    have HO := Lib.hid (hr2.own a ham)
    have HBB := Lib.hid hb
    clear hnet hr2 hb HB
    go_wp2_with fail
    go_ret2
    exact ⟨_, rfl, HO.out, HBB.out⟩
set_option maxHeartbeats 4000000 in
theorem ghops_any (n a b : Int) (w : World) (hT : TabOk w) : Calls Tryz.prog 31 #[.int .i64 n, .int .i64 a, .int .i64 b] w fun e w' => e = .returned (.tuple #[.int .i64 (gHop n a b), .int .i64 (hErr n a b)]) ∧ Below w.heap.size w w' := by
  have hna := fun W => node_any n a W
  have hnb := fun W => node_any n b W
  cases hqa : ndB n a
  · have e1 : hErr n a b = 1 := by simp [hErr, hpB, hqa]
    have e2 : gHop n a b = 0 := by simp [gHop, hpB, hqa]
    rw [e1, e2]
    rw [hqa] at hna
    clear e1 e2 hqa hT hnb
    go_enter Tryz.func31, Tryz.ntmps31
    go_wp2_with fail
    refine (hna _).mono ?_
    rintro e w1 ⟨rfl, rfl⟩
    clear hna
    go_wp2_with fail
    go_ret2
    exact ⟨rfl, Below.refl _ _⟩
  · cases hqb : ndB n b
    · have e1 : hErr n a b = 1 := by simp [hErr, hpB, hqb]
      have e2 : gHop n a b = 0 := by simp [gHop, hpB, hqb]
      rw [e1, e2]
      rw [hqa] at hna
      rw [hqb] at hnb
      clear e1 e2 hqa hqb hT
      go_enter Tryz.func31, Tryz.ntmps31
      go_wp2_with fail
      refine (hna _).mono ?_
      rintro e w1 ⟨rfl, rfl⟩
      clear hna
      go_wp2_with fail
      refine (hnb _).mono ?_
      rintro e w1 ⟨rfl, rfl⟩
      clear hnb
      go_wp2_with fail
      go_ret2
      exact ⟨rfl, Below.refl _ _⟩
    · have e1 : hErr n a b = 0 := by simp [hErr, hpB, hqa, hqb]
      rw [e1]
      rw [hqa] at hna
      rw [hqb] at hnb
      have e2 : gHop n a b = hopD (nxG n) (nodes n.toNat).length a.toNat b.toNat := by simp [gHop, hpB, hqa, hqb]
      rw [e2]
      obtain ⟨m, i, hm, rfl, h1, h8, him, _⟩ := nd_nat hqa
      subst hm
      obtain ⟨m2, j, hm2, rfl, _, _, hjm, _⟩ := nd_nat hqb
      obtain rfl : m = m2 := by omega
      have e3 : hopD (nxG (m : Int)) (nodes ((m : Int)).toNat).length ((i : Int)).toNat ((j : Int)).toNat = hopD (nxL (nodes m) (840 / m) m) (nodes m).length i j := rfl
      rw [e3]
      have HB := Lib.hid (build_any m h1 h8 w hT)
      obtain ⟨x1, x2⟩ := nx_ok m h1 h8
      have hc := nodes_count m h1 h8
      have h64 : m * m ≤ 8 * 8 := Nat.mul_le_mul h8 h8
      have HX1 := Lib.hid x1
      have HX2 := Lib.hid (show ∀ i, (nxL (nodes m) (840 / m) m i).length ≤ 1000000 from fun i => Nat.le_trans (x2 i) (by omega))
      have hNl : (nodes m).length ≤ 100000 := by omega
      have hjI : (j : Int) < ((nodes m).length : Int) := by omega
      clear e1 e2 e3 hqa hqb hT hm2 x1 x2 hc h64
      go_enter Tryz.func31, Tryz.ntmps31
      go_wp2_with fail
      refine (hna _).mono ?_
      rintro e w1 ⟨rfl, rfl⟩
      clear hna
      go_wp2_with fail
      refine (hnb _).mono ?_
      rintro e w1 ⟨rfl, rfl⟩
      clear hnb
      go_wp2_with fail
      refine HB.out.mono ?_
      rintro e w2 ⟨rfl, hblt⟩
      unfold Built at hblt
      obtain ⟨V, C, Ev, gx, Vx, hnet, hr2, hb⟩ := hblt
      obtain ⟨AV, cV, hV⟩ := own_slice hnet.row
      subst hV
      have HC2 := Lib.hid (blk_cell hnet.blk 2 (.slice AV (nodes m).length cV) rfl)
      have HC6 := Lib.hid (blk_cell hnet.blk 6 (.slice (some ⟨gx, 0, none⟩) (nodes m).length (nodes m).length) rfl)
      have hlt := blk_lt hnet.blk
      have HR2 := Lib.hid hr2
      have HBB := Lib.hid hb
      clear hnet hr2 hb HB
      go_wp2_with fail
      refine (dist_core _ _ _ gx (nodes m).length cV AV Vx (nxL (nodes m) (840 / m) m) i him hNl HC2.out HC6.out hlt HR2.out (fun i _ => HX1.out i) HX2.out).mono ?_
      rintro e w3 ⟨gd, rfl, hgd, hrow, hb3⟩
      have r0 := hrow.cell hjm
      have hlr := hrow.lt
      have HB3 := Lib.hid (below_then HBB.out hb3 HBB.out.size)
      clear hrow hb3
      go_wp2_with fail
      go_ret2
      exact ⟨rfl, HB3.out⟩
end Go.Proofs.YtcoddcdiimpndaaGreatDoor
