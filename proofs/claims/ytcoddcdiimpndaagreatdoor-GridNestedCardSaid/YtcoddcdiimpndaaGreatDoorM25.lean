/-
  The walk of mesh's Distances.
-/
import Derived.Test.YtcoddcdiimpndaaGreatDoorM22
import Derived.Test.YtcoddcdiimpndaaGreatDoorM24
import Derived.Test.YtcoddcdiimpndaaGreatDoorM17
import Derived.Outline
set_option linter.unusedVariables false
set_option linter.unusedSimpArgs false
namespace Go.Proofs.YtcoddcdiimpndaaGreatDoor
open Go.RowKit
theorem infoN : (Tryz.prog.info? 3).map (fun i => (i.zero, i.size, i.bytes)) = some (some (.int .i64 0), 1, 8) := by kernel_rfl
theorem bfs_start (X : Nat → List Int) (a : Nat) (i : Nat) : (if i = a then Value.int .i64 0 else Value.int .i64 (-1)) = .int .i64 ((bfs X a 0).1 i) := by
  simp only [bfs]
  split <;> rfl
set_option maxRecDepth 100000 in
set_option maxHeartbeats 8000000 in
theorem dist_core (B0 : Nat) (w : World) (g gx N cV : Nat) (AV : Option Addr) (Vx : Nat → Value) (X : Nat → List Int) (a : Nat) (ha : a < N) (hl : N ≤ 100000)
    (c2 : w.cell? ⟨g, 2, none⟩ = some (.slice AV N cV)) (c6 : w.cell? ⟨g, 6, none⟩ = some (.slice (some ⟨gx, 0, none⟩) N N)) (hgl : g < w.heap.size) (hR : Rows2 B0 w gx N Vx X)
    (hX : ∀ i : Nat, i < N → ∀ v ∈ X i, 0 ≤ v ∧ v < (N : Int)) (hXl : ∀ i, (X i).length ≤ 1000000) :
    Calls Tryz.prog 64 #[.pointer (some ⟨g, 0, none⟩), .int .i64 a] w fun e w' => ∃ gd, e = .returned (.slice (some ⟨gd, 0, none⟩) N N) ∧ w.heap.size ≤ gd ∧ w'.rowIs gd 3 N (fun j => .int .i64 (hopD X N a j)) ∧ Below w.heap.size w w' := by
  have HR := Lib.hid hR
  have HX := Lib.hid hX
  have HXL := Lib.hid hXl
  have HRep := Lib.hid (fun (W : World) (b : Nat) (hb : W.cell? ⟨b, 0, none⟩ = some (.int .i64 (-1))) => repeat_any (-1) N (by omega) (by omega) W b hb)
  have haI : (a : Int) < (N : Int) := by omega
  have HC6 := Lib.hid c6
  clear hR hX hXl c6
  go_enter Tryz.func64, Tryz.ntmps64
  go_wp2_with fail
  refine (HRep.out _ _ (by go_simp)).mono ?_
  rintro e w2 ⟨rfl, hrow2, hb2⟩
  obtain ⟨w1, hw1⟩ : ∃ w1, w1 = w.alloc (.cells #[.int .i64 (-1)] 3) := ⟨_, rfl⟩
  rw [← hw1] at hrow2 hb2 ⊢
  have hs1 : w1.heap.size = w.heap.size + 1 := by rw [hw1]; simp
  have HB2 := Lib.hid (show Below w.heap.size w w2 by refine below_then (w1 := w1) ?_ hb2 (by omega); rw [hw1]; exact alloc_belowR _ _)
  obtain ⟨gd, hgd⟩ : ∃ gd, gd = w1.heap.size := ⟨_, rfl⟩
  rw [← hgd] at hrow2 ⊢
  have hdw : w.heap.size ≤ gd := by omega
  have HR2 := Lib.hid hrow2
  have f0 := hrow2.frozen a
  have r0 := hrow2.cell ha
  have hlt2 := hrow2.lt
  clear hrow2 hb2 hw1 hs1 hgd HRep
  go_upto_region 4 with fail
  obtain ⟨gq, hgq⟩ : ∃ gq, gq = w2.heap.size := ⟨_, rfl⟩
  obtain ⟨w3, hw3⟩ : ∃ w3, w3 = (w2.setCell ⟨gd, a, none⟩ (.int .i64 0)).alloc (.cells #[.int .i64 (a : Int)] 3) := ⟨_, rfl⟩
  have hsz : (w2.setCell ⟨gd, a, none⟩ (.int .i64 0)).heap.size = gq := by rw [hgq]; exact size_setCells gd [_] a w2
  have HS0 := Lib.hid (show BfsAt w.heap.size w w3 gd N (bfs X a 0) gq 1 by
    refine ⟨?_, by omega, ?_, ?_, hdw⟩
    · rw [hw3, ← hsz]
      exact own_newR _ _ 3 1 [.int .i64 (a : Int)] 1 rfl (by rw [hsz, hgq]; exact HB2.out.size) (by omega)
    · rw [hw3]
      exact ((HR2.out.set a (.int .i64 0)).alloc _).congr fun i _ => bfs_start X a i
    · rw [hw3]
      exact below_alloc (HB2.out.setCell hdw _) _)
  rw [← hw3]
  rw [← hgq]
  clear hw3 hsz hgq f0 r0 hlt2 HR2 HB2 c2
  have HH := Lib.hid (fun (m : Nat) (h : ∀ j, j < m → j < (bfs X a j).2.length) => bfs_inv HX.out ha m h)
  go_wp2_with fail
  go_loopw [6, 7] (fun vq i wr => ∃ (m gq cap : Nat), (∀ j, j < m → j < (bfs X a j).2.length) ∧ m ≤ (bfs X a m).2.length ∧ (bfs X a m).2.length ≤ N ∧ i = .int .i64 m ∧ vq = .slice (some ⟨gq, 0, none⟩) (bfs X a m).2.length cap ∧ BfsAt w.heap.size w wr gd N (bfs X a m) gq cap) (fun _ i _ => N - (intOf i).toNat)
  case atStart => exact ⟨0, gq, 1, by omega, Nat.zero_le _, by simp [bfs]; omega, rfl, rfl, HS0.out⟩
  case round =>
    obtain ⟨m, gq, cap, hj, hm, hmN, rfl, rfl, hst⟩ := hrel
    have HJ := Lib.hid hj
    have HST := Lib.hid hst
    clear hj hst HS0
    by_cases hlt : m < (bfs X a m).2.length
    · have hltI : (m : Int) < ((bfs X a m).2.length : Int) := by omega
      obtain ⟨u, huN, hu, hF⟩ := round_facts HX.out ha (i := m) (fun j hj' => by
        rcases Nat.lt_or_ge j m with h | h
        · exact HJ.out j h
        · obtain rfl : j = m := by omega
          exact hlt)
      have HF := Lib.hid hF
      have HNX := Lib.hid (bfs_next X a m hlt)
      have HLT := Lib.hid hlt
      rw [hu, Int.toNat_natCast] at HNX
      have q0 := own_cell HST.out.own m (.int .i64 (u : Int)) (by rw [cellsI_bang _ _ hlt, hu])
      have hHU := Lib.hid hu
      obtain ⟨d, hd⟩ : ∃ d, d = (bfs X a m).1 u := ⟨_, rfl⟩
      rw [← hd] at HF HNX
      have n6 := (HST.out.below.cell (p := ⟨g, 6, none⟩) hgl).trans HC6.out
      have hlg : g < wr.heap.size := Nat.lt_of_lt_of_le hgl HST.out.below.size
      have HRW := Lib.hid (HR.out.below HST.out.below)
      obtain ⟨Au, cu, hVu⟩ := own_slice (HRW.out.own u huN)
      have nu := HRW.out.row.cell huN
      rw [hVu] at nu
      have hlx := HRW.out.row.lt
      have hlq := (HST.out.own.lt gq rfl).2
      have huI : (u : Int) < (N : Int) := by omega
      have HXU := Lib.hid (HXL.out u)
      have hxu := HXL.out u
      clear hF hd hu
      go_wp2_with fail
      go_quiet (fail)
      have HST2 := Lib.hid (HST.out.drewN nq)
      go_wp2_with fail
      obtain ⟨wq, hwq⟩ : ∃ wq, wq = wr.drewN nq := ⟨_, rfl⟩
      rw [← hwq] at HST2 ⊢
      clear hwq q0 n6 nu hlq hlx HRW HST
      obtain ⟨ST, hST⟩ : ∃ ST : Nat → BS, ST = fun k => ((X u).take k).foldl (visit d) (bfs X a m) := ⟨_, rfl⟩
      have HF2 := Lib.hid (show ∀ k, k ≤ (X u).length → InvD N X a m d (ST k) ∧ (ST k).2[m]! = (u : Int) by rw [hST]; exact HF.out)
      have HS0 := Lib.hid (show ST 0 = bfs X a m by rw [hST]; rfl)
      have HSE := Lib.hid (show ST (X u).length = bfs X a (m + 1) by rw [hST, HNX.out]; simp only [List.take_length])
      have HSS := Lib.hid (show ∀ k, k < (X u).length → ST (k + 1) = visit d (ST k) (X u)[k]! by
        intro k hk
        rw [hST]
        simp only
        rw [List.take_succ_eq_append_getElem hk, List.foldl_append, getElem!_pos _ k hk]
        rfl)
      have HQ0 := Lib.hid (show BfsAt w.heap.size w wq gd N (ST 0) gq cap by rw [HS0.out]; exact HST2.out)
      have HS02 := Lib.hid (show (bfs X a m).2.length = (ST 0).2.length by rw [HS0.out])
      clear hST HF HNX HST2
      go_loopw [6, 39] (fun vq i wr => ∃ (k gq cap : Nat), k ≤ (X u).length ∧ i = .int .i64 k ∧ vq = .slice (some ⟨gq, 0, none⟩) (ST k).2.length cap ∧ BfsAt w.heap.size w wr gd N (ST k) gq cap) (fun _ i _ => (X u).length - (intOf i).toNat)
      case atStart => exact ⟨0, gq, cap, Nat.zero_le _, rfl, by rw [HS02.out], HQ0.out⟩
      case round =>
        obtain ⟨k, gq, cap, hk, rfl, rfl, hst⟩ := hrel
        have HST := Lib.hid hst
        clear hst HQ0
        obtain ⟨hI, hIm⟩ := HF2.out k hk
        have hlN := hI.toInv.len
        have hdm := hI.toInv.bound m hI.il
        have hdi := hI.di
        have hil := hI.il
        rw [hdi] at hdm
        rw [hIm, Int.toNat_natCast] at hdi
        have hnegs := hI.toInv.neg
        have hd1 := hnegs u
        rw [hdi] at hd1
        have HII := Lib.hid hI
        have HNEG := Lib.hid hnegs
        have HDI := Lib.hid hdi
        have HIM := Lib.hid hIm
        clear hI hdi hnegs hIm
        by_cases hkl : k < (X u).length
        · have hkI : (k : Int) < ((X u).length : Int) := by omega
          obtain ⟨v, hv⟩ : ∃ v, v = (X u)[k]! := ⟨_, rfl⟩
          have hvX : v ∈ X u := by rw [hv, getElem!_pos _ k hkl]; exact List.getElem_mem hkl
          obtain ⟨hv0, hvN⟩ := HX.out u huN v hvX
          obtain ⟨kv, hkv⟩ := Int.eq_ofNat_of_zero_le hv0
          have HSK := Lib.hid (HSS.out k hkl)
          rw [← hv] at HSK
          have HRW := Lib.hid (HR.out.below HST.out.below)
          have hown := HRW.out.own u huN
          rw [hVu] at hown
          obtain ⟨gu, cu', hAu, _, _⟩ := hown.form (by omega)
          injection hAu with hA1 _ hA2
          subst hA1
          subst hA2
          have x0 := own_cell hown k (.int .i64 v) (by rw [cellsI_bang _ _ hkl, hv])
          have hlu := (hown.lt gu rfl).2
          clear hown hv
          subst hkv
          have hkvN : kv < N := by omega
          have r0 := HST.out.row.cell hkvN
          have ru := HST.out.row.cell huN
          rw [HDI.out] at ru
          have fr := HST.out.row.frozen kv
          have hlr := HST.out.row.lt
          have q0 := own_cell HST.out.own m (.int .i64 (u : Int)) (by rw [cellsI_bang _ _ hil, HIM.out])
          have hlq := (HST.out.own.lt gq rfl).2
          have hmI : (m : Int) < ((ST k).2.length : Int) := by omega
          have hng := HNEG.out kv
          by_cases hc : (ST k).1 kv < 0
          · have hdc : decide ((ST k).1 kv < 0) = true := decide_eq_true hc
            have HC := Lib.hid hc
            obtain ⟨HO1, HB1⟩ := HST.out.stored kv (d + 1)
            have HO := Lib.hid HO1
            have HB := Lib.hid HB1
            clear HO1 HB1
            go_wp2_with (at_builtin; refine app_one_at (w0 := w) (W := wr.setCell ⟨gd, kv, none⟩ (.int .i64 (d + 1))) w.heap.size rfl (.tmp 59) (.tmp 61) 23 3 (.int .i64 0) 1 8 rfl Tryz.underlying23 infoN rfl (by decide) (by decide) _ (ST k).2.length (cellsI (ST k).2) [.int .i64 (kv : Int)] rfl (by simp [Value.oneCell']) rfl (by simp [go_sem, Act.eval]) HO.out HB.out HB.out.size (by omega) ?_; intro g' cap' w5 hown5 hb5 hg5 hat5)
            have HV := Lib.hid (HST.out.visited (kv : Int) d (by omega) HC.out hown5 hb5 hg5 hat5)
            have hln : (ST k).2.length + 1 = (visit d (ST k) (kv : Int)).2.length := by
              unfold visit
              rw [if_pos (by exact HC.out)]
              simp
            rw [hln]
            have HLN := Lib.hid hln
            clear hown5 hb5 hg5 hat5 hln r0 ru fr q0 x0 hdc hc
            go_wp2_with fail
            go_roundw
            case rel => exact ⟨k + 1, g', cap', by omega, by go_num, by rw [HSK.out], by rw [HSK.out]; exact HV.out⟩
            case measure => simp [intOf]; omega
          · have hdc : decide ((ST k).1 kv < 0) = false := decide_eq_false hc
            have HSK2 := Lib.hid (show ST (k + 1) = ST k by rw [HSK.out]; unfold visit; rw [if_neg (by exact hc)])
            clear hc ru fr q0
            go_wp2_with fail
            go_roundw
            case rel => exact ⟨k + 1, gq, cap, by omega, by go_num, by rw [HSK2.out], by rw [HSK2.out]; exact HST.out⟩
            case measure => simp [intOf]; omega
        · have hke : k = (X u).length := by omega
          have hd' : decide (k < (X u).length) = false := decide_eq_false hkl
          have HKE := Lib.hid hke
          have HS2 := Lib.hid (show ST k = bfs X a (m + 1) by rw [hke, HSE.out])
          clear hke
          go_wp2_with fail
          go_roundw
          case rel => exact ⟨m + 1, gq, cap, fun j hj => by
              rcases Nat.lt_or_ge j m with h | h
              · exact HJ.out j h
              · obtain rfl : j = m := by omega
                exact HLT.out, by rw [← HS2.out]; omega, by rw [← HS2.out]; omega, by go_num, by rw [HS2.out], by rw [← HS2.out]; exact HST.out⟩
          case measure => simp [intOf]; omega
    · have hme : (bfs X a m).2.length = m := by omega
      have hd' : decide (m < (bfs X a m).2.length) = false := decide_eq_false hlt
      have HEE := Lib.hid (ends_hop HX.out ha ⟨hme, HJ.out⟩)
      clear hme
      go_wp2_with fail
      go_ret
      exact ⟨gd, rfl, hdw, by rw [← HEE.out]; exact HST.out.row, HST.out.below⟩
end Go.Proofs.YtcoddcdiimpndaaGreatDoor
