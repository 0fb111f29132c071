/-
  The walks of grid.Nodes and of GridNearest.
-/
import Derived.Test.YtcoddcdiimpndaaDoorM26
import Derived.Test.YtcoddcdiimpndaaDoorM27
set_option linter.unusedVariables false
set_option linter.unusedSimpArgs false
namespace Go.Proofs.YtcoddcdiimpndaaDoor
open Go.RowKit
set_option maxHeartbeats 1000000 in
theorem gnodes_own (m : Nat) (h1 : 1 ≤ m) (h8 : m ≤ 8) (w : World) (hT : TabOk w) :
    Calls Tryd.prog 19 #[.int .i64 m] w fun e w' => ∃ V, e = .returned (.tuple #[V, .int .i64 0]) ∧ w'.ownsRow w.heap.size 23 4 V (nodes m).length (cellsP (nodes m)) ∧ Below w.heap.size w w' := by
  have hfr := fun W => freq_any m W
  rw [show freqB m = true from by simp [freqB]; omega] at hfr
  have HP := Lib.hid (points_any m h1 h8 w hT)
  clear hT
  go_enter Tryd.func19, Tryd.ntmps19
  go_wp2_with fail
  refine (hfr _).mono ?_
  rintro e w1 ⟨rfl, rfl⟩
  go_wp2_with fail
  refine HP.out.mono ?_
  rintro e w2 ⟨V, rfl, hnet, hb⟩
  have c2 := blk_cell hnet.blk 2 V rfl
  have hlt := blk_lt hnet.blk
  have HN := Lib.hid hnet.row
  have HB := Lib.hid hb
  clear hnet hb
  go_wp2_with fail
  go_ret2
  exact ⟨V, rfl, HN.out, HB.out⟩
theorem gnodes_rd (m : Nat) (h1 : 1 ≤ m) (h8 : m ≤ 8) (w : World) (hT : TabOk w) :
    Calls Tryd.prog 19 #[.int .i64 m] w fun e w' => ∃ g cap, e = .returned (.tuple #[.slice (some ⟨g, 0, none⟩) (nodes m).length cap, .int .i64 0]) ∧ RdE w' g (fun i => (nodes m)[i]!) (nodes m).length ∧ w.heap.size ≤ g ∧ Below w.heap.size w w' := by
  refine (gnodes_own m h1 h8 w hT).mono ?_
  rintro e w1 ⟨V, he, hown, hb⟩
  obtain ⟨g, cap, rfl, hg, _⟩ := hown.form (nodes_len m h1 h8).1
  exact ⟨g, cap, he, RdE.of_own hown, hg, hb⟩
theorem RdE.grown {w w' : World} {g n : Nat} {E : Nat → Pl} {row : Option Nat} (H : RdE w g E n) (hg : w.grownBy w' row) (hne : some g ≠ row) : RdE w' g E n :=
  ⟨Nat.lt_of_lt_of_le H.lt hg.size, fun i hi => ⟨hg.cell (H.cells i hi).1 hne, hg.cell (H.cells i hi).2.1 hne, hg.cell (H.cells i hi).2.2.1 hne, hg.cell (H.cells i hi).2.2.2 hne⟩⟩
set_option maxRecDepth 100000 in
set_option maxHeartbeats 4000000 in
theorem gridNearest_any (v : Value) (w : World) (hT : TabOk w) (hl : IntsArg w v) :
    Calls Tryd.prog 4 #[v] w fun e w' => e = .returned (.bool true) ∧ Below w.heap.size w w' := by
  have hp0 := hT.pos
  have HT0 := Lib.hid hT
  have HL := Lib.hid hl
  clear hT hl
  go_enter Tryd.func4, Tryd.ntmps4
  go_wp2_with fail
  refine (new_any v _ HL.out).mono ?_
  rintro e w1 ⟨rfl, hs1, hb1⟩
  have HS1 := Lib.hid hs1
  have HB1 := Lib.hid hb1
  clear hs1 hb1 HL
  go_wp2_with fail
  refine (range_any 1 5 (by omega) (by omega) (by omega) _ _ _ HS1.out).mono ?_
  rintro e w2 ⟨n, rfl, hn0, hn1, hs2, hg2⟩
  have HS2 := Lib.hid hs2
  have HB2 := Lib.hid (grown_low HB1.out hg2 HB1.out.size (Nat.le_refl _))
  clear hs2 hg2 HS1 HB1
  obtain ⟨n, rfl⟩ := Int.eq_ofNat_of_zero_le (show 0 ≤ n by omega)
  have hm1 : 1 ≤ n := by omega
  have hm5 : n ≤ 5 := by omega
  have hm8 : n ≤ 8 := by omega
  clear hn0 hn1
  go_wp2_with fail
  refine (somewhere_any _ _ _ HS2.out).mono ?_
  rintro e w3 ⟨f, a, b, c, rfl, hv, hs3, hg3⟩
  have HS3 := Lib.hid hs3
  have HB3 := Lib.hid (grown_low HB2.out hg3 HB2.out.size (Nat.le_refl _))
  have HV := Lib.hid hv
  clear hs3 hg3 HS2 HB2 hv
  have hfr : freqB n = true := by simp [freqB]; omega
  have hok : okB n f a b c = true := by simp [okB, hfr, HV.out]
  have hge : gErr n f a b c = 0 := by simp [gErr, hok]
  have hgl : gLoc n f a b c = locS (nodes n) (840 / n) n f a b c := by simp [gLoc, hok]
  have hgn : gNear n f a b c = nearS (locS (nodes n) (840 / n) n f a b c) := by simp [gNear, hok, hgl]
  have hh : n * (840 / n) = 840 := by
    have : n = 1 ∨ n = 2 ∨ n = 3 ∨ n = 4 ∨ n = 5 := by omega
    rcases this with rfl | rfl | rfl | rfl | rfl <;> decide
  have hnf := near_facts _ (locS_len (nodes n) (840 / n) n f a b c HV.out hm1 hh).1 (loc_rises n (840 / n) hm1 hm8 rfl hh f a b c HV.out) (locS_weights n (840 / n) hm1 hm8 rfl hh f a b c HV.out)
  have hlp := locS_len (nodes n) (840 / n) n f a b c HV.out hm1 hh
  have HC1 := Lib.hid (fun (W : World) (h : TabOk W) => gnearest_any n f a b c W h)
  have HC2 := Lib.hid (fun (W : World) (h : TabOk W) => glocate_any n f a b c W h)
  rw [hge, hgn] at HC1
  rw [hge, hgl] at HC2
  generalize locS (nodes n) (840 / n) n f a b c = L at hnf hlp HC1 HC2
  have HNF := Lib.hid hnf
  have HTT := Lib.hid (fun (W : World) (h : Below w.heap.size w W) => HT0.out.below h)
  clear hfr hok hge hgl hgn hh hnf HT0
  obtain ⟨w4, hw4⟩ : ∃ w4, w4 = w3.alloc (.cells #[.int .i64 f, .int .i64 a, .int .i64 b, .int .i64 c] 23) := ⟨_, rfl⟩
  have HS4 := Lib.hid (show SrcOk w4 w.heap.size w.heap.size by rw [hw4]; exact src_new HS3.out _)
  have HB4 := Lib.hid (show Below w.heap.size w w4 by rw [hw4]; exact below_alloc HB3.out _)
  have HP4 := Lib.hid (show w4.heap[w3.heap.size]? = some (.cells #[.int .i64 f, .int .i64 a, .int .i64 b, .int .i64 c] 23 (0, 0)) by rw [hw4]; exact blk_new w3 _)
  have hsrc3 := (src_lt HS3.out).1
  go_upto_region 4 with fail
  rw [← hw4]
  clear hw4 HS3 HB3
  have d0 := blk_cell HP4.out 0 (.int .i64 f) rfl
  have d1 := blk_cell HP4.out 1 (.int .i64 a) rfl
  have d2 := blk_cell HP4.out 2 (.int .i64 b) rfl
  have d3 := blk_cell HP4.out 3 (.int .i64 c) rfl
  have hlD := blk_lt HP4.out
  go_wp2_with fail
  refine (HC1.out _ (HTT.out _ HB4.out)).mono ?_
  rintro e w5 ⟨rfl, hb⟩
  have HP5 := Lib.hid (blk_below hb HP4.out (blk_lt HP4.out))
  have HS5 := Lib.hid (HS4.out.below hb (by have := HB4.out.size; omega))
  have HB5 := Lib.hid (below_then HB4.out hb HB4.out.size)
  clear hb d0 d1 d2 d3 hlD
  have d0 := blk_cell HP5.out 0 (.int .i64 f) rfl
  have d1 := blk_cell HP5.out 1 (.int .i64 a) rfl
  have d2 := blk_cell HP5.out 2 (.int .i64 b) rfl
  have d3 := blk_cell HP5.out 3 (.int .i64 c) rfl
  have hlD := blk_lt HP5.out
  go_wp2_with fail
  refine (HC2.out _ (HTT.out _ HB5.out)).mono ?_
  rintro e w6 ⟨V, rfl, hown, hb⟩
  have HS6 := Lib.hid (HS5.out.below hb (by have := HB5.out.size; have := (src_lt HS5.out).1; omega))
  have HB6 := Lib.hid (below_then HB5.out hb HB5.out.size)
  obtain ⟨g, cap, hV, _, hgl⟩ := hown.form hlp.1
  rw [hV] at hown ⊢
  have HR6 := Lib.hid (RdS.of_own hown)
  change Hid (RdS w6 g (fun i : Nat => L[i]!) L.length) at HR6
  change Hid (ownTo (nearS L) (fun i : Nat => L[i]!) L.length = mostTo (fun i : Nat => L[i]!) L.length ∧ 0 < mostTo (fun i : Nat => L[i]!) L.length ∧ ∀ i : Nat, i < L.length → ((fun i : Nat => L[i]!) i).w = mostTo (fun i : Nat => L[i]!) L.length → nearS L ≤ ((fun i : Nat => L[i]!) i).node) at HNF
  obtain ⟨hlp1, hlp2⟩ := hlp
  clear hb hown d0 d1 d2 d3 hlD hV HP4 HP5 HC1 HC2
  generalize nearS L = k at *
  generalize (fun i : Nat => L[i]!) = E at *
  generalize L.length = len at *
  go_wp2_with fail
  go_loopw [10, 11, 47] (fun s10 s11 s47 wr => ∃ i : Nat, i ≤ len ∧ s47 = .int .i64 i ∧ s10 = .int .i64 (ownTo k E i) ∧ s11 = .int .i64 (mostTo E i) ∧ Below w6.heap.size w6 wr) (fun _ _ s47 _ => len - (intOf s47).toNat)
  case atStart => exact ⟨0, Nat.zero_le _, rfl, rfl, rfl, Below.refl _ _⟩
  case round =>
    obtain ⟨i, hi, rfl, rfl, rfl, hb⟩ := hrel
    have HB := Lib.hid hb
    have HRR := Lib.hid (HR6.out.below hb HR6.out.lt)
    clear hb
    by_cases hin : i < len
    · have hinI : (i : Int) < (len : Int) := by omega
      obtain ⟨q0, q1⟩ := HRR.out.cells i hin
      have hgr := HRR.out.lt
      generalize hM : mostTo E i = M
      generalize hO : ownTo k E i = O
      have HM := Lib.hid hM
      have HO := Lib.hid hO
      clear hM hO
      by_cases hm : M < (E i).w
      · have hm' : M ≤ (E i).w := by omega
        have HM1 := Lib.hid (show mostTo E (i + 1) = (E i).w by rw [mostTo, HM.out, if_pos hm])
        by_cases hk : (E i).node = k
        · have hd : ((E i).node == k) = true := by simpa using hk
          have HO1 := Lib.hid (show ownTo k E (i + 1) = (E i).w by rw [ownTo, if_pos hk])
          clear hk
          go_wp2_with fail
          go_roundw
          case rel => exact ⟨i + 1, by omega, by go_num, by rw [HO1.out], by rw [HM1.out]; first | done | rfl | (rw [show max M (E i).w = (E i).w by omega]), HB.out.alloc HB.out.size _⟩
          case measure => simp [intOf]; omega
        · have hd : ((E i).node == k) = false := by simpa using hk
          have HO1 := Lib.hid (show ownTo k E (i + 1) = O by rw [ownTo, if_neg hk, HO.out])
          clear hk
          go_wp2_with fail
          go_roundw
          case rel => exact ⟨i + 1, by omega, by go_num, by rw [HO1.out], by rw [HM1.out]; first | done | rfl | (rw [show max M (E i).w = (E i).w by omega]), HB.out.alloc HB.out.size _⟩
          case measure => simp [intOf]; omega
      · have hm' : (E i).w ≤ M := by omega
        have HM1 := Lib.hid (show mostTo E (i + 1) = M by rw [mostTo, HM.out, if_neg hm])
        by_cases hk : (E i).node = k
        · have hd : ((E i).node == k) = true := by simpa using hk
          have HO1 := Lib.hid (show ownTo k E (i + 1) = (E i).w by rw [ownTo, if_pos hk])
          clear hk
          go_wp2_with fail
          go_roundw
          case rel => exact ⟨i + 1, by omega, by go_num, by rw [HO1.out], by rw [HM1.out]; first | done | rfl | (rw [show max M (E i).w = M by omega]), HB.out.alloc HB.out.size _⟩
          case measure => simp [intOf]; omega
        · have hd : ((E i).node == k) = false := by simpa using hk
          have HO1 := Lib.hid (show ownTo k E (i + 1) = O by rw [ownTo, if_neg hk, HO.out])
          clear hk
          go_wp2_with fail
          go_roundw
          case rel => exact ⟨i + 1, by omega, by go_num, by rw [HO1.out], by rw [HM1.out]; first | done | rfl | (rw [show max M (E i).w = M by omega]), HB.out.alloc HB.out.size _⟩
          case measure => simp [intOf]; omega
    · have hd : decide (i < len) = false := decide_eq_false hin
      obtain rfl : len = i := by omega
      obtain ⟨n1, n2, n3⟩ := HNF.out
      rw [n1]
      generalize mostTo E len = M at *
      have HN3 := Lib.hid n3
      have hM0 : decide (0 < M) = true := decide_eq_true n2
      have HS7 := Lib.hid (HS6.out.below HB.out (src_lt HS6.out).1)
      have HB7 := Lib.hid (below_then HB6.out HB.out HB6.out.size)
      have HR7 := Lib.hid HRR.out
      clear n1 n3 HB HRR HR6 HB6 HS6 HNF
      obtain ⟨W7, hW7⟩ : ∃ W7, W7 = wr := ⟨_, rfl⟩
      rw [← hW7] at HR7 HB7 HS7 ⊢
      clear hW7
      go_wp2_with fail
      go_loopw [64] (fun s64 wr => ∃ i : Nat, i ≤ len ∧ s64 = .int .i64 i ∧ Below W7.heap.size W7 wr) (fun s64 _ => len - (intOf s64).toNat)
      case atStart => exact ⟨0, Nat.zero_le _, rfl, Below.refl _ _⟩
      case round =>
        obtain ⟨i, hi, rfl, hb⟩ := hrel
        have HB := Lib.hid hb
        have HRR := Lib.hid (HR7.out.below hb HR7.out.lt)
        clear hb
        by_cases hin : i < len
        · have hinI : (i : Int) < (len : Int) := by omega
          obtain ⟨q0, q1⟩ := HRR.out.cells i hin
          have hgr := HRR.out.lt
          have hc := HN3.out i hin
          by_cases hw : (E i).w = M
          · have hdw : ((E i).w == M) = true := by simpa using hw
            have hdk : decide ((E i).node < k) = false := decide_eq_false (by have := hc hw; omega)
            clear hw hc
            go_wp2_with fail
            go_roundw
            case rel => exact ⟨i + 1, by omega, by go_num, HB.out.alloc HB.out.size _⟩
            case measure => simp [intOf]; omega
          · have hdw : ((E i).w == M) = false := by simpa using hw
            clear hw hc
            go_wp2_with fail
            go_roundw
            case rel => exact ⟨i + 1, by omega, by go_num, HB.out.alloc HB.out.size _⟩
            case measure => simp [intOf]; omega
        · have hd : decide (i < len) = false := decide_eq_false hin
          have HS8 := Lib.hid (HS7.out.below HB.out (src_lt HS7.out).1)
          have HB8 := Lib.hid (below_then HB7.out HB.out HB7.out.size)
          clear HB HRR HS7 HB7 HR7 HN3
          go_wp2_with fail
          refine (gnodes_rd n hm1 hm8 _ (HTT.out _ HB8.out)).mono ?_
          rintro e w9 ⟨gn, capn, rfl, hrd, hgn, hb⟩
          have hgs : w.heap.size < gn := Nat.lt_of_lt_of_le (src_lt HS8.out).1 hgn
          have HS9 := Lib.hid (HS8.out.below hb (src_lt HS8.out).1)
          have HB9 := Lib.hid (below_then HB8.out hb HB8.out.size)
          have HR9 := Lib.hid hrd
          have hnl := nodes_len n hm1 hm8
          have HNL := Lib.hid (fun m (hm : m < (nodes n).length) => node_loc n m hm1 hm8 hm)
          change Hid (RdE w9 gn (fun i : Nat => (nodes n)[i]!) (nodes n).length) at HR9
          change Hid (∀ m : Nat, m < (nodes n).length → gLoc n ((fun i : Nat => (nodes n)[i]!) m).f ((fun i : Nat => (nodes n)[i]!) m).a ((fun i : Nat => (nodes n)[i]!) m).b ((fun i : Nat => (nodes n)[i]!) m).c = [⟨m, 840⟩] ∧ gNear n ((fun i : Nat => (nodes n)[i]!) m).f ((fun i : Nat => (nodes n)[i]!) m).a ((fun i : Nat => (nodes n)[i]!) m).b ((fun i : Nat => (nodes n)[i]!) m).c = m ∧ gErr n ((fun i : Nat => (nodes n)[i]!) m).f ((fun i : Nat => (nodes n)[i]!) m).a ((fun i : Nat => (nodes n)[i]!) m).b ((fun i : Nat => (nodes n)[i]!) m).c = 0) at HNL
          generalize (fun i : Nat => (nodes n)[i]!) = N at HR9 HNL
          obtain ⟨hnl1, hnl2⟩ := hnl
          generalize (nodes n).length = nl at *
          have hz : ((nl : Int) == 0) = false := by simp; omega
          have hz2 : (nl == 0) = false := by simp; omega
          clear hb hrd HS8 HB8
          go_wp2_with fail
          refine (n_any nl (by omega) (by omega) _ _ _ HS9.out).mono ?_
          rintro e w10 ⟨m, rfl, hm0, hmn, hs10, hg10⟩
          have HB10 := Lib.hid (grown_low HB9.out hg10 HB9.out.size (Nat.le_refl _))
          obtain ⟨m, rfl⟩ := Int.eq_ofNat_of_zero_le hm0
          have hmn' : m < nl := by omega
          have HR10 := Lib.hid (RdE.grown HR9.out hg10 (by simp; omega))
          obtain ⟨q0, q1, q2, q3⟩ := HR10.out.cells m hmn'
          have hlg := HR10.out.lt
          have hmI : (m : Int) < (nl : Int) := by omega
          obtain ⟨_, e2, e3⟩ := HNL.out m hmn'
          have HC := Lib.hid (fun (W : World) (h : TabOk W) => gnearest_any n (N m).f (N m).a (N m).b (N m).c W h)
          rw [e2, e3] at HC
          clear hs10 hg10 e2 e3 hz hz2 HB9 HS9
          go_wp2_with fail
          refine (HC.out _ (HTT.out _ HB10.out)).mono ?_
          rintro e w11 ⟨rfl, hb⟩
          have HB11 := Lib.hid (below_then HB10.out hb HB10.out.size)
          clear hb q0 q1 q2 q3
          go_wp2_with fail
          refine (awake_any _ (HTT.out _ HB11.out)).mono ?_
          rintro e w12 ⟨rfl, hb⟩
          have HB12 := Lib.hid (below_then HB11.out hb HB11.out.size)
          clear hb
          go_wp2_with fail
          go_ret
          exact ⟨rfl, HB12.out⟩
end Go.Proofs.YtcoddcdiimpndaaDoor
