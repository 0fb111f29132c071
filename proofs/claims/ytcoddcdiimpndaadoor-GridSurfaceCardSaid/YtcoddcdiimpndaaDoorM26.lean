/-
  The walks of awake and of GridAnswers.
-/
import Derived.Test.YtcoddcdiimpndaaDoorM23
import Derived.Test.YtcoddcdiimpndaaDoorM25
set_option linter.unusedVariables false
set_option linter.unusedSimpArgs false
namespace Go.Proofs.YtcoddcdiimpndaaDoor
open Go.RowKit
theorem aw_idx1 : gIdx 2 0 840 0 0 = 5 ∧ gIErr 2 0 840 0 0 = 0 := by decide +kernel
theorem aw_idx2 : gIdx 2 0 420 420 0 = 4 ∧ gIErr 2 0 420 420 0 = 0 := by decide +kernel
theorem aw_err : gErr 2 0 630 210 0 = 0 := by decide +kernel
theorem aw_at1 : atF 2 0 840 0 0 = 5 := by decide +kernel
theorem aw_at2 : atF 2 0 420 420 0 = 4 := by decide +kernel
theorem aw_loc : gLoc 2 0 630 210 0 = [⟨4, 420⟩, ⟨5, 420⟩] := by
  have e : gLoc 2 0 630 210 0 = locS (nodes 2) 420 2 0 630 210 0 := by
    have h : okB 2 0 630 210 0 = true := by decide
    unfold gLoc
    rw [if_pos h]
    rfl
  rw [e, ← (loc_up 2 420 (by omega) (by omega) (by omega) (by omega) 0 630 210 0 (by decide) _ _ _ rfl rfl rfl (by decide)).2.2.2]
  have h1 : (630 : Int) / ((420 : Nat) : Int) * ((420 : Nat) : Int) + ((420 : Nat) : Int) = 840 := by decide
  have h2 : (210 : Int) / ((420 : Nat) : Int) * ((420 : Nat) : Int) = 0 := by decide
  have h3 : (0 : Int) / ((420 : Nat) : Int) * ((420 : Nat) : Int) = 0 := by decide
  have h4 : (630 : Int) / ((420 : Nat) : Int) * ((420 : Nat) : Int) = 420 := by decide
  rw [h1, h2, h3, h4]
  have e1 : (0 : Int) + ((420 : Nat) : Int) = 420 := by decide
  rw [e1, aw_at1, aw_at2]
  have w0 : (630 : Int) % ((420 : Nat) : Int) * ((2 : Nat) : Int) = 420 := by decide
  have w1 : (210 : Int) % ((420 : Nat) : Int) * ((2 : Nat) : Int) = 420 := by decide
  have w2 : (0 : Int) % ((420 : Nat) : Int) * ((2 : Nat) : Int) = 0 := by decide
  rw [w0, w1, w2]
  simp [shareL, ins]
set_option maxRecDepth 100000 in
set_option maxHeartbeats 2000000 in
theorem awake_any (w : World) (hT : TabOk w) : Calls Tryd.prog 18 #[] w fun e w' => e = .returned (.bool true) ∧ Below w.heap.size w w' := by
  have HT := Lib.hid hT
  have HC1 := Lib.hid (fun (W : World) (h : TabOk W) => gindex_any 2 0 840 0 0 W h)
  have HC2 := Lib.hid (fun (W : World) (h : TabOk W) => gindex_any 2 0 420 420 0 W h)
  have HC3 := Lib.hid (fun (W : World) (h : TabOk W) => glocate_any 2 0 630 210 0 W h)
  rw [aw_idx1.1, aw_idx1.2] at HC1
  rw [aw_idx2.1, aw_idx2.2] at HC2
  rw [aw_err, aw_loc] at HC3
  have HCN := Lib.hid (fun W => count_any 2 W)
  rw [show gCount 2 = 42 from by decide] at HCN
  clear hT
  go_enter Tryd.func18, Tryd.ntmps18
  go_wp2_with fail
  refine (HC1.out _ HT.out).mono ?_
  rintro e w1 ⟨rfl, hb1⟩
  have HB1 := Lib.hid hb1
  have HT1 := Lib.hid (HT.out.below hb1)
  clear hb1
  go_wp2_with fail
  refine (HC2.out _ HT1.out).mono ?_
  rintro e w2 ⟨rfl, hb2⟩
  have HB2 := Lib.hid (below_then HB1.out hb2 HB1.out.size)
  have HT2 := Lib.hid (HT1.out.below hb2)
  clear hb2
  go_wp2_with fail
  refine (HC3.out _ HT2.out).mono ?_
  rintro e w3 ⟨v, rfl, hown, hb3⟩
  have HB3 := Lib.hid (below_then HB2.out hb3 HB2.out.size)
  have HO3 := Lib.hid hown
  clear hb3 hown
  go_wp2_with fail
  refine (HCN.out _).mono ?_
  rintro e w4 ⟨rfl, rfl⟩
  go_wp2_with fail
  refine (shares_true [⟨4, 420⟩, ⟨5, 420⟩] (by simp) _ _ _ w3.heap.size _ (HO3.out.alloc _) (own_new w3 w3.heap.size 41 2 (cellsS [⟨4, 420⟩, ⟨5, 420⟩]) 2 rfl (Nat.le_refl _) (by omega))).mono ?_
  rintro e w5 ⟨rfl, hb5⟩
  have HB5 := Lib.hid (below_then (below_alloc HB3.out _) hb5 (by have := HB3.out.size; simp; omega))
  clear hb5
  go_wp2_with fail
  go_ret
  exact ⟨rfl, HB5.out⟩
--LAW
theorem ints_below {w w' : World} {v : Value} (h : IntsArg w v) (hb : Below w.heap.size w w') : IntsArg w' v := by
  rcases h with rfl | ⟨a, len, cap, Z, rfl, hl, hm, hc⟩
  · exact .inl rfl
  · exact .inr ⟨a, len, cap, Z, rfl, hl, hm, fun i hi => (hb.cell (p := a.add i) (cell_ltk (hc i hi))).trans (hc i hi)⟩
theorem grown_low {B : Nat} {w w1 w2 : World} {b : Nat} (h : Below B w w1) (hg : w1.grownBy w2 (some b)) (hB : B ≤ w1.heap.size) (hb : B ≤ b) : Below B w w2 :=
  h.grown hg hB (fun k hk => by cases hk; exact hb)
theorem gLoc_len (n f a b c : Int) : (gLoc n f a b c).length ≤ 1000000 := by
  unfold gLoc
  split
  · rename_i hok
    have hq : freqB n = true := (Bool.and_eq_true_iff.1 hok).1
    have hv : validB f a b c = true := (Bool.and_eq_true_iff.1 hok).2
    obtain ⟨m, rfl, h1, h8, hh⟩ := freq_nat hq
    rw [Int.toNat_natCast]
    have := (locS_len (nodes m) (840 / m) m f a b c hv h1 hh).2
    omega
  · simp
set_option maxRecDepth 100000 in
set_option maxHeartbeats 4000000 in
theorem gridAnswers_any (n f a b c : Int) (v : Value) (w : World) (hT : TabOk w) (hl : IntsArg w v) :
    Calls Tryd.prog 3 #[.int .i64 n, .agg #[.int .i64 f, .int .i64 a, .int .i64 b, .int .i64 c], v] w fun e w' => e = .returned (.bool true) ∧ Below w.heap.size w w' := by
  have hp0 := hT.pos
  have HBA := Lib.hid ((Below.refl w.heap.size w).alloc (Nat.le_refl _) (.cells #[.int .i64 f, .int .i64 a, .int .i64 b, .int .i64 c] 23))
  have HPB := Lib.hid (blk_new w (.cells #[.int .i64 f, .int .i64 a, .int .i64 b, .int .i64 c] 23))
  have HL := Lib.hid (ints_below hl HBA.out)
  have HT0 := Lib.hid hT
  clear hT hl
  go_enter Tryd.func3, Tryd.ntmps3
  go_wp2_with fail
  refine (new_any v _ HL.out).mono ?_
  rintro e w1 ⟨rfl, hs1, hb1⟩
  rw [World.size_alloc] at hs1 ⊢
  have HS1 := Lib.hid hs1
  have HB1 := Lib.hid (below_then HBA.out hb1 HBA.out.size)
  have HP1 := Lib.hid (blk_below hb1 HPB.out (blk_lt HPB.out))
  clear hs1 hb1 HL HPB HBA
  go_wp2_with fail
  refine (somewhere_any _ _ _ HS1.out).mono ?_
  rintro e w2 ⟨f2, a2, b2, c2, rfl, _, hs2, hg2⟩
  have HS2 := Lib.hid hs2
  have HB2 := Lib.hid (grown_low HB1.out hg2 HB1.out.size (Nat.le_succ _))
  have HP2 := Lib.hid (blk_grown hg2 HP1.out (by omega))
  clear hs2 hg2 HS1 HB1 HP1
  go_wp2_with fail
  have HS2b := Lib.hid (src_new HS2.out (.cells #[.int .i64 f2, .int .i64 a2, .int .i64 b2, .int .i64 c2] 23))
  refine (range_any 1 8 (by omega) (by omega) (by omega) _ _ _ HS2b.out).mono ?_
  rintro e w3 ⟨k, rfl, hk0, hk1, hs3, hg3⟩
  have HB3 := Lib.hid (grown_low (below_alloc HB2.out _) hg3 (by have := HB2.out.size; simp; omega) (Nat.le_succ _))
  have HP3 := Lib.hid (blk_grown hg3 (blk_old _ HP2.out) (by omega))
  have hlt2 := (src_lt HS2.out).1
  have HX3 := Lib.hid (blk_grown hg3 (blk_new w2 _) (by omega))
  have hlP := blk_lt HP3.out
  have hlX := blk_lt HX3.out
  clear hs3 hg3 HS2 HS2b HB2 HP2
  obtain ⟨K, hK0, hK1⟩ : ∃ K : Nat → Int, K 0 = n ∧ K 1 = k := ⟨fun i => if i = 0 then n else k, rfl, rfl⟩
  obtain ⟨W0, hW0⟩ : ∃ W0, W0 = w3.alloc (.cells #[.int .i64 n, .int .i64 k] 3) := ⟨_, rfl⟩
  go_wp2_with fail
  rw [← hW0]
  have HK := Lib.hid (show W0.heap[w3.heap.size]? = some (.cells #[.int .i64 (K 0), .int .i64 (K 1)] 3 (0, 0)) by rw [hW0, hK0, hK1]; exact blk_new w3 _)
  have HB4 := Lib.hid (show Below w.heap.size w W0 by rw [hW0]; exact below_alloc HB3.out _)
  have HP4 := Lib.hid (show W0.heap[w.heap.size]? = some (.cells #[.int .i64 f, .int .i64 a, .int .i64 b, .int .i64 c] 23 (0, 0)) by rw [hW0]; exact blk_old _ HP3.out)
  have HX4 := Lib.hid (show W0.heap[w2.heap.size]? = some (.cells #[.int .i64 f2, .int .i64 a2, .int .i64 b2, .int .i64 c2] 23 (0, 0)) by rw [hW0]; exact blk_old _ HX3.out)
  have hsz0 := blk_lt HK.out
  clear hW0 hK0 hK1 HB3 HP3 HX3
  go_loopw [34] (fun s wr => ∃ i : Nat, i ≤ 2 ∧ s = .int .i64 i ∧ Below W0.heap.size W0 wr) (fun s _ => 2 - (intOf s).toNat)
  case atStart => exact ⟨0, by omega, rfl, Below.refl _ _⟩
  case round =>
    obtain ⟨i, hi, rfl, hbr⟩ := hrel
    have HBR := Lib.hid hbr
    have HKR := Lib.hid (blk_below hbr HK.out hsz0)
    have HPR := Lib.hid (blk_below hbr HP4.out (blk_lt HP4.out))
    have HXR := Lib.hid (blk_below hbr HX4.out (blk_lt HX4.out))
    clear hbr
    by_cases hi2 : i < 2
    · have hiI : (i : Int) < 2 := by omega
      have hk : wr.cell? ⟨w3.heap.size, i, none⟩ = some (.int .i64 (K i)) := blk_cell HKR.out i _ (by rcases (show i = 0 ∨ i = 1 by omega) with h | h <;> subst h <;> rfl)
      have p0 := blk_cell HPR.out 0 (.int .i64 f) rfl
      have x0 := blk_cell HXR.out 0 (.int .i64 f2) rfl
      have p1 := blk_cell HPR.out 1 (.int .i64 a) rfl
      have x1 := blk_cell HXR.out 1 (.int .i64 a2) rfl
      have p2 := blk_cell HPR.out 2 (.int .i64 b) rfl
      have x2 := blk_cell HXR.out 2 (.int .i64 b2) rfl
      have p3 := blk_cell HPR.out 3 (.int .i64 c) rfl
      have x3 := blk_cell HXR.out 3 (.int .i64 c2) rfl
      have hlP := blk_lt HPR.out
      have hlX := blk_lt HXR.out
      generalize K i = kk at hk
      go_wp2_with fail
      refine (count_any kk _).mono ?_
      rintro e w4 ⟨rfl, rfl⟩
      go_wp2_with fail
      refine (rcount_any kk _).mono ?_
      rintro e w4 ⟨rfl, rfl⟩
      obtain ⟨W1, hW1⟩ : ∃ W1, W1 = wr.alloc (.cells #[.int .i64 f, .int .i64 a, .int .i64 b, .int .i64 c, .int .i64 f2, .int .i64 a2, .int .i64 b2, .int .i64 c2] 23) := ⟨_, rfl⟩
      go_wp2_with fail
      rw [← hW1]
      obtain ⟨Qf, hQf0, hQf1⟩ : ∃ Q : Nat → Int, Q 0 = f ∧ Q 1 = f2 := ⟨fun i => if i = 0 then f else f2, rfl, rfl⟩
      obtain ⟨Qa, hQa0, hQa1⟩ : ∃ Q : Nat → Int, Q 0 = a ∧ Q 1 = a2 := ⟨fun i => if i = 0 then a else a2, rfl, rfl⟩
      obtain ⟨Qb, hQb0, hQb1⟩ : ∃ Q : Nat → Int, Q 0 = b ∧ Q 1 = b2 := ⟨fun i => if i = 0 then b else b2, rfl, rfl⟩
      obtain ⟨Qc, hQc0, hQc1⟩ : ∃ Q : Nat → Int, Q 0 = c ∧ Q 1 = c2 := ⟨fun i => if i = 0 then c else c2, rfl, rfl⟩
      have HQ := Lib.hid (show W1.heap[wr.heap.size]? = some (.cells #[.int .i64 (Qf 0), .int .i64 (Qa 0), .int .i64 (Qb 0), .int .i64 (Qc 0), .int .i64 (Qf 1), .int .i64 (Qa 1), .int .i64 (Qb 1), .int .i64 (Qc 1)] 23 (0, 0)) by rw [hW1, hQf0, hQf1, hQa0, hQa1, hQb0, hQb1, hQc0, hQc1]; exact blk_new wr _)
      have HB5 := Lib.hid (show Below W0.heap.size W0 W1 by rw [hW1]; exact HBR.out.alloc HBR.out.size _)
      have hsz1 := blk_lt HQ.out
      clear hW1 hQf0 hQf1 hQa0 hQa1 hQb0 hQb1 hQc0 hQc1 hk p0 p1 p2 p3 x0 x1 x2 x3
      obtain ⟨S, hS⟩ : ∃ S, S = wr.heap.size := ⟨_, rfl⟩
      rw [← hS]
      rw [← hS] at HQ hsz1
      clear hS HBR HKR HPR HXR hlP hlX
      go_loopw [47] (fun s wr => ∃ j : Nat, j ≤ 2 ∧ s = .int .i64 j ∧ Below W1.heap.size W1 wr) (fun s _ => 2 - (intOf s).toNat)
      case atStart => exact ⟨0, by omega, rfl, Below.refl _ _⟩
      case round =>
        obtain ⟨j, hj, rfl, hbr⟩ := hrel
        have HBR := Lib.hid hbr
        have HQR := Lib.hid (blk_below hbr HQ.out hsz1)
        have HTR := Lib.hid (HT0.out.below (HB4.out.trans ((HB5.out.trans (hbr.mono HB5.out.size)).mono HB4.out.size)))
        clear hbr
        by_cases hj2 : j < 2
        · have hjI : (j : Int) < 2 := by omega
          have hj01 : j = 0 ∨ j = 1 := by omega
          have q0 : wr.cell? ⟨S, j * 4, none⟩ = some (.int .i64 (Qf j)) := by rcases hj01 with h | h <;> (rw [h]; exact blk_cell HQR.out _ _ rfl)
          have q1 : wr.cell? ⟨S, j * 4 + 1, none⟩ = some (.int .i64 (Qa j)) := by rcases hj01 with h | h <;> (rw [h]; exact blk_cell HQR.out _ _ rfl)
          have q2 : wr.cell? ⟨S, j * 4 + 2, none⟩ = some (.int .i64 (Qb j)) := by rcases hj01 with h | h <;> (rw [h]; exact blk_cell HQR.out _ _ rfl)
          have q3 : wr.cell? ⟨S, j * 4 + 3, none⟩ = some (.int .i64 (Qc j)) := by rcases hj01 with h | h <;> (rw [h]; exact blk_cell HQR.out _ _ rfl)
          generalize Qf j = gf at q0
          generalize Qa j = ga at q1
          generalize Qb j = gb at q2
          generalize Qc j = gc at q3
          have hlS := blk_lt HQR.out
          clear hj01
          obtain ⟨w5, hw5⟩ : ∃ w5, w5 = wr.alloc (.cells #[.int .i64 gf, .int .i64 ga, .int .i64 gb, .int .i64 gc] 23) := ⟨_, rfl⟩
          have HD5 := Lib.hid (show w5.heap[wr.heap.size]? = some (.cells #[.int .i64 gf, .int .i64 ga, .int .i64 gb, .int .i64 gc] 23 (0, 0)) by rw [hw5]; exact blk_new wr _)
          have HB6 := Lib.hid (show Below W1.heap.size W1 w5 by rw [hw5]; exact HBR.out.alloc HBR.out.size _)
          have HT5 := Lib.hid (show TabOk w5 by rw [hw5]; exact HTR.out.alloc _)
          go_upto_region 11 with fail
          rw [← hw5]
          clear hw5 q0 q1 q2 q3
          have d0 := blk_cell HD5.out 0 (.int .i64 gf) rfl
          have d1 := blk_cell HD5.out 1 (.int .i64 ga) rfl
          have d2 := blk_cell HD5.out 2 (.int .i64 gb) rfl
          have d3 := blk_cell HD5.out 3 (.int .i64 gc) rfl
          have hlD := blk_lt HD5.out
          go_wp2_with fail
          refine (gindex_any kk gf ga gb gc _ HT5.out).mono ?_
          rintro e w6 ⟨rfl, hb⟩
          have HD6 := Lib.hid (blk_below hb HD5.out (blk_lt HD5.out))
          have HB7 := Lib.hid (below_then HB6.out hb HB6.out.size)
          have HT6 := Lib.hid (HT5.out.below hb)
          clear hb d0 d1 d2 d3 hlD
          have d0 := blk_cell HD6.out 0 (.int .i64 gf) rfl
          have d1 := blk_cell HD6.out 1 (.int .i64 ga) rfl
          have d2 := blk_cell HD6.out 2 (.int .i64 gb) rfl
          have d3 := blk_cell HD6.out 3 (.int .i64 gc) rfl
          have hlD := blk_lt HD6.out
          go_wp2_with fail
          refine (rindex_any kk gf ga gb gc _).mono ?_
          rintro e w7 ⟨rfl, hb⟩
          have HD7 := Lib.hid (blk_below hb HD6.out (blk_lt HD6.out))
          have HB8 := Lib.hid (below_then HB7.out hb HB7.out.size)
          have HT7 := Lib.hid (HT6.out.below hb)
          clear hb d0 d1 d2 d3 hlD
          have d0 := blk_cell HD7.out 0 (.int .i64 gf) rfl
          have d1 := blk_cell HD7.out 1 (.int .i64 ga) rfl
          have d2 := blk_cell HD7.out 2 (.int .i64 gb) rfl
          have d3 := blk_cell HD7.out 3 (.int .i64 gc) rfl
          have hlD := blk_lt HD7.out
          go_wp2_with fail
          refine (glocate_any kk gf ga gb gc _ HT7.out).mono ?_
          rintro e w8 ⟨v8, rfl, hown, hb⟩
          have HO8_8 := Lib.hid hown
          have HD8 := Lib.hid (blk_below hb HD7.out (blk_lt HD7.out))
          have HB9 := Lib.hid (below_then HB8.out hb HB8.out.size)
          have HT8 := Lib.hid (HT7.out.below hb)
          clear hb d0 d1 d2 d3 hlD hown
          have d0 := blk_cell HD8.out 0 (.int .i64 gf) rfl
          have d1 := blk_cell HD8.out 1 (.int .i64 ga) rfl
          have d2 := blk_cell HD8.out 2 (.int .i64 gb) rfl
          have d3 := blk_cell HD8.out 3 (.int .i64 gc) rfl
          have hlD := blk_lt HD8.out
          go_wp2_with fail
          refine (rlocate_any kk gf ga gb gc _).mono ?_
          rintro e w9 ⟨v9, rfl, hown, hb⟩
          have HO9_9 := Lib.hid hown
          have HD9 := Lib.hid (blk_below hb HD8.out (blk_lt HD8.out))
          have HB10 := Lib.hid (below_then HB9.out hb HB9.out.size)
          have HT9 := Lib.hid (HT8.out.below hb)
          have HO8_9 := Lib.hid (own_below HO8_8.out hb)
          clear hb d0 d1 d2 d3 hlD hown
          have d0 := blk_cell HD9.out 0 (.int .i64 gf) rfl
          have d1 := blk_cell HD9.out 1 (.int .i64 ga) rfl
          have d2 := blk_cell HD9.out 2 (.int .i64 gb) rfl
          have d3 := blk_cell HD9.out 3 (.int .i64 gc) rfl
          have hlD := blk_lt HD9.out
          go_wp2_with fail
          refine (gnearest_any kk gf ga gb gc _ HT9.out).mono ?_
          rintro e w10 ⟨rfl, hb⟩
          have HD10 := Lib.hid (blk_below hb HD9.out (blk_lt HD9.out))
          have HB11 := Lib.hid (below_then HB10.out hb HB10.out.size)
          have HT10 := Lib.hid (HT9.out.below hb)
          have HO8_10 := Lib.hid (own_below HO8_9.out hb)
          have HO9_10 := Lib.hid (own_below HO9_9.out hb)
          clear hb d0 d1 d2 d3 hlD
          have d0 := blk_cell HD10.out 0 (.int .i64 gf) rfl
          have d1 := blk_cell HD10.out 1 (.int .i64 ga) rfl
          have d2 := blk_cell HD10.out 2 (.int .i64 gb) rfl
          have d3 := blk_cell HD10.out 3 (.int .i64 gc) rfl
          have hlD := blk_lt HD10.out
          go_wp2_with fail
          refine (rnearest_any kk gf ga gb gc _).mono ?_
          rintro e w11 ⟨rfl, hb⟩
          have HD11 := Lib.hid (blk_below hb HD10.out (blk_lt HD10.out))
          have HB12 := Lib.hid (below_then HB11.out hb HB11.out.size)
          have HT11 := Lib.hid (HT10.out.below hb)
          have HO8_11 := Lib.hid (own_below HO8_10.out hb)
          have HO9_11 := Lib.hid (own_below HO9_10.out hb)
          clear hb d0 d1 d2 d3 hlD
          have d0 := blk_cell HD11.out 0 (.int .i64 gf) rfl
          have d1 := blk_cell HD11.out 1 (.int .i64 ga) rfl
          have d2 := blk_cell HD11.out 2 (.int .i64 gb) rfl
          have d3 := blk_cell HD11.out 3 (.int .i64 gc) rfl
          have hlD := blk_lt HD11.out
          clear d0 d1 d2 d3 hlD
          generalize hx1 : gIdx kk gf ga gb gc = y1
          generalize hx2 : gIErr kk gf ga gb gc = y2
          generalize hx3 : gErr kk gf ga gb gc = y3
          generalize hx4 : gNear kk gf ga gb gc = y4
          clear hx1 hx2 hx3 hx4
          go_wp2_with fail
          refine (shares_true (gLoc kk gf ga gb gc) (gLoc_len kk gf ga gb gc) _ _ _ _ _ HO8_11.out HO9_11.out).mono ?_
          rintro e w12 ⟨rfl, hb⟩
          have HBZ := Lib.hid (below_then HB12.out hb HB12.out.size)
          clear hb
          go_wp2_with fail
          go_roundw
          case rel => exact ⟨j + 1, by omega, by go_num, HBZ.out⟩
          case measure => simp [intOf]; omega
        · obtain rfl : j = 2 := by omega
          go_wp2_with fail
          go_roundw
          case rel => exact ⟨i + 1, by omega, by go_num, HB5.out.trans (HBR.out.mono HB5.out.size)⟩
          case measure => simp [intOf]; omega
    · obtain rfl : i = 2 := by omega
      have HBW := Lib.hid (HB4.out.trans (HBR.out.mono HB4.out.size))
      go_wp2_with fail
      refine (awake_any _ (HT0.out.below HBW.out)).mono ?_
      rintro e w5 ⟨rfl, hb⟩
      have HBZ := Lib.hid (below_then HBW.out hb HBW.out.size)
      clear hb
      go_wp2_with fail
      go_ret
      exact ⟨rfl, HBZ.out⟩
end Go.Proofs.YtcoddcdiimpndaaDoor
