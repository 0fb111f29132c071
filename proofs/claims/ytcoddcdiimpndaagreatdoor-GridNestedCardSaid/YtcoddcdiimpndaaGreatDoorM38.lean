/-
  The reference's Locate.
-/
import Derived.Test.YtcoddcdiimpndaaGreatDoorM33
import Derived.Test.YtcoddcdiimpndaaGreatDoorM36
import Derived.Test.YtcoddcdiimpndaaGreatDoorM37
set_option linter.unusedVariables false
set_option linter.unusedSimpArgs false
namespace Go.Proofs.YtcoddcdiimpndaaGreatDoor
open Go.RowKit
theorem sh_len1 (a b : Int) : (shareL [] a b).length ≤ 1000 := Nat.le_trans (shareL_length _ _ _) (by simp)
theorem sh_len2 (a b c d : Int) : (shareL (shareL [] a b) c d).length ≤ 1000 := Nat.le_trans (shareL_length _ _ _) (Nat.succ_le_of_lt (Nat.lt_of_le_of_lt (shareL_length _ _ _) (by simp)))
theorem cellsS_nil : cellsS [] = [] := rfl
set_option maxRecDepth 100000 in
set_option maxHeartbeats 4000000 in
theorem rlocate_any (n f a b c : Int) (w : World) : Calls Tryz.prog 87 #[.int .i64 n, .agg #[.int .i64 f, .int .i64 a, .int .i64 b, .int .i64 c]] w fun e w' =>
    ∃ v, e = .returned (.tuple #[v, .int .i64 (gErr n f a b c)]) ∧ w'.ownsRow w.heap.size 54 2 v (gLoc n f a b c).length (cellsS (gLoc n f a b c)) ∧ Below w.heap.size w w' := by
  have hba : Below w.heap.size w (w.alloc (.cells #[.int .i64 f, .int .i64 a, .int .i64 b, .int .i64 c] 32)) := (Below.refl _ _).alloc (Nat.le_refl _) _
  have hB := blk_new w (.cells #[.int .i64 f, .int .i64 a, .int .i64 b, .int .i64 c] 32)
  have HBA := Lib.hid hba
  have HB := Lib.hid hB
  have hcnt := fun W => rcount_any n W
  clear hba hB
  cases hq : freqB n
  · have he : gErr n f a b c = 1 := by simp [gErr, okB, hq]
    have hl : gLoc n f a b c = [] := by simp [gLoc, okB, hq]
    have hg : gCount n = 0 := by simp [gCount, hq]
    rw [he, hl]
    rw [hg] at hcnt
    clear he hl hg
    go_enter Tryz.func87, Tryz.ntmps87
    go_wp2_with fail
    refine (hcnt _).mono ?_
    rintro e w2 ⟨rfl, rfl⟩
    go_wp2_with fail
    go_ret2
    exact ⟨_, rfl, World.ownsRow_nil _ _ _ _, HBA.out⟩
  · obtain ⟨m, rfl, h1, h8, hh⟩ := freq_nat hq
    have hz := gCount_pos h1 h8
    have hva := fun W => valid2_any f a b c W
    cases hv : validB f a b c
    · have he : gErr m f a b c = 1 := by simp [gErr, okB, hv]
      have hl : gLoc m f a b c = [] := by simp [gLoc, okB, hv]
      rw [he, hl]
      rw [hv] at hva
      generalize gCount m = cn at hcnt hz
      clear he hl hh
      go_enter Tryz.func87, Tryz.ntmps87
      go_wp2_with fail
      refine (hcnt _).mono ?_
      rintro e w2 ⟨rfl, rfl⟩
      go_wp2_with fail
      refine (hva _).mono ?_
      rintro e w2 ⟨rfl, hb2⟩
      have HB2 := Lib.hid (below_then HBA.out hb2 HBA.out.size)
      clear hb2
      go_wp2_with fail
      go_ret2
      exact ⟨_, rfl, World.ownsRow_nil _ _ _ _, HB2.out⟩
    · have he : gErr m f a b c = 0 := by simp [gErr, okB, hv, hq]
      have hl : gLoc m f a b c = locS (nodes m) (840 / m) m f a b c := by simp [gLoc, okB, hv, hq]
      rw [he, hl]
      have HV := Lib.hid hv
      rw [hv] at hva
      generalize gCount m = cn at hcnt hz
      obtain ⟨h, hdef⟩ : ∃ h : Nat, h = 840 / m := ⟨_, rfl⟩
      rw [← hdef] at hh ⊢
      have HQ := Lib.hid hdef.symm
      have HH := Lib.hid hh
      obtain ⟨hf0, hf1, ha0, ha1, hb0, hb1, hc0, hc1, hsum⟩ := (validB_iff ..).1 hv
      obtain ⟨hl1, hl2⟩ := h_facts m h h1 hh
      obtain ⟨sa0, sa1, sa2, sa3, sa4, sa5, -, -⟩ := rem_facts a h m hh h1 ha0 ha1
      obtain ⟨sb0, sb1, sb2, sb3, sb4, sb5, -, -⟩ := rem_facts b h m hh h1 hb0 hb1
      obtain ⟨sc0, sc1, sc2, sc3, sc4, sc5, -, -⟩ := rem_facts c h m hh h1 hc0 hc1
      have qa := mod_facts a h m hh h1 ha0 ha1
      have qb := mod_facts b h m hh h1 hb0 hb1
      have qc' := mod_facts c h m hh h1 hc0 hc1
      have HX := Lib.hid sa5
      have HY := Lib.hid sb5
      have HZ := Lib.hid sc5
      have xa : 0 ≤ (m : Int) * (a - a / (h : Int) * (h : Int)) ∧ (m : Int) * (a - a / (h : Int) * (h : Int)) ≤ 840 := by rw [sa5]; exact ⟨qa.2.2.1, qa.2.2.2.1⟩
      have xb : 0 ≤ (m : Int) * (b - b / (h : Int) * (h : Int)) ∧ (m : Int) * (b - b / (h : Int) * (h : Int)) ≤ 840 := by rw [sb5]; exact ⟨qb.2.2.1, qb.2.2.2.1⟩
      have xc : 0 ≤ (m : Int) * (c - c / (h : Int) * (h : Int)) ∧ (m : Int) * (c - c / (h : Int) * (h : Int)) ≤ 840 := by rw [sc5]; exact ⟨qc'.2.2.1, qc'.2.2.2.1⟩
      have yh : (840 : Int) / (m : Int) = (h : Int) := by rw [hdef]; simp
      obtain ⟨xa0, xa1⟩ := xa
      obtain ⟨xb0, xb1⟩ := xb
      obtain ⟨xc0, xc1⟩ := xc
      have YH := Lib.hid yh
      clear he hl hh hdef sa4 sa5 sb4 sb5 sc4 sc5 qa qb qc' hv yh hsum
      go_enter Tryz.func87, Tryz.ntmps87
      go_wp2_with fail
      refine (hcnt _).mono ?_
      rintro e w2 ⟨rfl, rfl⟩
      go_wp2_with fail
      refine (hva _).mono ?_
      rintro e w2 ⟨rfl, hb2⟩
      have HB2 := Lib.hid (below_then HBA.out hb2 HBA.out.size)
      have hb2' := blk_below hb2 HB.out (blk_lt HB.out)
      have HK2 := Lib.hid hb2'
      clear hb2 hb2'
      go_wp2_with fail
      refine (rnodes_rd m h1 h8 _).mono ?_
      rintro e w3 ⟨g, cap, rfl, hR, hb3⟩
      have HB3 := Lib.hid (below_then HB2.out hb3 HB2.out.size)
      have hb3' := blk_below hb3 HK2.out (blk_lt HK2.out)
      have HK3 := Lib.hid hb3'
      have HR3 := Lib.hid hR
      have p0 := blk_cell hb3' 0 (.int .i64 f) rfl
      have p1 := blk_cell hb3' 1 (.int .i64 a) rfl
      have p2 := blk_cell hb3' 2 (.int .i64 b) rfl
      have p3 := blk_cell hb3' 3 (.int .i64 c) rfl
      clear hb3 hb3' hR hz hcnt hva
      go_wp2_with fail
      rw [YH.out]
      go_quiet (fail)
      obtain ⟨w4, hw4⟩ : ∃ w4, w4 = w3.drewN nq := ⟨_, rfl⟩
      rw [← hw4]
      have hb4 : Below w3.heap.size w3 w4 := by rw [hw4]; exact below_drewN (Below.refl _ _) _
      have HR4 := Lib.hid (HR3.out.below hb4 HR3.out.lt)
      have HK4 := Lib.hid (blk_below hb4 HK3.out (blk_lt HK3.out))
      have HB4 := Lib.hid (below_then HB3.out hb4 HB3.out.size)
      clear p0 p1 p2 p3 hw4 hb4 nq
      have p0 := blk_cell HK4.out 0 (.int .i64 f) rfl
      have p1 := blk_cell HK4.out 1 (.int .i64 a) rfl
      have p2 := blk_cell HK4.out 2 (.int .i64 b) rfl
      have p3 := blk_cell HK4.out 3 (.int .i64 c) rfl
      go_wp2_with fail
      go_quiet (fail)
      obtain ⟨w5, hw5⟩ : ∃ w5, w5 = w4.drewN nq := ⟨_, rfl⟩
      rw [← hw5]
      have hb5 : Below w4.heap.size w4 w5 := by rw [hw5]; exact below_drewN (Below.refl _ _) _
      have HR5 := Lib.hid (HR4.out.below hb5 HR4.out.lt)
      have HK5 := Lib.hid (blk_below hb5 HK4.out (blk_lt HK4.out))
      have HB5 := Lib.hid (below_then HB4.out hb5 HB4.out.size)
      have HO5 := Lib.hid (World.ownsRow_nil w5 w.heap.size 54 2)
      clear p0 p1 p2 p3 hw5 hb5 nq
      have p0 := blk_cell HK5.out 0 (.int .i64 f) rfl
      have p1 := blk_cell HK5.out 1 (.int .i64 a) rfl
      have p2 := blk_cell HK5.out 2 (.int .i64 b) rfl
      have p3 := blk_cell HK5.out 3 (.int .i64 c) rfl
      have HLZ := Lib.hid (fun hs => loc_zero m h h1 h8 HQ.out HH.out f a b c HV.out hs)
      have HLU := Lib.hid (fun hs => loc_up m h h1 h8 HQ.out HH.out f a b c HV.out _ _ _ rfl rfl rfl hs)
      have HLD := Lib.hid (fun hs hs' => loc_down m h h1 h8 HQ.out HH.out f a b c HV.out _ _ _ rfl rfl rfl hs hs')
      rw [← HX.out, ← HY.out, ← HZ.out] at HLZ HLU HLD
      obtain ⟨ra, hra⟩ : ∃ ra, ra = a / (h : Int) * (h : Int) := ⟨_, rfl⟩
      obtain ⟨rb, hrb⟩ : ∃ rb, rb = b / (h : Int) * (h : Int) := ⟨_, rfl⟩
      obtain ⟨rc, hrc⟩ : ∃ rc, rc = c / (h : Int) * (h : Int) := ⟨_, rfl⟩
      rw [← hra] at sa2 sa3 xa0 xa1 HLZ HLU HLD ⊢
      rw [← hrb] at sb2 sb3 xb0 xb1 HLZ HLU HLD ⊢
      rw [← hrc] at sc2 sc3 xc0 xc1 HLZ HLU HLD ⊢
      obtain ⟨X, hX⟩ : ∃ X, X = (m : Int) * (a - ra) := ⟨_, rfl⟩
      obtain ⟨Y, hY⟩ : ∃ Y, Y = (m : Int) * (b - rb) := ⟨_, rfl⟩
      obtain ⟨Z, hZ⟩ : ∃ Z, Z = (m : Int) * (c - rc) := ⟨_, rfl⟩
      rw [← hX] at xa0 xa1 HLZ HLU HLD ⊢
      rw [← hY] at xb0 xb1 HLZ HLU HLD ⊢
      rw [← hZ] at xc0 xc1 HLZ HLU HLD ⊢
      clear hra hrb hrc hX hY hZ HX HY HZ
      have HL0 : (([] : List Sh).length ≤ 1000) := by simp
      by_cases h0 : X + Y + Z = 0
      · have hd0 : (X + Y + Z == 0) = true := by simpa using h0
        have HL := Lib.hid (HLZ.out h0)
        clear h0 HLZ HLU HLD
        change Hid (w5.ownsRow w.heap.size 54 2 (.slice none 0 0) ([] : List Sh).length (cellsS [])) at HO5
        go_wp2_with fail
        refine (rat_any (nodes m) (nodes_rise m h1 h8) (nodes_len m h1 h8).2 f a b c HV.out g cap _ HR5.out).mono ?_
        rintro e w6 ⟨rfl, hb6⟩
        have HR6 := Lib.hid (HR5.out.below hb6 HR5.out.lt)
        have HK6 := Lib.hid (blk_below hb6 HK5.out (blk_lt HK5.out))
        have HB6 := Lib.hid (below_then HB5.out hb6 HB5.out.size)
        have HO6 := Lib.hid (own_below HO5.out hb6)
        clear hb6 p0 p1 p2 p3
        change Hid (World.ownsRow _ _ _ _ _ _ _) at HO6
        have p0 := blk_cell HK6.out 0 (.int .i64 f) rfl
        have p1 := blk_cell HK6.out 1 (.int .i64 a) rfl
        have p2 := blk_cell HK6.out 2 (.int .i64 b) rfl
        have p3 := blk_cell HK6.out 3 (.int .i64 c) rfl
        go_wp2_with fail
        refine (share_any [] _ 840 (by simp) w.heap.size _ _ HB6.out.size HO6.out).mono ?_
        rintro e w7 ⟨V7, rfl, ho7, hb7⟩
        have HR7 := Lib.hid (HR6.out.below hb7 HR6.out.lt)
        have HK7 := Lib.hid (blk_below hb7 HK6.out (blk_lt HK6.out))
        have HB7 := Lib.hid (below_then HB6.out hb7 HB6.out.size)
        have HO7 := Lib.hid ho7
        clear hb7 ho7 p0 p1 p2 p3
        have p0 := blk_cell HK7.out 0 (.int .i64 f) rfl
        have p1 := blk_cell HK7.out 1 (.int .i64 a) rfl
        have p2 := blk_cell HK7.out 2 (.int .i64 b) rfl
        have p3 := blk_cell HK7.out 3 (.int .i64 c) rfl
        go_wp2_with fail
        go_ret2
        rw [← HL.out]
        exact ⟨_, rfl, HO7.out, HB7.out⟩
      · have hd0 : (X + Y + Z == 0) = false := by simpa using h0
        by_cases h84 : X + Y + Z = 840
        · have hd1 : (X + Y + Z == 840) = true := by simpa using h84
          obtain ⟨v0, v1, v2, hL⟩ := HLU.out h84
          have HV0 := Lib.hid v0
          have HV1 := Lib.hid v1
          have HV2 := Lib.hid v2
          have HL := Lib.hid hL
          clear h0 h84 HLZ HLU HLD v0 v1 v2 hL
          change Hid (w5.ownsRow w.heap.size 54 2 (.slice none 0 0) ([] : List Sh).length (cellsS [])) at HO5
          go_wp2_with fail
          refine (rat_any (nodes m) (nodes_rise m h1 h8) (nodes_len m h1 h8).2 f (ra + h) rb rc HV0.out g cap _ HR5.out).mono ?_
          rintro e w6 ⟨rfl, hb6⟩
          have HR6 := Lib.hid (HR5.out.below hb6 HR5.out.lt)
          have HK6 := Lib.hid (blk_below hb6 HK5.out (blk_lt HK5.out))
          have HB6 := Lib.hid (below_then HB5.out hb6 HB5.out.size)
          have HO6 := Lib.hid (own_below HO5.out hb6)
          clear hb6 p0 p1 p2 p3
          change Hid (World.ownsRow _ _ _ _ _ _ _) at HO6
          have p0 := blk_cell HK6.out 0 (.int .i64 f) rfl
          have p1 := blk_cell HK6.out 1 (.int .i64 a) rfl
          have p2 := blk_cell HK6.out 2 (.int .i64 b) rfl
          have p3 := blk_cell HK6.out 3 (.int .i64 c) rfl
          go_wp2_with fail
          refine (share_any [] (findI (nodes m) (normPl f (ra + h) rb rc)) (X) (by simp) w.heap.size _ _ HB6.out.size HO6.out).mono ?_
          rintro e w7 ⟨V7, rfl, ho7, hb7⟩
          have HR7 := Lib.hid (HR6.out.below hb7 HR6.out.lt)
          have HK7 := Lib.hid (blk_below hb7 HK6.out (blk_lt HK6.out))
          have HB7 := Lib.hid (below_then HB6.out hb7 HB6.out.size)
          have HO7 := Lib.hid ho7
          clear hb7 ho7 p0 p1 p2 p3
          have p0 := blk_cell HK7.out 0 (.int .i64 f) rfl
          have p1 := blk_cell HK7.out 1 (.int .i64 a) rfl
          have p2 := blk_cell HK7.out 2 (.int .i64 b) rfl
          have p3 := blk_cell HK7.out 3 (.int .i64 c) rfl
          go_wp2_with fail
          refine (rat_any (nodes m) (nodes_rise m h1 h8) (nodes_len m h1 h8).2 f ra (rb + h) rc HV1.out g cap _ HR7.out).mono ?_
          rintro e w8 ⟨rfl, hb8⟩
          have HR8 := Lib.hid (HR7.out.below hb8 HR7.out.lt)
          have HK8 := Lib.hid (blk_below hb8 HK7.out (blk_lt HK7.out))
          have HB8 := Lib.hid (below_then HB7.out hb8 HB7.out.size)
          have HO8 := Lib.hid (own_below HO7.out hb8)
          clear hb8 p0 p1 p2 p3
          change Hid (World.ownsRow _ _ _ _ _ _ _) at HO8
          have p0 := blk_cell HK8.out 0 (.int .i64 f) rfl
          have p1 := blk_cell HK8.out 1 (.int .i64 a) rfl
          have p2 := blk_cell HK8.out 2 (.int .i64 b) rfl
          have p3 := blk_cell HK8.out 3 (.int .i64 c) rfl
          go_wp2_with fail
          refine (share_any (shareL [] (findI (nodes m) (normPl f (ra + h) rb rc)) (X)) (findI (nodes m) (normPl f ra (rb + h) rc)) (Y) (sh_len1 _ _) w.heap.size _ _ HB8.out.size HO8.out).mono ?_
          rintro e w9 ⟨V9, rfl, ho9, hb9⟩
          have HR9 := Lib.hid (HR8.out.below hb9 HR8.out.lt)
          have HK9 := Lib.hid (blk_below hb9 HK8.out (blk_lt HK8.out))
          have HB9 := Lib.hid (below_then HB8.out hb9 HB8.out.size)
          have HO9 := Lib.hid ho9
          clear hb9 ho9 p0 p1 p2 p3
          have p0 := blk_cell HK9.out 0 (.int .i64 f) rfl
          have p1 := blk_cell HK9.out 1 (.int .i64 a) rfl
          have p2 := blk_cell HK9.out 2 (.int .i64 b) rfl
          have p3 := blk_cell HK9.out 3 (.int .i64 c) rfl
          go_wp2_with fail
          refine (rat_any (nodes m) (nodes_rise m h1 h8) (nodes_len m h1 h8).2 f ra rb (rc + h) HV2.out g cap _ HR9.out).mono ?_
          rintro e w10 ⟨rfl, hb10⟩
          have HR10 := Lib.hid (HR9.out.below hb10 HR9.out.lt)
          have HK10 := Lib.hid (blk_below hb10 HK9.out (blk_lt HK9.out))
          have HB10 := Lib.hid (below_then HB9.out hb10 HB9.out.size)
          have HO10 := Lib.hid (own_below HO9.out hb10)
          clear hb10 p0 p1 p2 p3
          change Hid (World.ownsRow _ _ _ _ _ _ _) at HO10
          have p0 := blk_cell HK10.out 0 (.int .i64 f) rfl
          have p1 := blk_cell HK10.out 1 (.int .i64 a) rfl
          have p2 := blk_cell HK10.out 2 (.int .i64 b) rfl
          have p3 := blk_cell HK10.out 3 (.int .i64 c) rfl
          go_wp2_with fail
          refine (share_any (shareL (shareL [] (findI (nodes m) (normPl f (ra + h) rb rc)) (X)) (findI (nodes m) (normPl f ra (rb + h) rc)) (Y)) (findI (nodes m) (normPl f ra rb (rc + h))) (Z) (sh_len2 _ _ _ _) w.heap.size _ _ HB10.out.size HO10.out).mono ?_
          rintro e w11 ⟨V11, rfl, ho11, hb11⟩
          have HR11 := Lib.hid (HR10.out.below hb11 HR10.out.lt)
          have HK11 := Lib.hid (blk_below hb11 HK10.out (blk_lt HK10.out))
          have HB11 := Lib.hid (below_then HB10.out hb11 HB10.out.size)
          have HO11 := Lib.hid ho11
          clear hb11 ho11 p0 p1 p2 p3
          have p0 := blk_cell HK11.out 0 (.int .i64 f) rfl
          have p1 := blk_cell HK11.out 1 (.int .i64 a) rfl
          have p2 := blk_cell HK11.out 2 (.int .i64 b) rfl
          have p3 := blk_cell HK11.out 3 (.int .i64 c) rfl
          go_wp2_with fail
          go_ret2
          rw [← HL.out]
          exact ⟨_, rfl, HO11.out, HB11.out⟩
        · have hd1 : (X + Y + Z == 840) = false := by simpa using h84
          obtain ⟨v0, v1, v2, hL⟩ := HLD.out h0 h84
          have HV0 := Lib.hid v0
          have HV1 := Lib.hid v1
          have HV2 := Lib.hid v2
          have HL := Lib.hid hL
          clear h0 h84 HLZ HLU HLD v0 v1 v2 hL
          change Hid (w5.ownsRow w.heap.size 54 2 (.slice none 0 0) ([] : List Sh).length (cellsS [])) at HO5
          go_wp2_with fail
          refine (rat_any (nodes m) (nodes_rise m h1 h8) (nodes_len m h1 h8).2 f ra (rb + h) (rc + h) HV0.out g cap _ HR5.out).mono ?_
          rintro e w6 ⟨rfl, hb6⟩
          have HR6 := Lib.hid (HR5.out.below hb6 HR5.out.lt)
          have HK6 := Lib.hid (blk_below hb6 HK5.out (blk_lt HK5.out))
          have HB6 := Lib.hid (below_then HB5.out hb6 HB5.out.size)
          have HO6 := Lib.hid (own_below HO5.out hb6)
          clear hb6 p0 p1 p2 p3
          change Hid (World.ownsRow _ _ _ _ _ _ _) at HO6
          have p0 := blk_cell HK6.out 0 (.int .i64 f) rfl
          have p1 := blk_cell HK6.out 1 (.int .i64 a) rfl
          have p2 := blk_cell HK6.out 2 (.int .i64 b) rfl
          have p3 := blk_cell HK6.out 3 (.int .i64 c) rfl
          go_wp2_with fail
          refine (share_any [] (findI (nodes m) (normPl f ra (rb + h) (rc + h))) (840 - X) (by simp) w.heap.size _ _ HB6.out.size HO6.out).mono ?_
          rintro e w7 ⟨V7, rfl, ho7, hb7⟩
          have HR7 := Lib.hid (HR6.out.below hb7 HR6.out.lt)
          have HK7 := Lib.hid (blk_below hb7 HK6.out (blk_lt HK6.out))
          have HB7 := Lib.hid (below_then HB6.out hb7 HB6.out.size)
          have HO7 := Lib.hid ho7
          clear hb7 ho7 p0 p1 p2 p3
          have p0 := blk_cell HK7.out 0 (.int .i64 f) rfl
          have p1 := blk_cell HK7.out 1 (.int .i64 a) rfl
          have p2 := blk_cell HK7.out 2 (.int .i64 b) rfl
          have p3 := blk_cell HK7.out 3 (.int .i64 c) rfl
          go_wp2_with fail
          refine (rat_any (nodes m) (nodes_rise m h1 h8) (nodes_len m h1 h8).2 f (ra + h) rb (rc + h) HV1.out g cap _ HR7.out).mono ?_
          rintro e w8 ⟨rfl, hb8⟩
          have HR8 := Lib.hid (HR7.out.below hb8 HR7.out.lt)
          have HK8 := Lib.hid (blk_below hb8 HK7.out (blk_lt HK7.out))
          have HB8 := Lib.hid (below_then HB7.out hb8 HB7.out.size)
          have HO8 := Lib.hid (own_below HO7.out hb8)
          clear hb8 p0 p1 p2 p3
          change Hid (World.ownsRow _ _ _ _ _ _ _) at HO8
          have p0 := blk_cell HK8.out 0 (.int .i64 f) rfl
          have p1 := blk_cell HK8.out 1 (.int .i64 a) rfl
          have p2 := blk_cell HK8.out 2 (.int .i64 b) rfl
          have p3 := blk_cell HK8.out 3 (.int .i64 c) rfl
          go_wp2_with fail
          refine (share_any (shareL [] (findI (nodes m) (normPl f ra (rb + h) (rc + h))) (840 - X)) (findI (nodes m) (normPl f (ra + h) rb (rc + h))) (840 - Y) (sh_len1 _ _) w.heap.size _ _ HB8.out.size HO8.out).mono ?_
          rintro e w9 ⟨V9, rfl, ho9, hb9⟩
          have HR9 := Lib.hid (HR8.out.below hb9 HR8.out.lt)
          have HK9 := Lib.hid (blk_below hb9 HK8.out (blk_lt HK8.out))
          have HB9 := Lib.hid (below_then HB8.out hb9 HB8.out.size)
          have HO9 := Lib.hid ho9
          clear hb9 ho9 p0 p1 p2 p3
          have p0 := blk_cell HK9.out 0 (.int .i64 f) rfl
          have p1 := blk_cell HK9.out 1 (.int .i64 a) rfl
          have p2 := blk_cell HK9.out 2 (.int .i64 b) rfl
          have p3 := blk_cell HK9.out 3 (.int .i64 c) rfl
          go_wp2_with fail
          refine (rat_any (nodes m) (nodes_rise m h1 h8) (nodes_len m h1 h8).2 f (ra + h) (rb + h) rc HV2.out g cap _ HR9.out).mono ?_
          rintro e w10 ⟨rfl, hb10⟩
          have HR10 := Lib.hid (HR9.out.below hb10 HR9.out.lt)
          have HK10 := Lib.hid (blk_below hb10 HK9.out (blk_lt HK9.out))
          have HB10 := Lib.hid (below_then HB9.out hb10 HB9.out.size)
          have HO10 := Lib.hid (own_below HO9.out hb10)
          clear hb10 p0 p1 p2 p3
          change Hid (World.ownsRow _ _ _ _ _ _ _) at HO10
          have p0 := blk_cell HK10.out 0 (.int .i64 f) rfl
          have p1 := blk_cell HK10.out 1 (.int .i64 a) rfl
          have p2 := blk_cell HK10.out 2 (.int .i64 b) rfl
          have p3 := blk_cell HK10.out 3 (.int .i64 c) rfl
          go_wp2_with fail
          refine (share_any (shareL (shareL [] (findI (nodes m) (normPl f ra (rb + h) (rc + h))) (840 - X)) (findI (nodes m) (normPl f (ra + h) rb (rc + h))) (840 - Y)) (findI (nodes m) (normPl f (ra + h) (rb + h) rc)) (840 - Z) (sh_len2 _ _ _ _) w.heap.size _ _ HB10.out.size HO10.out).mono ?_
          rintro e w11 ⟨V11, rfl, ho11, hb11⟩
          have HR11 := Lib.hid (HR10.out.below hb11 HR10.out.lt)
          have HK11 := Lib.hid (blk_below hb11 HK10.out (blk_lt HK10.out))
          have HB11 := Lib.hid (below_then HB10.out hb11 HB10.out.size)
          have HO11 := Lib.hid ho11
          clear hb11 ho11 p0 p1 p2 p3
          have p0 := blk_cell HK11.out 0 (.int .i64 f) rfl
          have p1 := blk_cell HK11.out 1 (.int .i64 a) rfl
          have p2 := blk_cell HK11.out 2 (.int .i64 b) rfl
          have p3 := blk_cell HK11.out 3 (.int .i64 c) rfl
          go_wp2_with fail
          go_ret2
          rw [← HL.out]
          exact ⟨_, rfl, HO11.out, HB11.out⟩
end Go.Proofs.YtcoddcdiimpndaaGreatDoor
