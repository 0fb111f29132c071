/-
  The walk of mesh.Build, its first phase: the cells.
-/
import Derived.Test.YtcoddcdiimpndaaGreatDoorM17
import Derived.Test.YtcoddcdiimpndaaGreatDoorM26
import Derived.Outline
import Derived.StillTailTactics
import Derived.Deep.RegionHeldLaw
set_option linter.unusedVariables false
set_option linter.unusedSimpArgs false
namespace Go.Proofs.YtcoddcdiimpndaaGreatDoor
open Go.RowKit
theorem tab_below {w w' : World} {B : Nat} (h : TabOk w) (hb : Below B w w') (hB : 0 < B) : TabOk w' :=
  ⟨Nat.lt_of_lt_of_le h.pos hb.size, fun i hi => (hb.cell (p := ⟨0, i, none⟩) hB).trans (h.cell i hi)⟩
theorem cellsE_app3 (R : List Ed) (a b c d e f : Int) : cellsE (R ++ [⟨a, b⟩, ⟨c, d⟩, ⟨e, f⟩]) = cellsE R ++ [.int .i64 a, .int .i64 b, .int .i64 c, .int .i64 d, .int .i64 e, .int .i64 f] := by simp [cellsE, edc]
theorem infoI : (Tryz.prog.info? 3).map (fun i => (i.zero, i.size, i.bytes)) = some (some (.int .i64 0), 1, 8) := by kernel_rfl
theorem infoE : (Tryz.prog.info? 39).map (fun i => (i.zero, i.size, i.bytes)) = some (some (.agg #[.int .i64 0, .int .i64 0]), 2, 16) := by kernel_rfl
theorem cellsT_at (L : List Tri) (i : Nat) (hi : i < L.length) : (cellsT L)[i * 3]? = some (.int .i64 L[i]!.a) ∧ (cellsT L)[i * 3 + 1]? = some (.int .i64 L[i]!.b) ∧ (cellsT L)[i * 3 + 2]? = some (.int .i64 L[i]!.c) := by
  have h := flat_get tric 3 (fun _ => rfl) L
  have h0 := h (i * 3) (by omega)
  have h1 := h (i * 3 + 1) (by omega)
  have h2 := h (i * 3 + 2) (by omega)
  rw [show i * 3 / 3 = i by omega, show i * 3 % 3 = 0 by omega] at h0
  rw [show (i * 3 + 1) / 3 = i by omega, show (i * 3 + 1) % 3 = 1 by omega] at h1
  rw [show (i * 3 + 2) / 3 = i by omega, show (i * 3 + 2) % 3 = 2 by omega] at h2
  exact ⟨h0, h1, h2⟩
set_option maxRecDepth 100000 in
set_option maxHeartbeats 8000000 in
theorem build_core (n h : Nat) (h1 : 1 ≤ n) (h8 : n ≤ 8) (hh : n * h = 840) (l : List Pl) (hl : Fine l) (hll : l.length ≤ 100000) (hlp : 0 < l.length) (htp : 0 < (trisTo l h n 20 0 0).length) (w : World) (hT : TabOk w)
    (hpts : Calls Tryz.prog 50 #[.int .i64 n] w fun e w' => ∃ V, e = .returned (.pointer (some ⟨w.heap.size + 1, 0, none⟩)) ∧ NetP w.heap.size w' h n (w.heap.size + 1) w.heap.size l V ∧ Below w.heap.size w w') :
    Calls Tryz.prog 52 #[.int .i64 n] w fun e w' => e = .returned (.pointer (some ⟨w.heap.size + 1, 0, none⟩)) ∧ Built w w' h n l := by
  have HT := Lib.hid hT
  have HP := Lib.hid hpts
  have HH := Lib.hid hh
  have HL := Lib.hid hl
  have HLP := Lib.hid hlp
  have hp := hT.pos
  obtain ⟨hl1, hl2⟩ := h_facts n h h1 hh
  clear hT hpts hh hl hlp
  go_enter Tryz.func52, Tryz.ntmps52
  go_wp2_with fail
  refine HP.out.mono ?_
  rintro e w1 ⟨V, rfl, hnet, hb1⟩
  have HC1 := Lib.hid (show NetC w.heap.size w1 h n (w.heap.size + 1) w.heap.size l V (.slice none 0 0) [] from ⟨hnet.blk, hnet.row, hnet.map, World.ownsRow_nil _ _ _ _, Nat.le_succ _⟩)
  have HB1 := Lib.hid hb1
  clear hnet hb1 HP
  go_wp2_with fail
  go_loopw [15] (fun i wr => ∃ f : Nat, f ≤ 20 ∧ i = .int .i64 f ∧ (trisTo l h n f 0 0).length ≤ f * 128 ∧ Below w.heap.size w wr ∧ ∃ C, NetC w.heap.size wr h n (w.heap.size + 1) w.heap.size l V C (trisTo l h n f 0 0)) (fun i _ => 20 - (intOf i).toNat)
  case atStart => exact ⟨0, Nat.zero_le _, rfl, by simp [trisTo_zero], HB1.out, _, HC1.out⟩
  case round =>
    obtain ⟨f, hf, rfl, hlen, hbw, C, hnet⟩ := hrel
    have HBW := Lib.hid hbw
    have HN := Lib.hid hnet
    clear hbw hnet HC1 HB1
    by_cases hf20 : f < 20
    · have hdf : decide ((f : Int) < 20) = true := decide_eq_true (by omega)
      go_wp2_with fail
      go_loopw [5] (fun i wr => ∃ a : Nat, a ≤ n ∧ i = .int .i64 a ∧ (trisTo l h n f a 0).length ≤ f * 128 + a * 16 ∧ Below w.heap.size w wr ∧ ∃ C, NetC w.heap.size wr h n (w.heap.size + 1) w.heap.size l V C (trisTo l h n f a 0)) (fun i _ => n - (intOf i).toNat)
      case atStart => exact ⟨0, Nat.zero_le _, rfl, by omega, HBW.out, C, HN.out⟩
      case round =>
        obtain ⟨a, ha, rfl, hlen2, hbw2, C2, hnet2⟩ := hrel
        have HBW2 := Lib.hid hbw2
        have HN2 := Lib.hid hnet2
        clear hbw2 hnet2 HBW HN
        by_cases han : a < n
        · have hanI : (a : Int) < (n : Int) := by omega
          go_wp2_with fail
          go_loopw [6] (fun i wr => ∃ b : Nat, a + b ≤ n ∧ i = .int .i64 b ∧ (trisTo l h n f a b).length ≤ f * 128 + a * 16 + b * 2 ∧ Below w.heap.size w wr ∧ ∃ C, NetC w.heap.size wr h n (w.heap.size + 1) w.heap.size l V C (trisTo l h n f a b)) (fun i _ => n - (intOf i).toNat)
          case atStart => exact ⟨0, by omega, rfl, by omega, HBW2.out, C2, HN2.out⟩
          case round =>
            obtain ⟨b, hb, rfl, hlen3, hbw3, C3, hnet3⟩ := hrel
            have HBW3 := Lib.hid hbw3
            have HN3 := Lib.hid hnet3
            clear hbw3 hnet3 HBW2 HN2
            by_cases hbn : a + b < n
            · have hbnI : (a : Int) + (b : Int) < (n : Int) := by omega
              obtain ⟨hA0, hA1⟩ := mul_facts n h a HH.out (by omega)
              obtain ⟨hB0, hB1⟩ := mul_facts n h b HH.out (by omega)
              have hcc : ((n - 1 - a - b : Nat) : Int) = (n : Int) - 1 - a - b := by omega
              obtain ⟨hC0, hC1⟩ := mul_facts n h (n - 1 - a - b) HH.out (by omega)
              rw [hcc] at hC0 hC1
              have hsum : (a : Int) * (h : Int) + (b : Int) * (h : Int) + ((n : Int) - 1 - a - b) * (h : Int) + h = 840 := by
                have e1 : (n : Int) * (h : Int) = 840 := by rw [← Int.natCast_mul, HH.out]; rfl
                rw [← e1, ← Int.add_mul, ← Int.add_mul, show (a : Int) + b + ((n : Int) - 1 - a - b) = n - 1 by omega, Int.sub_mul]
                omega
              have HS := Lib.hid hsum
              have HTR := Lib.hid (tab_below HT.out HBW3.out hp)
              have HNX := Lib.hid (trisTo_b l h n f a b)
              have hg1 := blk_cell HN3.out.blk 1 (.int .i64 h) rfl
              have hlg := blk_lt HN3.out.blk
              clear hcc hsum
              go_wp2_with fail
              go_still_tail 26, (by kernel_rfl)
              change wpList _ _ _ _ _ wr.drew
              obtain ⟨w3, hw3⟩ : ∃ w3, w3 = wr.drew := ⟨_, rfl⟩
              rw [← hw3]
              have hb3 : Below wr.heap.size wr w3 := by rw [hw3]; exact Below.drew (Below.refl _ _)
              have HN3' := Lib.hid (HN3.out.below hb3)
              have HTR' := Lib.hid (HTR.out.below hb3)
              have HBW3' := Lib.hid (HBW3.out.trans (hb3.mono HBW3.out.size))
              clear hw3 hb3
              go_wp2_with fail
              refine (cells_any w.heap.size _ h n (w.heap.size + 1) w.heap.size hl1 hl2 l V C3 (trisTo l h n f a b) f ((a : Int) * h) ((b : Int) * h) (((n : Int) - 1 - a - b) * h) hp ⟨by omega, by omega⟩ hA0 hB0 hC0 HS.out HN3'.out HTR'.out HL.out (by omega)).mono ?_
              rintro e w4 ⟨rfl, C', hN4, hb4⟩
              have HN4 := Lib.hid hN4
              have HB4 := Lib.hid (HBW3'.out.trans hb4)
              have hcl := cellsOfP_len l h f ((a : Int) * h) ((b : Int) * h) (((n : Int) - 1 - a - b) * h)
              clear hN4 hb4
              go_wp2_with fail
              go_roundw
              case rel => exact ⟨b + 1, by omega, by go_num, by rw [HNX.out, List.length_append]; omega, HB4.out, C', by rw [HNX.out]; exact HN4.out⟩
              case measure => simp [intOf]; omega
            · have hbe : b = n - a := by omega
              have hbnI : decide ((a : Int) + (b : Int) < (n : Int)) = false := decide_eq_false (by omega)
              go_wp2_with fail
              go_roundw
              case rel => exact ⟨a + 1, by omega, by go_num, by rw [trisTo_a, ← hbe]; omega, HBW3.out, C3, by rw [trisTo_a, ← hbe]; exact HN3.out⟩
              case measure => simp [intOf]; omega
        · obtain rfl : a = n := by omega
          go_wp2_with fail
          go_roundw
          case rel => exact ⟨f + 1, by omega, by go_num, by rw [trisTo_f]; omega, HBW2.out, C2, by rw [trisTo_f]; exact HN2.out⟩
          case measure => simp [intOf]; omega
    · obtain rfl : f = 20 := by omega
      have c4 := blk_cell HN.out.blk 4 C rfl
      have hlg := blk_lt HN.out.blk
      have HW0 := Lib.hid HN.out.whole
      obtain ⟨gC, cp, hC, hgC0, hgC1⟩ := HN.out.tri.form htp
      subst hC
      have hnl : (trisTo l h n 20 0 0).length ≤ 2560 := by omega
      go_wp2_with fail
      refine (sortT_any (trisTo l h n 20 0 0) w.heap.size gC cp _ (by omega) HN.out.tri).mono ?_
      rintro e w2 ⟨rfl, hrow2, hg2⟩
      have hlenT : (triL l h n).length = (trisTo l h n 20 0 0).length := (sortT_perm _).length_eq
      have HLT := Lib.hid hlenT
      change w2.ownsRow w.heap.size 34 3 (.slice (some ⟨gC, 0, none⟩) (trisTo l h n 20 0 0).length cp) (trisTo l h n 20 0 0).length (cellsT (triL l h n)) at hrow2
      have HW2 := Lib.hid (HW0.out.setT (T' := triL l h n) hg2 (by rw [hlenT]; exact hrow2))
      have HB2 := Lib.hid (grown_lowC HBW.out hg2 HBW.out.size hgC0)
      have c4 := blk_cell HW2.out.blk 4 (.slice (some ⟨gC, 0, none⟩) (trisTo l h n 20 0 0).length cp) rfl
      have hlg := blk_lt HW2.out.blk
      clear hrow2 hg2 hlenT HW0 HN HBW
      generalize (trisTo l h n 20 0 0).length = N at *
      go_wp2_with fail
      clear c4
      go_loopw [68] (fun i wr => ∃ k : Nat, k ≤ N ∧ i = .int .i64 k ∧ Below w.heap.size w wr ∧ ∃ Ev, NetW w.heap.size wr h n (w.heap.size + 1) w.heap.size l V (.slice (some ⟨gC, 0, none⟩) N cp) (triL l h n) Ev (((triL l h n).take k).flatMap eds) (.slice none 0 0)) (fun i _ => N - (intOf i).toNat)
      case atStart => exact ⟨0, Nat.zero_le _, rfl, HB2.out, _, by simpa using HW2.out⟩
      case round =>
        obtain ⟨k, hk, rfl, hb, Ev, hw⟩ := hrel
        have HB := Lib.hid hb
        have HW := Lib.hid hw
        clear hb hw HB2 HW2
        by_cases hkN : k < N
        · have hkI : (k : Int) < (N : Int) := by omega
          have hkT : k < (triL l h n).length := by rw [HLT.out]; exact hkN
          obtain ⟨t, htk⟩ : ∃ t, t = (triL l h n)[k]! := ⟨_, rfl⟩
          have HTK := Lib.hid htk
          have hrow := HW.out.tri
          rw [HLT.out] at hrow
          have q0 := own_cell hrow (k * 3) (.int .i64 t.a) (by rw [htk]; exact (cellsT_at _ k hkT).1)
          have q1 := own_cell hrow (k * 3 + 1) (.int .i64 t.b) (by rw [htk]; exact (cellsT_at _ k hkT).2.1)
          have q2 := own_cell hrow (k * 3 + 2) (.int .i64 t.c) (by rw [htk]; exact (cellsT_at _ k hkT).2.2)
          have hlC := (hrow.lt gC rfl).2
          obtain ⟨w3, hw3⟩ : ∃ w3, w3 = wr.alloc (.cells #[.int .i64 t.a, .int .i64 t.b, .int .i64 t.c] 34) := ⟨_, rfl⟩
          have HW3 := Lib.hid (show NetW w.heap.size w3 h n (w.heap.size + 1) w.heap.size l V (.slice (some ⟨gC, 0, none⟩) N cp) (triL l h n) Ev (((triL l h n).take k).flatMap eds) (.slice none 0 0) by rw [hw3]; exact HW.out.below (C' := Value.bool true) (alloc_below _ _))
          have HB3 := Lib.hid (show Below w.heap.size w w3 by rw [hw3]; exact below_alloc HB.out _)
          have HD3 := Lib.hid (show w3.heap[wr.heap.size]? = some (.cells #[.int .i64 t.a, .int .i64 t.b, .int .i64 t.c] 34 (0, 0)) by rw [hw3]; exact blk_new wr _)
          have hEl : (((triL l h n).take k).flatMap eds).length ≤ 3 * N := by
            have : ∀ L : List Tri, (L.flatMap eds).length = 3 * L.length := by
              intro L
              induction L with
              | nil => rfl
              | cons t L ih => simp only [List.flatMap_cons, List.length_append, List.length_cons, ih]; simp [eds]; omega
            rw [this, List.length_take, HLT.out]
            omega
          have HEN := Lib.hid (show ((triL l h n).take (k + 1)).flatMap eds = ((triL l h n).take k).flatMap eds ++ [⟨t.a, t.b⟩, ⟨t.a, t.c⟩, ⟨t.b, t.c⟩] by
            rw [List.take_succ_eq_append_getElem hkT, List.flatMap_append]
            have : (triL l h n)[k] = t := by rw [htk, getElem!_pos _ k hkT]
            rw [this]
            simp [eds])
          clear hrow htk
          go_upto_region 17 with fail
          rw [← hw3]
          have d0 := blk_cell HD3.out 0 (.int .i64 t.a) rfl
          have d1 := blk_cell HD3.out 1 (.int .i64 t.b) rfl
          have d2 := blk_cell HD3.out 2 (.int .i64 t.c) rfl
          have hlD := blk_lt HD3.out
          have e5 := blk_cell HW3.out.blk 5 Ev rfl
          have hlg := blk_lt HW3.out.blk
          clear q0 q1 q2 hw3
          generalize ((triL l h n).take k).flatMap eds = R at *
          obtain ⟨A, cpE, hE⟩ := own_slice HW3.out.edg
          subst hE
          obtain ⟨i0, hi, hz0, hz1, hz2⟩ := info_parts infoE
          have HI := Lib.hid hi
          have HZ0 := Lib.hid hz0
          have HZ1 := Lib.hid hz1
          have HZ2 := Lib.hid hz2
          clear hi hz0 hz1 hz2
          have hned : ¬ w.heap.size + 1 = wr.heap.size := by have := blk_lt HW.out.blk; omega
          have hned' : ¬ wr.heap.size = w.heap.size + 1 := fun e => hned e.symm
          refine wp_region_noPanic ?_
          refine wp_region_held_drew (S := fun w' => w'.cell? ⟨wr.heap.size, 0, none⟩ = some (.int .i64 t.a) ∧ w'.cell? ⟨wr.heap.size, 1, none⟩ = some (.int .i64 t.b) ∧ w'.cell? ⟨wr.heap.size, 2, none⟩ = some (.int .i64 t.c)) (by kernel_rfl) (by refine ⟨?_, ?_, ?_⟩ <;> go_simp) (fun hHeld => ?_)
          refine wpAnyH_take (i := 0) (v := ?_) (by simp only [List.getElem?_toArray, List.getElem?_cons_zero, List.getElem?_cons_succ]; rfl) (by kernel_rfl) (by kernel_rfl) (by kernel_rfl) (fun _ _ _ h => h) (Or.inl ⟨by rfl, ?_⟩) (by assumption) ?_
          rotate_left
          · (intro w' hSw; (try dsimp only at hSw); go_simp; try with_reducible rfl)
          try simp only [Act.put, List.setIfInBounds_toArray, List.set_cons_zero, List.set_cons_succ]
          refine wpAnyH_take (i := 1) (v := ?_) (by simp only [List.getElem?_toArray, List.getElem?_cons_zero, List.getElem?_cons_succ]; rfl) (by kernel_rfl) (by kernel_rfl) (by kernel_rfl) (fun _ _ _ h => h) (Or.inl ⟨by rfl, ?_⟩) (by assumption) ?_
          rotate_left
          · (intro w' hSw; (try dsimp only at hSw); go_simp; try with_reducible rfl)
          try simp only [Act.put, List.setIfInBounds_toArray, List.set_cons_zero, List.set_cons_succ]
          refine wpAnyH_take (i := 2) (v := ?_) (by simp only [List.getElem?_toArray, List.getElem?_cons_zero, List.getElem?_cons_succ]; rfl) (by kernel_rfl) (by kernel_rfl) (by kernel_rfl) (fun _ _ _ h => h) (Or.inl ⟨by rfl, ?_⟩) (by assumption) ?_
          rotate_left
          · (intro w' hSw; (try dsimp only at hSw); go_simp; try with_reducible rfl)
          try simp only [Act.put, List.setIfInBounds_toArray, List.set_cons_zero, List.set_cons_succ]
          refine wpAnyH_take (i := 3) (v := ?_) (by simp only [List.getElem?_toArray, List.getElem?_cons_zero, List.getElem?_cons_succ]; rfl) (by kernel_rfl) (by kernel_rfl) (by kernel_rfl) (fun _ _ _ h => h) (Or.inl ⟨by rfl, ?_⟩) (by assumption) ?_
          rotate_left
          · (intro w' hSw; (try dsimp only at hSw); go_simp; try with_reducible rfl)
          try simp only [Act.put, List.setIfInBounds_toArray, List.set_cons_zero, List.set_cons_succ]
          refine wpAnyH_take (i := 5) (v := ?_) (by simp only [List.getElem?_toArray, List.getElem?_cons_zero, List.getElem?_cons_succ]; rfl) (by kernel_rfl) (by kernel_rfl) (by kernel_rfl) (fun _ _ _ h => h) (Or.inl ⟨by rfl, ?_⟩) (by assumption) ?_
          rotate_left
          · (intro w' hSw; (try dsimp only at hSw); go_simp; try with_reducible rfl)
          try simp only [Act.put, List.setIfInBounds_toArray, List.set_cons_zero, List.set_cons_succ]
          refine wpAnyH_take (i := 6) (v := ?_) (by simp only [List.getElem?_toArray, List.getElem?_cons_zero, List.getElem?_cons_succ]; rfl) (by kernel_rfl) (by kernel_rfl) (by kernel_rfl) (fun _ _ _ h => h) (Or.inl ⟨by rfl, ?_⟩) (by assumption) ?_
          rotate_left
          · (intro w' hSw; (try dsimp only at hSw); go_simp; try with_reducible rfl)
          try simp only [Act.put, List.setIfInBounds_toArray, List.set_cons_zero, List.set_cons_succ]
          refine wpAnyH_take (i := 7) (v := ?_) (by simp only [List.getElem?_toArray, List.getElem?_cons_zero, List.getElem?_cons_succ]; rfl) (by kernel_rfl) (by kernel_rfl) (by kernel_rfl) (fun _ _ _ h => h) (Or.inl ⟨by rfl, ?_⟩) (by assumption) ?_
          rotate_left
          · (intro w' hSw; (try dsimp only at hSw); go_simp; try with_reducible rfl)
          try simp only [Act.put, List.setIfInBounds_toArray, List.set_cons_zero, List.set_cons_succ]
          refine wpAnyH_take (i := 8) (v := ?_) (by simp only [List.getElem?_toArray, List.getElem?_cons_zero, List.getElem?_cons_succ]; rfl) (by kernel_rfl) (by kernel_rfl) (by kernel_rfl) (fun _ _ _ h => h) (Or.inl ⟨by rfl, ?_⟩) (by assumption) ?_
          rotate_left
          · (intro w' hSw; (try dsimp only at hSw); go_simp; try with_reducible rfl)
          try simp only [Act.put, List.setIfInBounds_toArray, List.set_cons_zero, List.set_cons_succ]
          refine wpAnyH_take (i := 9) (v := ?_) (by simp only [List.getElem?_toArray, List.getElem?_cons_zero, List.getElem?_cons_succ]; rfl) (by kernel_rfl) (by kernel_rfl) (by kernel_rfl) (fun _ _ _ h => h) (Or.inl ⟨by rfl, ?_⟩) (by assumption) ?_
          rotate_left
          · (intro w' hSw; (try dsimp only at hSw); go_simp; try with_reducible rfl)
          try simp only [Act.put, List.setIfInBounds_toArray, List.set_cons_zero, List.set_cons_succ]
          refine wpAnyH_take (i := 10) (v := ?_) (by simp only [List.getElem?_toArray, List.getElem?_cons_zero, List.getElem?_cons_succ]; rfl) (by kernel_rfl) (by kernel_rfl) (by kernel_rfl) (fun _ _ _ h => h) (Or.inl ⟨by rfl, ?_⟩) (by assumption) ?_
          rotate_left
          · (intro w' hSw; (try dsimp only at hSw); go_simp; try with_reducible rfl)
          try simp only [Act.put, List.setIfInBounds_toArray, List.set_cons_zero, List.set_cons_succ]
          refine wpAnyH_take (i := 11) (v := ?_) (by simp only [List.getElem?_toArray, List.getElem?_cons_zero, List.getElem?_cons_succ]; rfl) (by kernel_rfl) (by kernel_rfl) (by kernel_rfl) (fun _ _ _ h => h) (Or.inl ⟨by rfl, ?_⟩) (by assumption) ?_
          rotate_left
          · (intro w' hSw; (try dsimp only at hSw); go_simp; try with_reducible rfl)
          try simp only [Act.put, List.setIfInBounds_toArray, List.set_cons_zero, List.set_cons_succ]
          refine wpAnyH_take (i := 12) (v := ?_) (by simp only [List.getElem?_toArray, List.getElem?_cons_zero, List.getElem?_cons_succ]; rfl) (by kernel_rfl) (by kernel_rfl) (by kernel_rfl) (fun _ _ _ h => h) (Or.inl ⟨by rfl, ?_⟩) (by assumption) ?_
          rotate_left
          · (intro w' hSw; (try dsimp only at hSw); go_simp; try with_reducible rfl)
          try simp only [Act.put, List.setIfInBounds_toArray, List.set_cons_zero, List.set_cons_succ]
          refine wpAnyH_take (i := 13) (v := ?_) (by simp only [List.getElem?_toArray, List.getElem?_cons_zero, List.getElem?_cons_succ]; rfl) (by kernel_rfl) (by kernel_rfl) (by kernel_rfl) (fun _ _ _ h => h) (Or.inl ⟨by rfl, ?_⟩) (by assumption) ?_
          rotate_left
          · (intro w' hSw; (try dsimp only at hSw); go_simp; try with_reducible rfl)
          try simp only [Act.put, List.setIfInBounds_toArray, List.set_cons_zero, List.set_cons_succ]
          refine wpAnyH_take (i := 14) (v := ?_) (by simp only [List.getElem?_toArray, List.getElem?_cons_zero, List.getElem?_cons_succ]; rfl) (by kernel_rfl) (by kernel_rfl) (by kernel_rfl) (fun _ _ _ h => h) (Or.inl ⟨by rfl, ?_⟩) (by assumption) ?_
          rotate_left
          · (intro w' hSw; (try dsimp only at hSw); go_simp; try with_reducible rfl)
          try simp only [Act.put, List.setIfInBounds_toArray, List.set_cons_zero, List.set_cons_succ]
          refine wpAnyH_take (i := 15) (v := ?_) (by simp only [List.getElem?_toArray, List.getElem?_cons_zero, List.getElem?_cons_succ]; rfl) (by kernel_rfl) (by kernel_rfl) (by kernel_rfl) (fun _ _ _ h => h) (Or.inl ⟨by rfl, ?_⟩) (by assumption) ?_
          rotate_left
          · (intro w' hSw; (try dsimp only at hSw); go_simp; try with_reducible rfl)
          try simp only [Act.put, List.setIfInBounds_toArray, List.set_cons_zero, List.set_cons_succ]
          refine wpAnyH_take (i := 16) (v := ?_) (by simp only [List.getElem?_toArray, List.getElem?_cons_zero, List.getElem?_cons_succ]; rfl) (by kernel_rfl) (by kernel_rfl) (by kernel_rfl) (fun _ _ _ h => h) (Or.inl ⟨by rfl, ?_⟩) (by assumption) ?_
          rotate_left
          · (intro w' hSw; (try dsimp only at hSw); go_simp; try with_reducible rfl)
          try simp only [Act.put, List.setIfInBounds_toArray, List.set_cons_zero, List.set_cons_succ]
          refine wpAnyH_take (i := 17) (v := ?_) (by simp only [List.getElem?_toArray, List.getElem?_cons_zero, List.getElem?_cons_succ]; rfl) (by kernel_rfl) (by kernel_rfl) (by kernel_rfl) (fun _ _ _ h => h) (Or.inl ⟨by rfl, ?_⟩) (by assumption) ?_
          rotate_left
          · (intro w' hSw; (try dsimp only at hSw); go_simp; try with_reducible rfl)
          try simp only [Act.put, List.setIfInBounds_toArray, List.set_cons_zero, List.set_cons_succ]
          refine wpAnyH_take (i := 18) (v := ?_) (by simp only [List.getElem?_toArray, List.getElem?_cons_zero, List.getElem?_cons_succ]; rfl) (by kernel_rfl) (by kernel_rfl) (by kernel_rfl) (fun _ _ _ h => h) (Or.inl ⟨by rfl, ?_⟩) (by assumption) ?_
          rotate_left
          · (intro w' hSw; (try dsimp only at hSw); go_simp; try with_reducible rfl)
          try simp only [Act.put, List.setIfInBounds_toArray, List.set_cons_zero, List.set_cons_succ]
          refine wpAnyH_take (i := 19) (v := ?_) (by simp only [List.getElem?_toArray, List.getElem?_cons_zero, List.getElem?_cons_succ]; rfl) (by kernel_rfl) (by kernel_rfl) (by kernel_rfl) (fun _ _ _ h => h) (Or.inl ⟨by rfl, ?_⟩) (by assumption) ?_
          rotate_left
          · (intro w' hSw; (try dsimp only at hSw); go_simp; try with_reducible rfl)
          try simp only [Act.put, List.setIfInBounds_toArray, List.set_cons_zero, List.set_cons_succ]
          refine wpAnyH_ready (rs := [4, 20]) (by kernel_rfl) (by simp) ?_
          refine AllReadyH.cons (by simp only [List.getElem?_toArray, List.getElem?_cons_zero, List.getElem?_cons_succ]; rfl) (fun K hK => ?_) ?_
          · go_simp
            refine hK.out _ _ (by refine ⟨?_, ?_, ?_⟩ <;> go_simp) (fun hH1 => ?_)
            clear hK K hHeld
            refine wpAnyH_ready (rs := [20]) (by kernel_rfl) (by simp) ?_
            refine AllReadyH.cons (by simp only [List.getElem?_toArray, List.getElem?_cons_zero, List.getElem?_cons_succ]; rfl) (fun K hK => ?_) ?_
            · go_simp
              refine hK.out _ _ (by refine ⟨?_, ?_, ?_⟩ <;> go_simp) (fun hH2 => ?_)
              clear hK K hH1
              refine wpAnyH_ready (rs := [21]) (by kernel_rfl) (by simp) ?_
              refine AllReadyH.cons (by simp only [List.getElem?_toArray, List.getElem?_cons_zero, List.getElem?_cons_succ]; rfl) (fun K hK => ?_) ?_
              · refine step_append_lies _ (by rfl) _ _ 35 (by rfl) w.heap.size 39 i0 _ 2 16 Tryz.underlying35 HI.out HZ0.out HZ1.out HZ2.out rfl (by decide) _ R.length (cellsE R) (by rfl) (by exact HW3.out.edg.alloc _) ⟨w3.heap.size, 0, none⟩ 3 3 [.int .i64 t.a, .int .i64 t.b, .int .i64 t.a, .int .i64 t.c, .int .i64 t.b, .int .i64 t.c] (by rfl) rfl (by exact World.news_of_block (heap_alloc_new w3 (.cells #[.int .i64 t.a, .int .i64 t.b, .int .i64 t.a, .int .i64 t.c, .int .i64 t.b, .int .i64 t.c] 39))) (by simp [Value.oneCell']) (by omega) (by simp only [maxLen]; omega) (by omega) (by have := HW3.out.bg; simp; omega) _ rfl ?_
                intro g7 cap7 w7 hown7 hgrow7 hat7 hlt7
                have HG37 := Lib.hid (grown_via hgrow7)
                have hb7 := (HG37.out.block (w.heap.size + 1) hlg (own_ne HW3.out.edg HW3.out.blk (fun cur => netNe cur _ _ (by decide)))).trans HW3.out.blk
                have s4 := blk_cell hb7 5 (.slice A R.length cpE) rfl
                have sf := blk_free hb7 5
                have hl7 := blk_lt hb7
                have HO7 := Lib.hid hown7
                have hd7 := (HG37.out.block wr.heap.size hlD (own_ne HW3.out.edg HD3.out (fun cur h => by injection h with _ h2; exact absurd h2 (by decide)))).trans HD3.out
                have k7 : w7.cell? ⟨wr.heap.size, 0, none⟩ = some (.int .i64 t.a) ∧ w7.cell? ⟨wr.heap.size, 1, none⟩ = some (.int .i64 t.b) ∧ w7.cell? ⟨wr.heap.size, 2, none⟩ = some (.int .i64 t.c) := ⟨blk_cell hd7 0 _ rfl, blk_cell hd7 1 _ rfl, blk_cell hd7 2 _ rfl⟩
                clear hgrow7 hown7 hat7 hb7 hd7
                refine hK.out _ _ (by assumption) (fun hH3 => ?_)
                clear hK K hH2
                refine wpAnyH_take (i := 22) (v := ?_) (by simp only [List.getElem?_toArray, List.getElem?_cons_zero, List.getElem?_cons_succ]; rfl) (by kernel_rfl) (by kernel_rfl) (by kernel_rfl) (fun _ _ _ h => h) (Or.inl ⟨by rfl, ?_⟩) (by assumption) ?_
                rotate_left
                · (intro w' hSw; (try dsimp only at hSw); go_simp; try with_reducible rfl)
                try simp only [Act.put, List.setIfInBounds_toArray, List.set_cons_zero, List.set_cons_succ]
                refine wpAnyH_take (i := 23) (v := ?_) (by simp only [List.getElem?_toArray, List.getElem?_cons_zero, List.getElem?_cons_succ]; rfl) (by kernel_rfl) (by kernel_rfl) (by kernel_rfl) (fun _ _ _ h => h) (Or.inl ⟨by rfl, ?_⟩) (by assumption) ?_
                rotate_left
                · (intro w' hSw; (try dsimp only at hSw); go_simp; try with_reducible rfl)
                try simp only [Act.put, List.setIfInBounds_toArray, List.set_cons_zero, List.set_cons_succ]
                refine wpAnyH_ready (rs := [24]) (by kernel_rfl) (by simp) ?_
                refine AllReadyH.cons (by simp only [List.getElem?_toArray, List.getElem?_cons_zero, List.getElem?_cons_succ]; rfl) (fun K hK => ?_) ?_
                · go_simp
                  refine hK.out _ _ (by refine ⟨?_, ?_, ?_⟩ <;> go_simp) (fun hH4 => ?_)
                  clear hK K hH3
                  refine wpAnyH_done (by kernel_rfl) ?_ _
                  refine NoPanic.normal ?_
                  have HE7 := Lib.hid (NetW.setE (R' := R ++ [⟨t.a, t.b⟩, ⟨t.a, t.c⟩, ⟨t.b, t.c⟩]) HW3.out HG37.out (by rw [cellsE_app3, List.length_append]; exact HO7.out))
                  have HB7 := Lib.hid (Below.setCell (HB3.out.grown HG37.out HB3.out.size (fun k hk => (HW3.out.edg.lt k hk).1)) (by exact Nat.le_succ _) _ : Below w.heap.size w (w7.setCell ⟨w.heap.size + 1, 5, none⟩ (.slice (some ⟨g7, 0, none⟩) (R.length + 3) cap7)))
                  clear d0 d1 d2 e5 s4 sf k7
                  go_wp2_with fail
                  go_roundw
                  case rel => exact ⟨k + 1, by omega, by go_num, HB7.out, _, by rw [HEN.out]; exact HE7.out⟩
                  case measure => simp [intOf]; omega
                · exact AllReadyH.nil
              · exact AllReadyH.nil
            · exact AllReadyH.nil
          · refine AllReadyH.cons (by simp only [List.getElem?_toArray, List.getElem?_cons_zero, List.getElem?_cons_succ]; rfl) (fun K hK => ?_) ?_
            · go_simp
              refine hK.out _ _ (by refine ⟨?_, ?_, ?_⟩ <;> go_simp) (fun hH1 => ?_)
              clear hK K hHeld
              refine wpAnyH_ready (rs := [4]) (by kernel_rfl) (by simp) ?_
              refine AllReadyH.cons (by simp only [List.getElem?_toArray, List.getElem?_cons_zero, List.getElem?_cons_succ]; rfl) (fun K hK => ?_) ?_
              · go_simp
                refine hK.out _ _ (by refine ⟨?_, ?_, ?_⟩ <;> go_simp) (fun hH2 => ?_)
                clear hK K hH1
                refine wpAnyH_ready (rs := [21]) (by kernel_rfl) (by simp) ?_
                refine AllReadyH.cons (by simp only [List.getElem?_toArray, List.getElem?_cons_zero, List.getElem?_cons_succ]; rfl) (fun K hK => ?_) ?_
                · refine step_append_lies _ (by rfl) _ _ 35 (by rfl) w.heap.size 39 i0 _ 2 16 Tryz.underlying35 HI.out HZ0.out HZ1.out HZ2.out rfl (by decide) _ R.length (cellsE R) (by rfl) (by exact HW3.out.edg.alloc _) ⟨w3.heap.size, 0, none⟩ 3 3 [.int .i64 t.a, .int .i64 t.b, .int .i64 t.a, .int .i64 t.c, .int .i64 t.b, .int .i64 t.c] (by rfl) rfl (by exact World.news_of_block (heap_alloc_new w3 (.cells #[.int .i64 t.a, .int .i64 t.b, .int .i64 t.a, .int .i64 t.c, .int .i64 t.b, .int .i64 t.c] 39))) (by simp [Value.oneCell']) (by omega) (by simp only [maxLen]; omega) (by omega) (by have := HW3.out.bg; simp; omega) _ rfl ?_
                  intro g7 cap7 w7 hown7 hgrow7 hat7 hlt7
                  have HG37 := Lib.hid (grown_via hgrow7)
                  have hb7 := (HG37.out.block (w.heap.size + 1) hlg (own_ne HW3.out.edg HW3.out.blk (fun cur => netNe cur _ _ (by decide)))).trans HW3.out.blk
                  have s4 := blk_cell hb7 5 (.slice A R.length cpE) rfl
                  have sf := blk_free hb7 5
                  have hl7 := blk_lt hb7
                  have HO7 := Lib.hid hown7
                  have hd7 := (HG37.out.block wr.heap.size hlD (own_ne HW3.out.edg HD3.out (fun cur h => by injection h with _ h2; exact absurd h2 (by decide)))).trans HD3.out
                  have k7 : w7.cell? ⟨wr.heap.size, 0, none⟩ = some (.int .i64 t.a) ∧ w7.cell? ⟨wr.heap.size, 1, none⟩ = some (.int .i64 t.b) ∧ w7.cell? ⟨wr.heap.size, 2, none⟩ = some (.int .i64 t.c) := ⟨blk_cell hd7 0 _ rfl, blk_cell hd7 1 _ rfl, blk_cell hd7 2 _ rfl⟩
                  clear hgrow7 hown7 hat7 hb7 hd7
                  refine hK.out _ _ (by assumption) (fun hH3 => ?_)
                  clear hK K hH2
                  refine wpAnyH_take (i := 22) (v := ?_) (by simp only [List.getElem?_toArray, List.getElem?_cons_zero, List.getElem?_cons_succ]; rfl) (by kernel_rfl) (by kernel_rfl) (by kernel_rfl) (fun _ _ _ h => h) (Or.inl ⟨by rfl, ?_⟩) (by assumption) ?_
                  rotate_left
                  · (intro w' hSw; (try dsimp only at hSw); go_simp; try with_reducible rfl)
                  try simp only [Act.put, List.setIfInBounds_toArray, List.set_cons_zero, List.set_cons_succ]
                  refine wpAnyH_take (i := 23) (v := ?_) (by simp only [List.getElem?_toArray, List.getElem?_cons_zero, List.getElem?_cons_succ]; rfl) (by kernel_rfl) (by kernel_rfl) (by kernel_rfl) (fun _ _ _ h => h) (Or.inl ⟨by rfl, ?_⟩) (by assumption) ?_
                  rotate_left
                  · (intro w' hSw; (try dsimp only at hSw); go_simp; try with_reducible rfl)
                  try simp only [Act.put, List.setIfInBounds_toArray, List.set_cons_zero, List.set_cons_succ]
                  refine wpAnyH_ready (rs := [24]) (by kernel_rfl) (by simp) ?_
                  refine AllReadyH.cons (by simp only [List.getElem?_toArray, List.getElem?_cons_zero, List.getElem?_cons_succ]; rfl) (fun K hK => ?_) ?_
                  · go_simp
                    refine hK.out _ _ (by refine ⟨?_, ?_, ?_⟩ <;> go_simp) (fun hH4 => ?_)
                    clear hK K hH3
                    refine wpAnyH_done (by kernel_rfl) ?_ _
                    refine NoPanic.normal ?_
                    have HE7 := Lib.hid (NetW.setE (R' := R ++ [⟨t.a, t.b⟩, ⟨t.a, t.c⟩, ⟨t.b, t.c⟩]) HW3.out HG37.out (by rw [cellsE_app3, List.length_append]; exact HO7.out))
                    have HB7 := Lib.hid (Below.setCell (HB3.out.grown HG37.out HB3.out.size (fun k hk => (HW3.out.edg.lt k hk).1)) (by exact Nat.le_succ _) _ : Below w.heap.size w (w7.setCell ⟨w.heap.size + 1, 5, none⟩ (.slice (some ⟨g7, 0, none⟩) (R.length + 3) cap7)))
                    clear d0 d1 d2 e5 s4 sf k7
                    go_wp2_with fail
                    go_roundw
                    case rel => exact ⟨k + 1, by omega, by go_num, HB7.out, _, by rw [HEN.out]; exact HE7.out⟩
                    case measure => simp [intOf]; omega
                  · exact AllReadyH.nil
                · exact AllReadyH.nil
              · exact AllReadyH.nil
            · exact AllReadyH.nil
        · obtain rfl : k = N := by omega
          have hkN' : decide (k < k) = false := decide_eq_false (by omega)
          have hRe : ((triL l h n).take k).flatMap eds = edR l h n := by
            rw [List.take_of_length_le (by rw [HLT.out]; exact Nat.le_refl _)]; rfl
          have HW4 := Lib.hid (show NetW w.heap.size wr h n (w.heap.size + 1) w.heap.size l V (.slice (some ⟨gC, 0, none⟩) k cp) (triL l h n) Ev (edR l h n) (.slice none 0 0) by rw [← hRe]; exact HW.out)
          have hRl : (edR l h n).length = 3 * k := by
            rw [edR_len, ← (sortT_perm (trisTo l h n 20 0 0)).length_eq]
            exact congrArg (3 * ·) HLT.out
          have hSl : (sortE (edR l h n)).length = 3 * k := by rw [(sortE_perm _).length_eq, hRl]
          have HRl := Lib.hid hRl
          have HSl := Lib.hid hSl
          obtain ⟨gE, cpE, hE, hgE0, hgE1⟩ := HW4.out.edg.form (by omega)
          have hkb : 3 * k ≤ 1000000 := by omega
          clear hRl hSl
          subst hE
          have e5 := blk_cell HW4.out.blk 5 _ rfl
          have hlg := blk_lt HW4.out.blk
          clear hRe HW
          go_wp2_with fail
          refine (sortE_any (edR l h n) w.heap.size gE cpE _ (by rw [HRl.out]; exact hkb) HW4.out.edg).mono ?_
          rintro e w2 ⟨rfl, hrow2, hg2⟩
          have HW5 := Lib.hid (HW4.out.setE' (R' := sortE (edR l h n)) hg2 (by rw [(sortE_perm _).length_eq]; exact hrow2))
          have HB5 := Lib.hid (grown_lowC HB.out hg2 HB.out.size hgE0)
          clear e5 hlg hrow2 hg2
          have e5 := blk_cell HW5.out.blk 5 _ rfl
          have hlg := blk_lt HW5.out.blk
          go_wp2_with fail
          refine (compact_any (sortE (edR l h n)) (by rw [HSl.out]; exact hkb) w.heap.size (.slice (some ⟨gE, 0, none⟩) (edR l h n).length cpE) _ HW5.out.edg (by rw [HSl.out]; omega)).mono ?_
          rintro e w3 ⟨Vc, rfl, hrow3, hob, hg3⟩
          have hrow3' : w3.ownsRow w.heap.size 39 2 Vc (edL l h n).length (cellsE (edL l h n)) := hrow3
          obtain ⟨AE, cE, hVc⟩ := own_slice hrow3'
          subst hVc
          have HW6 := Lib.hid (HW5.out.setE (R' := edL l h n) hg3 hrow3')
          have hb6 := (hg3.block (w.heap.size + 1) hlg (own_ne HW5.out.edg HW5.out.blk (fun cur => netNe cur _ _ (by decide)))).trans HW5.out.blk
          have HB6 := Lib.hid (Below.setCell (HB5.out.grown hg3 HB5.out.size (fun k hk => (HW5.out.edg.lt k hk).1)) (by exact Nat.le_succ _) (.slice AE (edL l h n).length cE) : Below w.heap.size w (w3.setCell ⟨w.heap.size + 1, 5, none⟩ (.slice AE (edL l h n).length cE)))
          have s5 := blk_cell hb6 5 (.slice (some ⟨gE, 0, none⟩) (edR l h n).length cpE) rfl
          have sf := blk_free hb6 5
          have hl6 := blk_lt hb6
          clear e5 hlg hrow3 hrow3' hg3 hb6
          go_upto_region 21 with fail
          obtain ⟨w4, hw4⟩ : ∃ w4, w4 = w3.setCell ⟨w.heap.size + 1, 5, none⟩ (.slice AE (edL l h n).length cE) := ⟨_, rfl⟩
          have HW7 := Lib.hid (show NetW w.heap.size w4 h n (w.heap.size + 1) w.heap.size l V (.slice (some ⟨gC, 0, none⟩) k cp) (triL l h n) (.slice AE (edL l h n).length cE) (edL l h n) (.slice none 0 0) by rw [hw4]; exact HW6.out)
          have HB7 := Lib.hid (show Below w.heap.size w w4 by rw [hw4]; exact HB6.out)
          rw [← hw4]
          clear s5 sf hl6 hw4 HW6 HB6 HW5 HB5 HW4
          obtain ⟨AV, cV, hV⟩ := own_slice HW7.out.row
          subst hV
          have c2 := blk_cell HW7.out.blk 2 (.slice AV l.length cV) rfl
          have c6 := blk_cell HW7.out.blk 6 (.slice none 0 0) rfl
          have f6 := blk_free HW7.out.blk 6
          have hlg := blk_lt HW7.out.blk
          have hmk : ∀ W : World, (Instr.makeSlice 83 (.int .i64 (l.length : Int)) (.int .i64 (l.length : Int))).run Tryz.prog W = .ok (.slice (some ⟨W.heap.size, 0, none⟩) l.length l.length) (W.alloc (.cells (madeCells #[.slice none 0 0] l.length) 23)) := fun W => run_make_row' 83 23 (.slice none 0 0) 24 (by rfl) (by kernel_rfl) rfl .i64 .i64 l.length (by omega) (by omega) W
          go_upto_region 22 with fail
          obtain ⟨w5, hw5⟩ : ∃ w5, w5 = (w4.setCell ⟨w.heap.size + 1, 6, none⟩ (.slice (some ⟨w4.heap.size, 0, none⟩) l.length l.length)).alloc (.cells (madeCells #[.slice none 0 0] l.length) 23) := ⟨_, rfl⟩
          obtain ⟨gx, hgx⟩ : ∃ gx, gx = w4.heap.size := ⟨_, rfl⟩
          have hsz : (w4.setCell ⟨w.heap.size + 1, 6, none⟩ (.slice (some ⟨w4.heap.size, 0, none⟩) l.length l.length)).heap.size = gx := by rw [hgx]; exact size_setCells (w.heap.size + 1) [_] 6 w4
          have HW8 := Lib.hid (show NetW w.heap.size w5 h n (w.heap.size + 1) w.heap.size l (.slice AV l.length cV) (.slice (some ⟨gC, 0, none⟩) k cp) (triL l h n) (.slice AE (edL l h n).length cE) (edL l h n) (.slice (some ⟨gx, 0, none⟩) l.length l.length) by rw [hw5, hgx]; exact (HW7.out.setX).below (C' := Value.bool true) (alloc_below _ _))
          have HB8 := Lib.hid (show Below w.heap.size w w5 by rw [hw5]; exact below_alloc (HB7.out.setCell (Nat.le_succ _) _) _)
          have HR8 := Lib.hid (show Rows2 w.heap.size w5 gx l.length (fun _ => .slice none 0 0) (nxR []) by
            refine ⟨?_, fun i _ => World.ownsRow_nil _ _ _ _, fun _ _ _ _ _ => .inl rfl, by rw [hgx]; exact HB7.out.size⟩
            rw [← hsz, hw5]
            exact World.rowIs_made _ _ _ _)
          rw [← hw5]
          rw [← hgx]
          clear c2 c6 f6 hlg hmk hw5 hgx hsz HW7 HB7
          have c5 := blk_cell HW8.out.blk 5 (.slice AE (edL l h n).length cE) rfl
          have hlg := blk_lt HW8.out.blk
          have hEl : (edL l h n).length ≤ 3 * k := by
            have h1 := edL_len l h n
            rw [← (sortT_perm (trisTo l h n 20 0 0)).length_eq] at h1
            exact Nat.le_trans h1 (Nat.le_of_eq (congrArg (3 * ·) HLT.out))
          have HOK := Lib.hid (edL_ok l HLP.out h n)
          generalize hE : edL l h n = E at *
          have HE := Lib.hid hE
          clear hE
          go_wp2_with fail
          go_loopw [124] (fun i wr => ∃ m : Nat, m ≤ E.length ∧ i = .int .i64 m ∧ Below w.heap.size w wr ∧ NetW w.heap.size wr h n (w.heap.size + 1) w.heap.size l (.slice AV l.length cV) (.slice (some ⟨gC, 0, none⟩) k cp) (triL l h n) (.slice AE E.length cE) E (.slice (some ⟨gx, 0, none⟩) l.length l.length) ∧ ∃ Vx, Rows2 w.heap.size wr gx l.length Vx (nxR (E.take m))) (fun i _ => E.length - (intOf i).toNat)
          case atStart => exact ⟨0, Nat.zero_le _, rfl, HB8.out, HW8.out, _, HR8.out⟩
          case round =>
            obtain ⟨m, hm, rfl, hbm, hwm, Vx, hrm⟩ := hrel
            have HBM := Lib.hid hbm
            have HWM := Lib.hid hwm
            have HRM := Lib.hid hrm
            clear hbm hwm hrm HB8 HW8 HR8 c5 hlg
            by_cases hmE : m < E.length
            · have hmI : (m : Int) < (E.length : Int) := by omega
              obtain ⟨t, htk⟩ : ∃ t, t = E[m]! := ⟨_, rfl⟩
              have hgt : E[m] = t := by rw [htk, getElem!_pos E m hmE]
              obtain ⟨o1, o2⟩ : okE l.length t := HOK.out t (by rw [← hgt]; exact List.getElem_mem hmE)
              obtain ⟨ia, ib⟩ := t
              have HTK := Lib.hid htk
              have HSN := Lib.hid (show nxR (E.take (m + 1)) = addE (nxR (E.take m)) ⟨ia, ib⟩ by rw [List.take_succ_eq_append_getElem hmE, hgt, nxR_snoc])
              obtain ⟨gA, cpA, hA, hA0, hA1⟩ := HWM.out.edg.form (by omega)
              injection hA with hA2 _ hA3
              subst hA2
              subst hA3
              have q0 := own_cell HWM.out.edg (m * 2) (.int .i64 ia) (by rw [cellsE_at E (m * 2) (by omega), show m * 2 / 2 = m by omega, show m * 2 % 2 = 0 by omega, ← htk]; rfl)
              have q1 := own_cell HWM.out.edg (m * 2 + 1) (.int .i64 ib) (by rw [cellsE_at E (m * 2 + 1) (by omega), show (m * 2 + 1) / 2 = m by omega, show (m * 2 + 1) % 2 = 1 by omega, ← htk]; rfl)
              clear htk hgt
              obtain ⟨ja, rfl⟩ : ∃ ja : Nat, ia = (ja : Int) := ⟨ia.toNat, by have := o1.1; simp only at this; omega⟩
              obtain ⟨jb, rfl⟩ : ∃ jb : Nat, ib = (jb : Int) := ⟨ib.toNat, by have := o2.1; simp only at this; omega⟩
              have hja : ja < l.length := by have := o1.2; simp only at this; omega
              have hjb : jb < l.length := by have := o2.2; simp only at this; omega
              have hjaI : (ja : Int) < (l.length : Int) := by omega
              have hjbI : (jb : Int) < (l.length : Int) := by omega
              have hlen : ∀ j, (nxR (E.take m) j).length ≤ 2 * m := fun j => Nat.le_trans (nxR_len _ j) (by rw [List.length_take]; omega)
              obtain ⟨Y, hY⟩ : ∃ Y, Y = nxR (E.take m) := ⟨_, rfl⟩
              rw [← hY] at hlen
              have HRY := Lib.hid (show Rows2 w.heap.size wr gx l.length Vx Y by rw [hY]; exact HRM.out)
              have HY := Lib.hid hY
              have hla := hlen ja
              have hlb := hlen jb
              have HLN6 := Lib.hid hlen
              clear hY hlen o1 o2 HRM
              obtain ⟨w6, hw6⟩ : ∃ w6, w6 = wr.alloc (.cells #[.int .i64 (ja : Int), .int .i64 (jb : Int)] 39) := ⟨_, rfl⟩
              have HW6 := Lib.hid (show NetW w.heap.size w6 h n (w.heap.size + 1) w.heap.size l (.slice AV l.length cV) (.slice (some ⟨gC, 0, none⟩) k cp) (triL l h n) (.slice (some ⟨gA, 0, none⟩) E.length cE) E (.slice (some ⟨gx, 0, none⟩) l.length l.length) by rw [hw6]; exact HWM.out.below (C' := Value.bool true) (alloc_below _ _))
              have HR6 := Lib.hid (show Rows2 w.heap.size w6 gx l.length Vx Y by rw [hw6]; exact HRY.out.below (alloc_below _ _))
              have HB6 := Lib.hid (show Below w.heap.size w w6 by rw [hw6]; exact below_alloc HBM.out _)
              have HD6 := Lib.hid (show w6.heap[wr.heap.size]? = some (.cells #[.int .i64 (ja : Int), .int .i64 (jb : Int)] 39 (0, 0)) by rw [hw6]; exact blk_new wr _)
              have hxr := HRY.out.row.lt
              have hgr := blk_lt HWM.out.blk
              have hgxg : ¬ gx = w.heap.size + 1 := by
                obtain ⟨c, hb, _, _⟩ := HRY.out.row
                intro e
                rw [e, HWM.out.blk] at hb
                injection hb with h2
                injection h2 with _ h3
                exact absurd h3 (by decide)
              have hgxg' : ¬ w.heap.size + 1 = gx := fun e => hgxg e.symm
              have hgxd : ¬ gx = wr.heap.size := by omega
              have hgxd' : ¬ wr.heap.size = gx := fun e => hgxd e.symm
              have hned : ¬ w.heap.size + 1 = wr.heap.size := by omega
              have hned' : ¬ wr.heap.size = w.heap.size + 1 := by omega
              go_upto_region 25 with fail
              rw [← hw6]
              clear q0 q1 hw6
              have d0 := blk_cell HD6.out 0 (.int .i64 (ja : Int)) rfl
              have d1 := blk_cell HD6.out 1 (.int .i64 (jb : Int)) rfl
              have hlD := blk_lt HD6.out
              have c6 := blk_cell HW6.out.blk 6 (.slice (some ⟨gx, 0, none⟩) l.length l.length) rfl
              have hlg := blk_lt HW6.out.blk
              obtain ⟨Aa6, ca6, hVa⟩ := own_slice (HR6.out.own ja hja)
              have r0 := HR6.out.row.cell hja
              rw [hVa] at r0
              have hlx := HR6.out.row.lt
              have HVA6 := Lib.hid hVa
              have HOA6 := Lib.hid (show w6.ownsRow w.heap.size 3 1 (.slice Aa6 (Y ja).length ca6) (Y ja).length (cellsI (Y ja)) by rw [← HVA6.out]; exact HR6.out.own ja hja)
              clear hVa
              obtain ⟨i6, hi1, hz3, hz4, hz5⟩ := info_parts infoI
              have HIa6 := Lib.hid hi1
              have HZa6 := Lib.hid hz3
              have HZb6 := Lib.hid hz4
              have HZc6 := Lib.hid hz5
              clear hi1 hz3 hz4 hz5
              refine wp_region_noPanic ?_
              refine wp_region_held_drew (S := fun w' => w'.cell? ⟨wr.heap.size, 0, none⟩ = some (.int .i64 (ja : Int)) ∧ w'.cell? ⟨wr.heap.size, 1, none⟩ = some (.int .i64 (jb : Int)) ∧ w'.cell? ⟨w.heap.size + 1, 6, none⟩ = some (.slice (some ⟨gx, 0, none⟩) l.length l.length)) (by kernel_rfl) (by refine ⟨?_, ?_, ?_⟩ <;> go_simp) (fun hHeld => ?_)
              refine wpAnyH_take (i := 0) (v := ?_) (by simp only [List.getElem?_toArray, List.getElem?_cons_zero, List.getElem?_cons_succ]; rfl) (by kernel_rfl) (by kernel_rfl) (by kernel_rfl) (fun _ _ _ h => h) (Or.inl ⟨by rfl, ?_⟩) (by assumption) ?_
              rotate_left
              · (intro w' hSw; (try dsimp only at hSw); go_simp; try with_reducible rfl)
              try simp only [Act.put, List.setIfInBounds_toArray, List.set_cons_zero, List.set_cons_succ]
              refine wpAnyH_take (i := 1) (v := ?_) (by simp only [List.getElem?_toArray, List.getElem?_cons_zero, List.getElem?_cons_succ]; rfl) (by kernel_rfl) (by kernel_rfl) (by kernel_rfl) (fun _ _ _ h => h) (Or.inl ⟨by rfl, ?_⟩) (by assumption) ?_
              rotate_left
              · (intro w' hSw; (try dsimp only at hSw); go_simp; try with_reducible rfl)
              try simp only [Act.put, List.setIfInBounds_toArray, List.set_cons_zero, List.set_cons_succ]
              refine wpAnyH_take (i := 2) (v := ?_) (by simp only [List.getElem?_toArray, List.getElem?_cons_zero, List.getElem?_cons_succ]; rfl) (by kernel_rfl) (by kernel_rfl) (by kernel_rfl) (fun _ _ _ h => h) (Or.inl ⟨by rfl, ?_⟩) (by assumption) ?_
              rotate_left
              · (intro w' hSw; (try dsimp only at hSw); go_simp; try with_reducible rfl)
              try simp only [Act.put, List.setIfInBounds_toArray, List.set_cons_zero, List.set_cons_succ]
              refine wpAnyH_take (i := 3) (v := ?_) (by simp only [List.getElem?_toArray, List.getElem?_cons_zero, List.getElem?_cons_succ]; rfl) (by kernel_rfl) (by kernel_rfl) (by kernel_rfl) (fun _ _ _ h => h) (Or.inl ⟨by rfl, ?_⟩) (by assumption) ?_
              rotate_left
              · (intro w' hSw; (try dsimp only at hSw); go_simp; try with_reducible rfl)
              try simp only [Act.put, List.setIfInBounds_toArray, List.set_cons_zero, List.set_cons_succ]
              refine wpAnyH_take (i := 4) (v := ?_) (by simp only [List.getElem?_toArray, List.getElem?_cons_zero, List.getElem?_cons_succ]; rfl) (by kernel_rfl) (by kernel_rfl) (by kernel_rfl) (fun _ _ _ h => h) (Or.inl ⟨by rfl, ?_⟩) (by assumption) ?_
              rotate_left
              · (intro w' hSw; (try dsimp only at hSw); go_simp; try with_reducible rfl)
              try simp only [Act.put, List.setIfInBounds_toArray, List.set_cons_zero, List.set_cons_succ]
              refine wpAnyH_take (i := 5) (v := ?_) (by simp only [List.getElem?_toArray, List.getElem?_cons_zero, List.getElem?_cons_succ]; rfl) (by kernel_rfl) (by kernel_rfl) (by kernel_rfl) (fun _ _ _ h => h) (Or.inl ⟨by rfl, ?_⟩) (by assumption) ?_
              rotate_left
              · (intro w' hSw; (try dsimp only at hSw); go_simp; try with_reducible rfl)
              try simp only [Act.put, List.setIfInBounds_toArray, List.set_cons_zero, List.set_cons_succ]
              refine wpAnyH_take (i := 6) (v := ?_) (by simp only [List.getElem?_toArray, List.getElem?_cons_zero, List.getElem?_cons_succ]; rfl) (by kernel_rfl) (by kernel_rfl) (by kernel_rfl) (fun _ _ _ h => h) (Or.inl ⟨by rfl, ?_⟩) (by assumption) ?_
              rotate_left
              · (intro w' hSw; (try dsimp only at hSw); go_simp; try with_reducible rfl)
              try simp only [Act.put, List.setIfInBounds_toArray, List.set_cons_zero, List.set_cons_succ]
              refine wpAnyH_take (i := 7) (v := ?_) (by simp only [List.getElem?_toArray, List.getElem?_cons_zero, List.getElem?_cons_succ]; rfl) (by kernel_rfl) (by kernel_rfl) (by kernel_rfl) (fun _ _ _ h => h) (Or.inl ⟨by rfl, ?_⟩) (by assumption) ?_
              rotate_left
              · (intro w' hSw; (try dsimp only at hSw); go_simp; try with_reducible rfl)
              try simp only [Act.put, List.setIfInBounds_toArray, List.set_cons_zero, List.set_cons_succ]
              refine wpAnyH_take (i := 8) (v := ?_) (by simp only [List.getElem?_toArray, List.getElem?_cons_zero, List.getElem?_cons_succ]; rfl) (by kernel_rfl) (by kernel_rfl) (by kernel_rfl) (fun _ _ _ h => h) (Or.inl ⟨by rfl, ?_⟩) (by assumption) ?_
              rotate_left
              · (intro w' hSw; (try dsimp only at hSw); go_simp; try with_reducible rfl)
              try simp only [Act.put, List.setIfInBounds_toArray, List.set_cons_zero, List.set_cons_succ]
              refine wpAnyH_take (i := 9) (v := ?_) (by simp only [List.getElem?_toArray, List.getElem?_cons_zero, List.getElem?_cons_succ]; rfl) (by kernel_rfl) (by kernel_rfl) (by kernel_rfl) (fun _ _ _ h => h) (Or.inl ⟨by rfl, ?_⟩) (by assumption) ?_
              rotate_left
              · (intro w' hSw; (try dsimp only at hSw); go_simp; try with_reducible rfl)
              try simp only [Act.put, List.setIfInBounds_toArray, List.set_cons_zero, List.set_cons_succ]
              refine wpAnyH_take (i := 10) (v := ?_) (by simp only [List.getElem?_toArray, List.getElem?_cons_zero, List.getElem?_cons_succ]; rfl) (by kernel_rfl) (by kernel_rfl) (by kernel_rfl) (fun _ _ _ h => h) (Or.inl ⟨by rfl, ?_⟩) (by assumption) ?_
              rotate_left
              · (intro w' hSw; (try dsimp only at hSw); go_simp; try with_reducible rfl)
              try simp only [Act.put, List.setIfInBounds_toArray, List.set_cons_zero, List.set_cons_succ]
              refine wpAnyH_take (i := 11) (v := ?_) (by simp only [List.getElem?_toArray, List.getElem?_cons_zero, List.getElem?_cons_succ]; rfl) (by kernel_rfl) (by kernel_rfl) (by kernel_rfl) (fun _ _ _ h => h) (Or.inl ⟨by rfl, ?_⟩) (by assumption) ?_
              rotate_left
              · (intro w' hSw; (try dsimp only at hSw); go_simp; try with_reducible rfl)
              try simp only [Act.put, List.setIfInBounds_toArray, List.set_cons_zero, List.set_cons_succ]
              refine wpAnyH_take (i := 12) (v := ?_) (by simp only [List.getElem?_toArray, List.getElem?_cons_zero, List.getElem?_cons_succ]; rfl) (by kernel_rfl) (by kernel_rfl) (by kernel_rfl) (fun _ _ _ h => h) (Or.inl ⟨by rfl, ?_⟩) (by assumption) ?_
              rotate_left
              · (intro w' hSw; (try dsimp only at hSw); go_simp; try with_reducible rfl)
              try simp only [Act.put, List.setIfInBounds_toArray, List.set_cons_zero, List.set_cons_succ]
              refine wpAnyH_take (i := 14) (v := ?_) (by simp only [List.getElem?_toArray, List.getElem?_cons_zero, List.getElem?_cons_succ]; rfl) (by kernel_rfl) (by kernel_rfl) (by kernel_rfl) (fun _ _ _ h => h) (Or.inl ⟨by rfl, ?_⟩) (by assumption) ?_
              rotate_left
              · (intro w' hSw; (try dsimp only at hSw); go_simp; try with_reducible rfl)
              try simp only [Act.put, List.setIfInBounds_toArray, List.set_cons_zero, List.set_cons_succ]
              refine wpAnyH_take (i := 15) (v := ?_) (by simp only [List.getElem?_toArray, List.getElem?_cons_zero, List.getElem?_cons_succ]; rfl) (by kernel_rfl) (by kernel_rfl) (by kernel_rfl) (fun _ _ _ h => h) (Or.inl ⟨by rfl, ?_⟩) (by assumption) ?_
              rotate_left
              · (intro w' hSw; (try dsimp only at hSw); go_simp; try with_reducible rfl)
              try simp only [Act.put, List.setIfInBounds_toArray, List.set_cons_zero, List.set_cons_succ]
              refine wpAnyH_ready (rs := [13, 16]) (by kernel_rfl) (by simp) ?_
              refine AllReadyH.cons (by simp only [List.getElem?_toArray, List.getElem?_cons_zero, List.getElem?_cons_succ]; rfl) (fun K hK => ?_) ?_
              · go_simp
                refine hK.out _ _ (by refine ⟨?_, ?_, ?_⟩ <;> go_simp) (fun hH1 => ?_)
                clear hK K hHeld
                refine wpAnyH_ready (rs := [16]) (by kernel_rfl) (by simp) ?_
                refine AllReadyH.cons (by simp only [List.getElem?_toArray, List.getElem?_cons_zero, List.getElem?_cons_succ]; rfl) (fun K hK => ?_) ?_
                · go_simp
                  refine hK.out _ _ (by refine ⟨?_, ?_, ?_⟩ <;> go_simp) (fun hH2 => ?_)
                  clear hK K hH1
                  refine wpAnyH_ready (rs := [17]) (by kernel_rfl) (by simp) ?_
                  refine AllReadyH.cons (by simp only [List.getElem?_toArray, List.getElem?_cons_zero, List.getElem?_cons_succ]; rfl) (fun K hK => ?_) ?_
                  · refine step_append_lies _ (by rfl) _ _ 23 (by rfl) w.heap.size 3 i6 _ 1 8 Tryz.underlying23 HIa6.out HZa6.out HZb6.out HZc6.out rfl (by decide) _ (Y ja).length (cellsI (Y ja)) (by rfl) (by exact HOA6.out.alloc _) ⟨w6.heap.size, 0, none⟩ 1 1 [.int .i64 (jb : Int)] (by rfl) rfl (by exact World.news_of_block (heap_alloc_new w6 (.cells #[.int .i64 (jb : Int)] 3))) (by simp [Value.oneCell']) (by omega) (by simp only [maxLen]; omega) (by omega) (by have := HW6.out.bg; simp; omega) _ rfl ?_
                    intro g6 cap6 v6 hown7 hgrow7 hat7 hlt7
                    have HG6 := Lib.hid (show w6.grownBy v6 (.slice Aa6 (Y ja).length ca6 : Value).ownBlock from grown_via hgrow7)
                    have HWp6 := Lib.hid (HW6.out.keepT HOA6.out HG6.out (by decide) (by decide) (by decide) (by decide))
                    have hd7 := (HG6.out.block wr.heap.size hlD (own_ne HOA6.out HD6.out (fun cur h => by injection h with _ h2; exact absurd h2 (by decide)))).trans HD6.out
                    have hrow7 := HR6.out.row.of_block (HG6.out.block gx hlx (HR6.out.ne HOA6.out HR6.out.row))
                    have k7 : v6.cell? ⟨wr.heap.size, 0, none⟩ = some (.int .i64 (ja : Int)) ∧ v6.cell? ⟨wr.heap.size, 1, none⟩ = some (.int .i64 (jb : Int)) ∧ v6.cell? ⟨w.heap.size + 1, 6, none⟩ = some (.slice (some ⟨gx, 0, none⟩) l.length l.length) := ⟨blk_cell hd7 0 _ rfl, blk_cell hd7 1 _ rfl, blk_cell HWp6.out.blk 6 (.slice (some ⟨gx, 0, none⟩) l.length l.length) rfl⟩
                    have s7 : v6.cell? ⟨gx, ja, none⟩ = some (.slice Aa6 (Y ja).length ca6) := by rw [hrow7.cell hja, HVA6.out]
                    have f7 : v6.frozen? ⟨gx, ja, none⟩ = false := hrow7.frozen ja
                    have HO6 := Lib.hid hown7
                    have HA6 := Lib.hid hat7
                    have HRW6 := Lib.hid hrow7
                    have HDp6 := Lib.hid hd7
                    clear hrow7 hd7 hgrow7 hown7 hat7
                    refine hK.out _ _ (by assumption) (fun hH3 => ?_)
                    clear hK K hH2
                    refine wpAnyH_take (i := 18) (v := ?_) (by simp only [List.getElem?_toArray, List.getElem?_cons_zero, List.getElem?_cons_succ]; rfl) (by kernel_rfl) (by kernel_rfl) (by kernel_rfl) (fun _ _ _ h => h) (Or.inl ⟨by rfl, ?_⟩) (by assumption) ?_
                    rotate_left
                    · (intro w' hSw; (try dsimp only at hSw); go_simp; try with_reducible rfl)
                    try simp only [Act.put, List.setIfInBounds_toArray, List.set_cons_zero, List.set_cons_succ]
                    refine wpAnyH_ready (rs := [19]) (by kernel_rfl) (by simp) ?_
                    refine AllReadyH.cons (by simp only [List.getElem?_toArray, List.getElem?_cons_zero, List.getElem?_cons_succ]; rfl) (fun K hK => ?_) ?_
                    · go_simp
                      refine hK.out _ _ (by refine ⟨?_, ?_, ?_⟩ <;> go_simp) (fun hH4 => ?_)
                      clear hK K hH3
                      refine wpAnyH_done (by kernel_rfl) ?_ _
                      refine NoPanic.normal ?_
                      obtain ⟨x7, hx7⟩ : ∃ x7, x7 = v6.setCell ⟨gx, ja, none⟩ (.slice (some ⟨g6, 0, none⟩) ((Y ja).length + 1) cap6) := ⟨_, rfl⟩
                      obtain ⟨Vz7, Z7, HR7, HZ7⟩ : ∃ Vz Z, Hid (Rows2 w.heap.size x7 gx l.length Vz Z) ∧ Hid (Z = upd Y ja (jb : Int)) := ⟨_, _, Lib.hid (by rw [hx7]; exact HR6.out.step ja hja (Y ja ++ [(jb : Int)]) g6 ((Y ja).length + 1) cap6 (by rw [HVA6.out]; exact HG6.out) (by rw [← cellsI_snoc, List.length_append]; exact HO6.out) (by rw [HVA6.out]; exact HA6.out.elim (fun hq => .inl hq) (fun hq => .inr (by rw [hq]; simp)))), Lib.hid (funext fun j => by by_cases e : j = ja <;> simp [upd, e])⟩
                      have HW7 := Lib.hid (show NetW w.heap.size x7 h n (w.heap.size + 1) w.heap.size l (.slice AV l.length cV) (.slice (some ⟨gC, 0, none⟩) k cp) (triL l h n) (.slice (some ⟨gA, 0, none⟩) E.length cE) E (.slice (some ⟨gx, 0, none⟩) l.length l.length) by rw [hx7]; exact HWp6.out.setRow HRW6.out ja (.slice (some ⟨g6, 0, none⟩) ((Y ja).length + 1) cap6))
                      have HB7 := Lib.hid (show Below w.heap.size w x7 by rw [hx7]; exact Below.setCell ((HB6.out.grown HG6.out HB6.out.size (fun k hk => (HOA6.out.lt k hk).1))) (HR6.out.bx) _)
                      have HD7 := Lib.hid (show x7.heap[wr.heap.size]? = some (.cells #[.int .i64 (ja : Int), .int .i64 (jb : Int)] 39 (0, 0)) by rw [hx7]; exact (Go.Deep.blk_setCell_other _ ⟨gx, ja, none⟩ _ _ hgxd').trans HDp6.out)
                      have hln7 : ∀ j, (Z7 j).length ≤ 2 * m + 1 := fun j => by rw [HZ7.out]; exact upd_len Y ja _ (2 * m) HLN6.out j
                      have HLN7 := Lib.hid hln7
                      have hlq7 := hln7 ja
                      have hlr7 := hln7 jb
                      clear hln7 d0 d1 c6 r0 s7 f7 k7 hlg hlx hlD hH4
                      go_upto_region 26 with fail
                      rw [← hx7]
                      clear hx7
                      have d0 := blk_cell HD7.out 0 (.int .i64 (ja : Int)) rfl
                      have d1 := blk_cell HD7.out 1 (.int .i64 (jb : Int)) rfl
                      have hlD := blk_lt HD7.out
                      have c6 := blk_cell HW7.out.blk 6 (.slice (some ⟨gx, 0, none⟩) l.length l.length) rfl
                      have hlg := blk_lt HW7.out.blk
                      obtain ⟨Aa7, ca7, hVa⟩ := own_slice (HR7.out.own jb hjb)
                      have r0 := HR7.out.row.cell hjb
                      rw [hVa] at r0
                      have hlx := HR7.out.row.lt
                      have HVA7 := Lib.hid hVa
                      have HOA7 := Lib.hid (show x7.ownsRow w.heap.size 3 1 (.slice Aa7 (Z7 jb).length ca7) (Z7 jb).length (cellsI (Z7 jb)) by rw [← HVA7.out]; exact HR7.out.own jb hjb)
                      clear hVa
                      obtain ⟨i7, hi1, hz3, hz4, hz5⟩ := info_parts infoI
                      have HIa7 := Lib.hid hi1
                      have HZa7 := Lib.hid hz3
                      have HZb7 := Lib.hid hz4
                      have HZc7 := Lib.hid hz5
                      clear hi1 hz3 hz4 hz5
                      refine wp_region_noPanic ?_
                      refine wp_region_held_drew (S := fun w' => w'.cell? ⟨wr.heap.size, 0, none⟩ = some (.int .i64 (ja : Int)) ∧ w'.cell? ⟨wr.heap.size, 1, none⟩ = some (.int .i64 (jb : Int)) ∧ w'.cell? ⟨w.heap.size + 1, 6, none⟩ = some (.slice (some ⟨gx, 0, none⟩) l.length l.length)) (by kernel_rfl) (by refine ⟨?_, ?_, ?_⟩ <;> go_simp) (fun hHeld => ?_)
                      refine wpAnyH_take (i := 0) (v := ?_) (by simp only [List.getElem?_toArray, List.getElem?_cons_zero, List.getElem?_cons_succ]; rfl) (by kernel_rfl) (by kernel_rfl) (by kernel_rfl) (fun _ _ _ h => h) (Or.inl ⟨by rfl, ?_⟩) (by assumption) ?_
                      rotate_left
                      · (intro w' hSw; (try dsimp only at hSw); go_simp; try with_reducible rfl)
                      try simp only [Act.put, List.setIfInBounds_toArray, List.set_cons_zero, List.set_cons_succ]
                      refine wpAnyH_take (i := 1) (v := ?_) (by simp only [List.getElem?_toArray, List.getElem?_cons_zero, List.getElem?_cons_succ]; rfl) (by kernel_rfl) (by kernel_rfl) (by kernel_rfl) (fun _ _ _ h => h) (Or.inl ⟨by rfl, ?_⟩) (by assumption) ?_
                      rotate_left
                      · (intro w' hSw; (try dsimp only at hSw); go_simp; try with_reducible rfl)
                      try simp only [Act.put, List.setIfInBounds_toArray, List.set_cons_zero, List.set_cons_succ]
                      refine wpAnyH_take (i := 2) (v := ?_) (by simp only [List.getElem?_toArray, List.getElem?_cons_zero, List.getElem?_cons_succ]; rfl) (by kernel_rfl) (by kernel_rfl) (by kernel_rfl) (fun _ _ _ h => h) (Or.inl ⟨by rfl, ?_⟩) (by assumption) ?_
                      rotate_left
                      · (intro w' hSw; (try dsimp only at hSw); go_simp; try with_reducible rfl)
                      try simp only [Act.put, List.setIfInBounds_toArray, List.set_cons_zero, List.set_cons_succ]
                      refine wpAnyH_take (i := 3) (v := ?_) (by simp only [List.getElem?_toArray, List.getElem?_cons_zero, List.getElem?_cons_succ]; rfl) (by kernel_rfl) (by kernel_rfl) (by kernel_rfl) (fun _ _ _ h => h) (Or.inl ⟨by rfl, ?_⟩) (by assumption) ?_
                      rotate_left
                      · (intro w' hSw; (try dsimp only at hSw); go_simp; try with_reducible rfl)
                      try simp only [Act.put, List.setIfInBounds_toArray, List.set_cons_zero, List.set_cons_succ]
                      refine wpAnyH_take (i := 4) (v := ?_) (by simp only [List.getElem?_toArray, List.getElem?_cons_zero, List.getElem?_cons_succ]; rfl) (by kernel_rfl) (by kernel_rfl) (by kernel_rfl) (fun _ _ _ h => h) (Or.inl ⟨by rfl, ?_⟩) (by assumption) ?_
                      rotate_left
                      · (intro w' hSw; (try dsimp only at hSw); go_simp; try with_reducible rfl)
                      try simp only [Act.put, List.setIfInBounds_toArray, List.set_cons_zero, List.set_cons_succ]
                      refine wpAnyH_take (i := 5) (v := ?_) (by simp only [List.getElem?_toArray, List.getElem?_cons_zero, List.getElem?_cons_succ]; rfl) (by kernel_rfl) (by kernel_rfl) (by kernel_rfl) (fun _ _ _ h => h) (Or.inl ⟨by rfl, ?_⟩) (by assumption) ?_
                      rotate_left
                      · (intro w' hSw; (try dsimp only at hSw); go_simp; try with_reducible rfl)
                      try simp only [Act.put, List.setIfInBounds_toArray, List.set_cons_zero, List.set_cons_succ]
                      refine wpAnyH_take (i := 6) (v := ?_) (by simp only [List.getElem?_toArray, List.getElem?_cons_zero, List.getElem?_cons_succ]; rfl) (by kernel_rfl) (by kernel_rfl) (by kernel_rfl) (fun _ _ _ h => h) (Or.inl ⟨by rfl, ?_⟩) (by assumption) ?_
                      rotate_left
                      · (intro w' hSw; (try dsimp only at hSw); go_simp; try with_reducible rfl)
                      try simp only [Act.put, List.setIfInBounds_toArray, List.set_cons_zero, List.set_cons_succ]
                      refine wpAnyH_take (i := 7) (v := ?_) (by simp only [List.getElem?_toArray, List.getElem?_cons_zero, List.getElem?_cons_succ]; rfl) (by kernel_rfl) (by kernel_rfl) (by kernel_rfl) (fun _ _ _ h => h) (Or.inl ⟨by rfl, ?_⟩) (by assumption) ?_
                      rotate_left
                      · (intro w' hSw; (try dsimp only at hSw); go_simp; try with_reducible rfl)
                      try simp only [Act.put, List.setIfInBounds_toArray, List.set_cons_zero, List.set_cons_succ]
                      refine wpAnyH_take (i := 8) (v := ?_) (by simp only [List.getElem?_toArray, List.getElem?_cons_zero, List.getElem?_cons_succ]; rfl) (by kernel_rfl) (by kernel_rfl) (by kernel_rfl) (fun _ _ _ h => h) (Or.inl ⟨by rfl, ?_⟩) (by assumption) ?_
                      rotate_left
                      · (intro w' hSw; (try dsimp only at hSw); go_simp; try with_reducible rfl)
                      try simp only [Act.put, List.setIfInBounds_toArray, List.set_cons_zero, List.set_cons_succ]
                      refine wpAnyH_take (i := 9) (v := ?_) (by simp only [List.getElem?_toArray, List.getElem?_cons_zero, List.getElem?_cons_succ]; rfl) (by kernel_rfl) (by kernel_rfl) (by kernel_rfl) (fun _ _ _ h => h) (Or.inl ⟨by rfl, ?_⟩) (by assumption) ?_
                      rotate_left
                      · (intro w' hSw; (try dsimp only at hSw); go_simp; try with_reducible rfl)
                      try simp only [Act.put, List.setIfInBounds_toArray, List.set_cons_zero, List.set_cons_succ]
                      refine wpAnyH_take (i := 10) (v := ?_) (by simp only [List.getElem?_toArray, List.getElem?_cons_zero, List.getElem?_cons_succ]; rfl) (by kernel_rfl) (by kernel_rfl) (by kernel_rfl) (fun _ _ _ h => h) (Or.inl ⟨by rfl, ?_⟩) (by assumption) ?_
                      rotate_left
                      · (intro w' hSw; (try dsimp only at hSw); go_simp; try with_reducible rfl)
                      try simp only [Act.put, List.setIfInBounds_toArray, List.set_cons_zero, List.set_cons_succ]
                      refine wpAnyH_take (i := 11) (v := ?_) (by simp only [List.getElem?_toArray, List.getElem?_cons_zero, List.getElem?_cons_succ]; rfl) (by kernel_rfl) (by kernel_rfl) (by kernel_rfl) (fun _ _ _ h => h) (Or.inl ⟨by rfl, ?_⟩) (by assumption) ?_
                      rotate_left
                      · (intro w' hSw; (try dsimp only at hSw); go_simp; try with_reducible rfl)
                      try simp only [Act.put, List.setIfInBounds_toArray, List.set_cons_zero, List.set_cons_succ]
                      refine wpAnyH_take (i := 12) (v := ?_) (by simp only [List.getElem?_toArray, List.getElem?_cons_zero, List.getElem?_cons_succ]; rfl) (by kernel_rfl) (by kernel_rfl) (by kernel_rfl) (fun _ _ _ h => h) (Or.inl ⟨by rfl, ?_⟩) (by assumption) ?_
                      rotate_left
                      · (intro w' hSw; (try dsimp only at hSw); go_simp; try with_reducible rfl)
                      try simp only [Act.put, List.setIfInBounds_toArray, List.set_cons_zero, List.set_cons_succ]
                      refine wpAnyH_take (i := 14) (v := ?_) (by simp only [List.getElem?_toArray, List.getElem?_cons_zero, List.getElem?_cons_succ]; rfl) (by kernel_rfl) (by kernel_rfl) (by kernel_rfl) (fun _ _ _ h => h) (Or.inl ⟨by rfl, ?_⟩) (by assumption) ?_
                      rotate_left
                      · (intro w' hSw; (try dsimp only at hSw); go_simp; try with_reducible rfl)
                      try simp only [Act.put, List.setIfInBounds_toArray, List.set_cons_zero, List.set_cons_succ]
                      refine wpAnyH_take (i := 15) (v := ?_) (by simp only [List.getElem?_toArray, List.getElem?_cons_zero, List.getElem?_cons_succ]; rfl) (by kernel_rfl) (by kernel_rfl) (by kernel_rfl) (fun _ _ _ h => h) (Or.inl ⟨by rfl, ?_⟩) (by assumption) ?_
                      rotate_left
                      · (intro w' hSw; (try dsimp only at hSw); go_simp; try with_reducible rfl)
                      try simp only [Act.put, List.setIfInBounds_toArray, List.set_cons_zero, List.set_cons_succ]
                      refine wpAnyH_ready (rs := [13, 16]) (by kernel_rfl) (by simp) ?_
                      refine AllReadyH.cons (by simp only [List.getElem?_toArray, List.getElem?_cons_zero, List.getElem?_cons_succ]; rfl) (fun K hK => ?_) ?_
                      · go_simp
                        refine hK.out _ _ (by refine ⟨?_, ?_, ?_⟩ <;> go_simp) (fun hH1 => ?_)
                        clear hK K hHeld
                        refine wpAnyH_ready (rs := [16]) (by kernel_rfl) (by simp) ?_
                        refine AllReadyH.cons (by simp only [List.getElem?_toArray, List.getElem?_cons_zero, List.getElem?_cons_succ]; rfl) (fun K hK => ?_) ?_
                        · go_simp
                          refine hK.out _ _ (by refine ⟨?_, ?_, ?_⟩ <;> go_simp) (fun hH2 => ?_)
                          clear hK K hH1
                          refine wpAnyH_ready (rs := [17]) (by kernel_rfl) (by simp) ?_
                          refine AllReadyH.cons (by simp only [List.getElem?_toArray, List.getElem?_cons_zero, List.getElem?_cons_succ]; rfl) (fun K hK => ?_) ?_
                          · refine step_append_lies _ (by rfl) _ _ 23 (by rfl) w.heap.size 3 i7 _ 1 8 Tryz.underlying23 HIa7.out HZa7.out HZb7.out HZc7.out rfl (by decide) _ (Z7 jb).length (cellsI (Z7 jb)) (by rfl) (by exact HOA7.out.alloc _) ⟨x7.heap.size, 0, none⟩ 1 1 [.int .i64 (ja : Int)] (by rfl) rfl (by exact World.news_of_block (heap_alloc_new x7 (.cells #[.int .i64 (ja : Int)] 3))) (by simp [Value.oneCell']) (by omega) (by simp only [maxLen]; omega) (by omega) (by have := HW7.out.bg; simp; omega) _ rfl ?_
                            intro g7 cap7 v7 hown7 hgrow7 hat7 hlt7
                            have HG7 := Lib.hid (show x7.grownBy v7 (.slice Aa7 (Z7 jb).length ca7 : Value).ownBlock from grown_via hgrow7)
                            have HWp7 := Lib.hid (HW7.out.keepT HOA7.out HG7.out (by decide) (by decide) (by decide) (by decide))
                            have hd7 := (HG7.out.block wr.heap.size hlD (own_ne HOA7.out HD7.out (fun cur h => by injection h with _ h2; exact absurd h2 (by decide)))).trans HD7.out
                            have hrow7 := HR7.out.row.of_block (HG7.out.block gx hlx (HR7.out.ne HOA7.out HR7.out.row))
                            have k7 : v7.cell? ⟨wr.heap.size, 0, none⟩ = some (.int .i64 (ja : Int)) ∧ v7.cell? ⟨wr.heap.size, 1, none⟩ = some (.int .i64 (jb : Int)) ∧ v7.cell? ⟨w.heap.size + 1, 6, none⟩ = some (.slice (some ⟨gx, 0, none⟩) l.length l.length) := ⟨blk_cell hd7 0 _ rfl, blk_cell hd7 1 _ rfl, blk_cell HWp7.out.blk 6 (.slice (some ⟨gx, 0, none⟩) l.length l.length) rfl⟩
                            have s7 : v7.cell? ⟨gx, jb, none⟩ = some (.slice Aa7 (Z7 jb).length ca7) := by rw [hrow7.cell hjb, HVA7.out]
                            have f7 : v7.frozen? ⟨gx, jb, none⟩ = false := hrow7.frozen jb
                            have HO7 := Lib.hid hown7
                            have HA7 := Lib.hid hat7
                            have HRW7 := Lib.hid hrow7
                            have HDp7 := Lib.hid hd7
                            clear hrow7 hd7 hgrow7 hown7 hat7
                            refine hK.out _ _ (by assumption) (fun hH3 => ?_)
                            clear hK K hH2
                            refine wpAnyH_take (i := 18) (v := ?_) (by simp only [List.getElem?_toArray, List.getElem?_cons_zero, List.getElem?_cons_succ]; rfl) (by kernel_rfl) (by kernel_rfl) (by kernel_rfl) (fun _ _ _ h => h) (Or.inl ⟨by rfl, ?_⟩) (by assumption) ?_
                            rotate_left
                            · (intro w' hSw; (try dsimp only at hSw); go_simp; try with_reducible rfl)
                            try simp only [Act.put, List.setIfInBounds_toArray, List.set_cons_zero, List.set_cons_succ]
                            refine wpAnyH_ready (rs := [19]) (by kernel_rfl) (by simp) ?_
                            refine AllReadyH.cons (by simp only [List.getElem?_toArray, List.getElem?_cons_zero, List.getElem?_cons_succ]; rfl) (fun K hK => ?_) ?_
                            · go_simp
                              refine hK.out _ _ (by refine ⟨?_, ?_, ?_⟩ <;> go_simp) (fun hH4 => ?_)
                              clear hK K hH3
                              refine wpAnyH_done (by kernel_rfl) ?_ _
                              refine NoPanic.normal ?_
                              obtain ⟨x8, hx8⟩ : ∃ x8, x8 = v7.setCell ⟨gx, jb, none⟩ (.slice (some ⟨g7, 0, none⟩) ((Z7 jb).length + 1) cap7) := ⟨_, rfl⟩
                              obtain ⟨Vz8, Z8, HR8, HZ8⟩ : ∃ Vz Z, Hid (Rows2 w.heap.size x8 gx l.length Vz Z) ∧ Hid (Z = upd Z7 jb (ja : Int)) := ⟨_, _, Lib.hid (by rw [hx8]; exact HR7.out.step jb hjb (Z7 jb ++ [(ja : Int)]) g7 ((Z7 jb).length + 1) cap7 (by rw [HVA7.out]; exact HG7.out) (by rw [← cellsI_snoc, List.length_append]; exact HO7.out) (by rw [HVA7.out]; exact HA7.out.elim (fun hq => .inl hq) (fun hq => .inr (by rw [hq]; simp)))), Lib.hid (funext fun j => by by_cases e : j = jb <;> simp [upd, e])⟩
                              have HW8 := Lib.hid (show NetW w.heap.size x8 h n (w.heap.size + 1) w.heap.size l (.slice AV l.length cV) (.slice (some ⟨gC, 0, none⟩) k cp) (triL l h n) (.slice (some ⟨gA, 0, none⟩) E.length cE) E (.slice (some ⟨gx, 0, none⟩) l.length l.length) by rw [hx8]; exact HWp7.out.setRow HRW7.out jb (.slice (some ⟨g7, 0, none⟩) ((Z7 jb).length + 1) cap7))
                              have HB8 := Lib.hid (show Below w.heap.size w x8 by rw [hx8]; exact Below.setCell ((HB7.out.grown HG7.out HB7.out.size (fun k hk => (HOA7.out.lt k hk).1))) (HR7.out.bx) _)
                              have HD8 := Lib.hid (show x8.heap[wr.heap.size]? = some (.cells #[.int .i64 (ja : Int), .int .i64 (jb : Int)] 39 (0, 0)) by rw [hx8]; exact (Go.Deep.blk_setCell_other _ ⟨gx, jb, none⟩ _ _ hgxd').trans HDp7.out)
                              have hln8 : ∀ j, (Z8 j).length ≤ 2 * m + 1 + 1 := fun j => by rw [HZ8.out]; exact upd_len Z7 jb _ (2 * m + 1) HLN7.out j
                              have HLN8 := Lib.hid hln8
                              have hlq8 := hln8 ja
                              have hlr8 := hln8 jb
                              clear hln8 d0 d1 c6 r0 s7 f7 k7 hlg hlx hlD hH4
                              rw [← hx8]
                              clear hx8
                              go_wp2_with fail
                              go_roundw
                              case rel => exact ⟨m + 1, by omega, by go_num, HB8.out, HW8.out, Vz8, by rw [HSN.out, ← HY.out]; have := HR8.out; rw [HZ8.out, HZ7.out] at this; exact this⟩
                              case measure => simp [intOf]; omega
                            · exact AllReadyH.nil
                          · exact AllReadyH.nil
                        · exact AllReadyH.nil
                      · refine AllReadyH.cons (by simp only [List.getElem?_toArray, List.getElem?_cons_zero, List.getElem?_cons_succ]; rfl) (fun K hK => ?_) ?_
                        · go_simp
                          refine hK.out _ _ (by refine ⟨?_, ?_, ?_⟩ <;> go_simp) (fun hH1 => ?_)
                          clear hK K hHeld
                          refine wpAnyH_ready (rs := [13]) (by kernel_rfl) (by simp) ?_
                          refine AllReadyH.cons (by simp only [List.getElem?_toArray, List.getElem?_cons_zero, List.getElem?_cons_succ]; rfl) (fun K hK => ?_) ?_
                          · go_simp
                            refine hK.out _ _ (by refine ⟨?_, ?_, ?_⟩ <;> go_simp) (fun hH2 => ?_)
                            clear hK K hH1
                            refine wpAnyH_ready (rs := [17]) (by kernel_rfl) (by simp) ?_
                            refine AllReadyH.cons (by simp only [List.getElem?_toArray, List.getElem?_cons_zero, List.getElem?_cons_succ]; rfl) (fun K hK => ?_) ?_
                            · refine step_append_lies _ (by rfl) _ _ 23 (by rfl) w.heap.size 3 i7 _ 1 8 Tryz.underlying23 HIa7.out HZa7.out HZb7.out HZc7.out rfl (by decide) _ (Z7 jb).length (cellsI (Z7 jb)) (by rfl) (by exact HOA7.out.alloc _) ⟨x7.heap.size, 0, none⟩ 1 1 [.int .i64 (ja : Int)] (by rfl) rfl (by exact World.news_of_block (heap_alloc_new x7 (.cells #[.int .i64 (ja : Int)] 3))) (by simp [Value.oneCell']) (by omega) (by simp only [maxLen]; omega) (by omega) (by have := HW7.out.bg; simp; omega) _ rfl ?_
                              intro g7 cap7 v7 hown7 hgrow7 hat7 hlt7
                              have HG7 := Lib.hid (show x7.grownBy v7 (.slice Aa7 (Z7 jb).length ca7 : Value).ownBlock from grown_via hgrow7)
                              have HWp7 := Lib.hid (HW7.out.keepT HOA7.out HG7.out (by decide) (by decide) (by decide) (by decide))
                              have hd7 := (HG7.out.block wr.heap.size hlD (own_ne HOA7.out HD7.out (fun cur h => by injection h with _ h2; exact absurd h2 (by decide)))).trans HD7.out
                              have hrow7 := HR7.out.row.of_block (HG7.out.block gx hlx (HR7.out.ne HOA7.out HR7.out.row))
                              have k7 : v7.cell? ⟨wr.heap.size, 0, none⟩ = some (.int .i64 (ja : Int)) ∧ v7.cell? ⟨wr.heap.size, 1, none⟩ = some (.int .i64 (jb : Int)) ∧ v7.cell? ⟨w.heap.size + 1, 6, none⟩ = some (.slice (some ⟨gx, 0, none⟩) l.length l.length) := ⟨blk_cell hd7 0 _ rfl, blk_cell hd7 1 _ rfl, blk_cell HWp7.out.blk 6 (.slice (some ⟨gx, 0, none⟩) l.length l.length) rfl⟩
                              have s7 : v7.cell? ⟨gx, jb, none⟩ = some (.slice Aa7 (Z7 jb).length ca7) := by rw [hrow7.cell hjb, HVA7.out]
                              have f7 : v7.frozen? ⟨gx, jb, none⟩ = false := hrow7.frozen jb
                              have HO7 := Lib.hid hown7
                              have HA7 := Lib.hid hat7
                              have HRW7 := Lib.hid hrow7
                              have HDp7 := Lib.hid hd7
                              clear hrow7 hd7 hgrow7 hown7 hat7
                              refine hK.out _ _ (by assumption) (fun hH3 => ?_)
                              clear hK K hH2
                              refine wpAnyH_take (i := 18) (v := ?_) (by simp only [List.getElem?_toArray, List.getElem?_cons_zero, List.getElem?_cons_succ]; rfl) (by kernel_rfl) (by kernel_rfl) (by kernel_rfl) (fun _ _ _ h => h) (Or.inl ⟨by rfl, ?_⟩) (by assumption) ?_
                              rotate_left
                              · (intro w' hSw; (try dsimp only at hSw); go_simp; try with_reducible rfl)
                              try simp only [Act.put, List.setIfInBounds_toArray, List.set_cons_zero, List.set_cons_succ]
                              refine wpAnyH_ready (rs := [19]) (by kernel_rfl) (by simp) ?_
                              refine AllReadyH.cons (by simp only [List.getElem?_toArray, List.getElem?_cons_zero, List.getElem?_cons_succ]; rfl) (fun K hK => ?_) ?_
                              · go_simp
                                refine hK.out _ _ (by refine ⟨?_, ?_, ?_⟩ <;> go_simp) (fun hH4 => ?_)
                                clear hK K hH3
                                refine wpAnyH_done (by kernel_rfl) ?_ _
                                refine NoPanic.normal ?_
                                obtain ⟨x8, hx8⟩ : ∃ x8, x8 = v7.setCell ⟨gx, jb, none⟩ (.slice (some ⟨g7, 0, none⟩) ((Z7 jb).length + 1) cap7) := ⟨_, rfl⟩
                                obtain ⟨Vz8, Z8, HR8, HZ8⟩ : ∃ Vz Z, Hid (Rows2 w.heap.size x8 gx l.length Vz Z) ∧ Hid (Z = upd Z7 jb (ja : Int)) := ⟨_, _, Lib.hid (by rw [hx8]; exact HR7.out.step jb hjb (Z7 jb ++ [(ja : Int)]) g7 ((Z7 jb).length + 1) cap7 (by rw [HVA7.out]; exact HG7.out) (by rw [← cellsI_snoc, List.length_append]; exact HO7.out) (by rw [HVA7.out]; exact HA7.out.elim (fun hq => .inl hq) (fun hq => .inr (by rw [hq]; simp)))), Lib.hid (funext fun j => by by_cases e : j = jb <;> simp [upd, e])⟩
                                have HW8 := Lib.hid (show NetW w.heap.size x8 h n (w.heap.size + 1) w.heap.size l (.slice AV l.length cV) (.slice (some ⟨gC, 0, none⟩) k cp) (triL l h n) (.slice (some ⟨gA, 0, none⟩) E.length cE) E (.slice (some ⟨gx, 0, none⟩) l.length l.length) by rw [hx8]; exact HWp7.out.setRow HRW7.out jb (.slice (some ⟨g7, 0, none⟩) ((Z7 jb).length + 1) cap7))
                                have HB8 := Lib.hid (show Below w.heap.size w x8 by rw [hx8]; exact Below.setCell ((HB7.out.grown HG7.out HB7.out.size (fun k hk => (HOA7.out.lt k hk).1))) (HR7.out.bx) _)
                                have HD8 := Lib.hid (show x8.heap[wr.heap.size]? = some (.cells #[.int .i64 (ja : Int), .int .i64 (jb : Int)] 39 (0, 0)) by rw [hx8]; exact (Go.Deep.blk_setCell_other _ ⟨gx, jb, none⟩ _ _ hgxd').trans HDp7.out)
                                have hln8 : ∀ j, (Z8 j).length ≤ 2 * m + 1 + 1 := fun j => by rw [HZ8.out]; exact upd_len Z7 jb _ (2 * m + 1) HLN7.out j
                                have HLN8 := Lib.hid hln8
                                have hlq8 := hln8 ja
                                have hlr8 := hln8 jb
                                clear hln8 d0 d1 c6 r0 s7 f7 k7 hlg hlx hlD hH4
                                rw [← hx8]
                                clear hx8
                                go_wp2_with fail
                                go_roundw
                                case rel => exact ⟨m + 1, by omega, by go_num, HB8.out, HW8.out, Vz8, by rw [HSN.out, ← HY.out]; have := HR8.out; rw [HZ8.out, HZ7.out] at this; exact this⟩
                                case measure => simp [intOf]; omega
                              · exact AllReadyH.nil
                            · exact AllReadyH.nil
                          · exact AllReadyH.nil
                        · exact AllReadyH.nil
                    · exact AllReadyH.nil
                  · exact AllReadyH.nil
                · exact AllReadyH.nil
              · refine AllReadyH.cons (by simp only [List.getElem?_toArray, List.getElem?_cons_zero, List.getElem?_cons_succ]; rfl) (fun K hK => ?_) ?_
                · go_simp
                  refine hK.out _ _ (by refine ⟨?_, ?_, ?_⟩ <;> go_simp) (fun hH1 => ?_)
                  clear hK K hHeld
                  refine wpAnyH_ready (rs := [13]) (by kernel_rfl) (by simp) ?_
                  refine AllReadyH.cons (by simp only [List.getElem?_toArray, List.getElem?_cons_zero, List.getElem?_cons_succ]; rfl) (fun K hK => ?_) ?_
                  · go_simp
                    refine hK.out _ _ (by refine ⟨?_, ?_, ?_⟩ <;> go_simp) (fun hH2 => ?_)
                    clear hK K hH1
                    refine wpAnyH_ready (rs := [17]) (by kernel_rfl) (by simp) ?_
                    refine AllReadyH.cons (by simp only [List.getElem?_toArray, List.getElem?_cons_zero, List.getElem?_cons_succ]; rfl) (fun K hK => ?_) ?_
                    · refine step_append_lies _ (by rfl) _ _ 23 (by rfl) w.heap.size 3 i6 _ 1 8 Tryz.underlying23 HIa6.out HZa6.out HZb6.out HZc6.out rfl (by decide) _ (Y ja).length (cellsI (Y ja)) (by rfl) (by exact HOA6.out.alloc _) ⟨w6.heap.size, 0, none⟩ 1 1 [.int .i64 (jb : Int)] (by rfl) rfl (by exact World.news_of_block (heap_alloc_new w6 (.cells #[.int .i64 (jb : Int)] 3))) (by simp [Value.oneCell']) (by omega) (by simp only [maxLen]; omega) (by omega) (by have := HW6.out.bg; simp; omega) _ rfl ?_
                      intro g6 cap6 v6 hown7 hgrow7 hat7 hlt7
                      have HG6 := Lib.hid (show w6.grownBy v6 (.slice Aa6 (Y ja).length ca6 : Value).ownBlock from grown_via hgrow7)
                      have HWp6 := Lib.hid (HW6.out.keepT HOA6.out HG6.out (by decide) (by decide) (by decide) (by decide))
                      have hd7 := (HG6.out.block wr.heap.size hlD (own_ne HOA6.out HD6.out (fun cur h => by injection h with _ h2; exact absurd h2 (by decide)))).trans HD6.out
                      have hrow7 := HR6.out.row.of_block (HG6.out.block gx hlx (HR6.out.ne HOA6.out HR6.out.row))
                      have k7 : v6.cell? ⟨wr.heap.size, 0, none⟩ = some (.int .i64 (ja : Int)) ∧ v6.cell? ⟨wr.heap.size, 1, none⟩ = some (.int .i64 (jb : Int)) ∧ v6.cell? ⟨w.heap.size + 1, 6, none⟩ = some (.slice (some ⟨gx, 0, none⟩) l.length l.length) := ⟨blk_cell hd7 0 _ rfl, blk_cell hd7 1 _ rfl, blk_cell HWp6.out.blk 6 (.slice (some ⟨gx, 0, none⟩) l.length l.length) rfl⟩
                      have s7 : v6.cell? ⟨gx, ja, none⟩ = some (.slice Aa6 (Y ja).length ca6) := by rw [hrow7.cell hja, HVA6.out]
                      have f7 : v6.frozen? ⟨gx, ja, none⟩ = false := hrow7.frozen ja
                      have HO6 := Lib.hid hown7
                      have HA6 := Lib.hid hat7
                      have HRW6 := Lib.hid hrow7
                      have HDp6 := Lib.hid hd7
                      clear hrow7 hd7 hgrow7 hown7 hat7
                      refine hK.out _ _ (by assumption) (fun hH3 => ?_)
                      clear hK K hH2
                      refine wpAnyH_take (i := 18) (v := ?_) (by simp only [List.getElem?_toArray, List.getElem?_cons_zero, List.getElem?_cons_succ]; rfl) (by kernel_rfl) (by kernel_rfl) (by kernel_rfl) (fun _ _ _ h => h) (Or.inl ⟨by rfl, ?_⟩) (by assumption) ?_
                      rotate_left
                      · (intro w' hSw; (try dsimp only at hSw); go_simp; try with_reducible rfl)
                      try simp only [Act.put, List.setIfInBounds_toArray, List.set_cons_zero, List.set_cons_succ]
                      refine wpAnyH_ready (rs := [19]) (by kernel_rfl) (by simp) ?_
                      refine AllReadyH.cons (by simp only [List.getElem?_toArray, List.getElem?_cons_zero, List.getElem?_cons_succ]; rfl) (fun K hK => ?_) ?_
                      · go_simp
                        refine hK.out _ _ (by refine ⟨?_, ?_, ?_⟩ <;> go_simp) (fun hH4 => ?_)
                        clear hK K hH3
                        refine wpAnyH_done (by kernel_rfl) ?_ _
                        refine NoPanic.normal ?_
                        obtain ⟨x7, hx7⟩ : ∃ x7, x7 = v6.setCell ⟨gx, ja, none⟩ (.slice (some ⟨g6, 0, none⟩) ((Y ja).length + 1) cap6) := ⟨_, rfl⟩
                        obtain ⟨Vz7, Z7, HR7, HZ7⟩ : ∃ Vz Z, Hid (Rows2 w.heap.size x7 gx l.length Vz Z) ∧ Hid (Z = upd Y ja (jb : Int)) := ⟨_, _, Lib.hid (by rw [hx7]; exact HR6.out.step ja hja (Y ja ++ [(jb : Int)]) g6 ((Y ja).length + 1) cap6 (by rw [HVA6.out]; exact HG6.out) (by rw [← cellsI_snoc, List.length_append]; exact HO6.out) (by rw [HVA6.out]; exact HA6.out.elim (fun hq => .inl hq) (fun hq => .inr (by rw [hq]; simp)))), Lib.hid (funext fun j => by by_cases e : j = ja <;> simp [upd, e])⟩
                        have HW7 := Lib.hid (show NetW w.heap.size x7 h n (w.heap.size + 1) w.heap.size l (.slice AV l.length cV) (.slice (some ⟨gC, 0, none⟩) k cp) (triL l h n) (.slice (some ⟨gA, 0, none⟩) E.length cE) E (.slice (some ⟨gx, 0, none⟩) l.length l.length) by rw [hx7]; exact HWp6.out.setRow HRW6.out ja (.slice (some ⟨g6, 0, none⟩) ((Y ja).length + 1) cap6))
                        have HB7 := Lib.hid (show Below w.heap.size w x7 by rw [hx7]; exact Below.setCell ((HB6.out.grown HG6.out HB6.out.size (fun k hk => (HOA6.out.lt k hk).1))) (HR6.out.bx) _)
                        have HD7 := Lib.hid (show x7.heap[wr.heap.size]? = some (.cells #[.int .i64 (ja : Int), .int .i64 (jb : Int)] 39 (0, 0)) by rw [hx7]; exact (Go.Deep.blk_setCell_other _ ⟨gx, ja, none⟩ _ _ hgxd').trans HDp6.out)
                        have hln7 : ∀ j, (Z7 j).length ≤ 2 * m + 1 := fun j => by rw [HZ7.out]; exact upd_len Y ja _ (2 * m) HLN6.out j
                        have HLN7 := Lib.hid hln7
                        have hlq7 := hln7 ja
                        have hlr7 := hln7 jb
                        clear hln7 d0 d1 c6 r0 s7 f7 k7 hlg hlx hlD hH4
                        go_upto_region 26 with fail
                        rw [← hx7]
                        clear hx7
                        have d0 := blk_cell HD7.out 0 (.int .i64 (ja : Int)) rfl
                        have d1 := blk_cell HD7.out 1 (.int .i64 (jb : Int)) rfl
                        have hlD := blk_lt HD7.out
                        have c6 := blk_cell HW7.out.blk 6 (.slice (some ⟨gx, 0, none⟩) l.length l.length) rfl
                        have hlg := blk_lt HW7.out.blk
                        obtain ⟨Aa7, ca7, hVa⟩ := own_slice (HR7.out.own jb hjb)
                        have r0 := HR7.out.row.cell hjb
                        rw [hVa] at r0
                        have hlx := HR7.out.row.lt
                        have HVA7 := Lib.hid hVa
                        have HOA7 := Lib.hid (show x7.ownsRow w.heap.size 3 1 (.slice Aa7 (Z7 jb).length ca7) (Z7 jb).length (cellsI (Z7 jb)) by rw [← HVA7.out]; exact HR7.out.own jb hjb)
                        clear hVa
                        obtain ⟨i7, hi1, hz3, hz4, hz5⟩ := info_parts infoI
                        have HIa7 := Lib.hid hi1
                        have HZa7 := Lib.hid hz3
                        have HZb7 := Lib.hid hz4
                        have HZc7 := Lib.hid hz5
                        clear hi1 hz3 hz4 hz5
                        refine wp_region_noPanic ?_
                        refine wp_region_held_drew (S := fun w' => w'.cell? ⟨wr.heap.size, 0, none⟩ = some (.int .i64 (ja : Int)) ∧ w'.cell? ⟨wr.heap.size, 1, none⟩ = some (.int .i64 (jb : Int)) ∧ w'.cell? ⟨w.heap.size + 1, 6, none⟩ = some (.slice (some ⟨gx, 0, none⟩) l.length l.length)) (by kernel_rfl) (by refine ⟨?_, ?_, ?_⟩ <;> go_simp) (fun hHeld => ?_)
                        refine wpAnyH_take (i := 0) (v := ?_) (by simp only [List.getElem?_toArray, List.getElem?_cons_zero, List.getElem?_cons_succ]; rfl) (by kernel_rfl) (by kernel_rfl) (by kernel_rfl) (fun _ _ _ h => h) (Or.inl ⟨by rfl, ?_⟩) (by assumption) ?_
                        rotate_left
                        · (intro w' hSw; (try dsimp only at hSw); go_simp; try with_reducible rfl)
                        try simp only [Act.put, List.setIfInBounds_toArray, List.set_cons_zero, List.set_cons_succ]
                        refine wpAnyH_take (i := 1) (v := ?_) (by simp only [List.getElem?_toArray, List.getElem?_cons_zero, List.getElem?_cons_succ]; rfl) (by kernel_rfl) (by kernel_rfl) (by kernel_rfl) (fun _ _ _ h => h) (Or.inl ⟨by rfl, ?_⟩) (by assumption) ?_
                        rotate_left
                        · (intro w' hSw; (try dsimp only at hSw); go_simp; try with_reducible rfl)
                        try simp only [Act.put, List.setIfInBounds_toArray, List.set_cons_zero, List.set_cons_succ]
                        refine wpAnyH_take (i := 2) (v := ?_) (by simp only [List.getElem?_toArray, List.getElem?_cons_zero, List.getElem?_cons_succ]; rfl) (by kernel_rfl) (by kernel_rfl) (by kernel_rfl) (fun _ _ _ h => h) (Or.inl ⟨by rfl, ?_⟩) (by assumption) ?_
                        rotate_left
                        · (intro w' hSw; (try dsimp only at hSw); go_simp; try with_reducible rfl)
                        try simp only [Act.put, List.setIfInBounds_toArray, List.set_cons_zero, List.set_cons_succ]
                        refine wpAnyH_take (i := 3) (v := ?_) (by simp only [List.getElem?_toArray, List.getElem?_cons_zero, List.getElem?_cons_succ]; rfl) (by kernel_rfl) (by kernel_rfl) (by kernel_rfl) (fun _ _ _ h => h) (Or.inl ⟨by rfl, ?_⟩) (by assumption) ?_
                        rotate_left
                        · (intro w' hSw; (try dsimp only at hSw); go_simp; try with_reducible rfl)
                        try simp only [Act.put, List.setIfInBounds_toArray, List.set_cons_zero, List.set_cons_succ]
                        refine wpAnyH_take (i := 4) (v := ?_) (by simp only [List.getElem?_toArray, List.getElem?_cons_zero, List.getElem?_cons_succ]; rfl) (by kernel_rfl) (by kernel_rfl) (by kernel_rfl) (fun _ _ _ h => h) (Or.inl ⟨by rfl, ?_⟩) (by assumption) ?_
                        rotate_left
                        · (intro w' hSw; (try dsimp only at hSw); go_simp; try with_reducible rfl)
                        try simp only [Act.put, List.setIfInBounds_toArray, List.set_cons_zero, List.set_cons_succ]
                        refine wpAnyH_take (i := 5) (v := ?_) (by simp only [List.getElem?_toArray, List.getElem?_cons_zero, List.getElem?_cons_succ]; rfl) (by kernel_rfl) (by kernel_rfl) (by kernel_rfl) (fun _ _ _ h => h) (Or.inl ⟨by rfl, ?_⟩) (by assumption) ?_
                        rotate_left
                        · (intro w' hSw; (try dsimp only at hSw); go_simp; try with_reducible rfl)
                        try simp only [Act.put, List.setIfInBounds_toArray, List.set_cons_zero, List.set_cons_succ]
                        refine wpAnyH_take (i := 6) (v := ?_) (by simp only [List.getElem?_toArray, List.getElem?_cons_zero, List.getElem?_cons_succ]; rfl) (by kernel_rfl) (by kernel_rfl) (by kernel_rfl) (fun _ _ _ h => h) (Or.inl ⟨by rfl, ?_⟩) (by assumption) ?_
                        rotate_left
                        · (intro w' hSw; (try dsimp only at hSw); go_simp; try with_reducible rfl)
                        try simp only [Act.put, List.setIfInBounds_toArray, List.set_cons_zero, List.set_cons_succ]
                        refine wpAnyH_take (i := 7) (v := ?_) (by simp only [List.getElem?_toArray, List.getElem?_cons_zero, List.getElem?_cons_succ]; rfl) (by kernel_rfl) (by kernel_rfl) (by kernel_rfl) (fun _ _ _ h => h) (Or.inl ⟨by rfl, ?_⟩) (by assumption) ?_
                        rotate_left
                        · (intro w' hSw; (try dsimp only at hSw); go_simp; try with_reducible rfl)
                        try simp only [Act.put, List.setIfInBounds_toArray, List.set_cons_zero, List.set_cons_succ]
                        refine wpAnyH_take (i := 8) (v := ?_) (by simp only [List.getElem?_toArray, List.getElem?_cons_zero, List.getElem?_cons_succ]; rfl) (by kernel_rfl) (by kernel_rfl) (by kernel_rfl) (fun _ _ _ h => h) (Or.inl ⟨by rfl, ?_⟩) (by assumption) ?_
                        rotate_left
                        · (intro w' hSw; (try dsimp only at hSw); go_simp; try with_reducible rfl)
                        try simp only [Act.put, List.setIfInBounds_toArray, List.set_cons_zero, List.set_cons_succ]
                        refine wpAnyH_take (i := 9) (v := ?_) (by simp only [List.getElem?_toArray, List.getElem?_cons_zero, List.getElem?_cons_succ]; rfl) (by kernel_rfl) (by kernel_rfl) (by kernel_rfl) (fun _ _ _ h => h) (Or.inl ⟨by rfl, ?_⟩) (by assumption) ?_
                        rotate_left
                        · (intro w' hSw; (try dsimp only at hSw); go_simp; try with_reducible rfl)
                        try simp only [Act.put, List.setIfInBounds_toArray, List.set_cons_zero, List.set_cons_succ]
                        refine wpAnyH_take (i := 10) (v := ?_) (by simp only [List.getElem?_toArray, List.getElem?_cons_zero, List.getElem?_cons_succ]; rfl) (by kernel_rfl) (by kernel_rfl) (by kernel_rfl) (fun _ _ _ h => h) (Or.inl ⟨by rfl, ?_⟩) (by assumption) ?_
                        rotate_left
                        · (intro w' hSw; (try dsimp only at hSw); go_simp; try with_reducible rfl)
                        try simp only [Act.put, List.setIfInBounds_toArray, List.set_cons_zero, List.set_cons_succ]
                        refine wpAnyH_take (i := 11) (v := ?_) (by simp only [List.getElem?_toArray, List.getElem?_cons_zero, List.getElem?_cons_succ]; rfl) (by kernel_rfl) (by kernel_rfl) (by kernel_rfl) (fun _ _ _ h => h) (Or.inl ⟨by rfl, ?_⟩) (by assumption) ?_
                        rotate_left
                        · (intro w' hSw; (try dsimp only at hSw); go_simp; try with_reducible rfl)
                        try simp only [Act.put, List.setIfInBounds_toArray, List.set_cons_zero, List.set_cons_succ]
                        refine wpAnyH_take (i := 12) (v := ?_) (by simp only [List.getElem?_toArray, List.getElem?_cons_zero, List.getElem?_cons_succ]; rfl) (by kernel_rfl) (by kernel_rfl) (by kernel_rfl) (fun _ _ _ h => h) (Or.inl ⟨by rfl, ?_⟩) (by assumption) ?_
                        rotate_left
                        · (intro w' hSw; (try dsimp only at hSw); go_simp; try with_reducible rfl)
                        try simp only [Act.put, List.setIfInBounds_toArray, List.set_cons_zero, List.set_cons_succ]
                        refine wpAnyH_take (i := 14) (v := ?_) (by simp only [List.getElem?_toArray, List.getElem?_cons_zero, List.getElem?_cons_succ]; rfl) (by kernel_rfl) (by kernel_rfl) (by kernel_rfl) (fun _ _ _ h => h) (Or.inl ⟨by rfl, ?_⟩) (by assumption) ?_
                        rotate_left
                        · (intro w' hSw; (try dsimp only at hSw); go_simp; try with_reducible rfl)
                        try simp only [Act.put, List.setIfInBounds_toArray, List.set_cons_zero, List.set_cons_succ]
                        refine wpAnyH_take (i := 15) (v := ?_) (by simp only [List.getElem?_toArray, List.getElem?_cons_zero, List.getElem?_cons_succ]; rfl) (by kernel_rfl) (by kernel_rfl) (by kernel_rfl) (fun _ _ _ h => h) (Or.inl ⟨by rfl, ?_⟩) (by assumption) ?_
                        rotate_left
                        · (intro w' hSw; (try dsimp only at hSw); go_simp; try with_reducible rfl)
                        try simp only [Act.put, List.setIfInBounds_toArray, List.set_cons_zero, List.set_cons_succ]
                        refine wpAnyH_ready (rs := [13, 16]) (by kernel_rfl) (by simp) ?_
                        refine AllReadyH.cons (by simp only [List.getElem?_toArray, List.getElem?_cons_zero, List.getElem?_cons_succ]; rfl) (fun K hK => ?_) ?_
                        · go_simp
                          refine hK.out _ _ (by refine ⟨?_, ?_, ?_⟩ <;> go_simp) (fun hH1 => ?_)
                          clear hK K hHeld
                          refine wpAnyH_ready (rs := [16]) (by kernel_rfl) (by simp) ?_
                          refine AllReadyH.cons (by simp only [List.getElem?_toArray, List.getElem?_cons_zero, List.getElem?_cons_succ]; rfl) (fun K hK => ?_) ?_
                          · go_simp
                            refine hK.out _ _ (by refine ⟨?_, ?_, ?_⟩ <;> go_simp) (fun hH2 => ?_)
                            clear hK K hH1
                            refine wpAnyH_ready (rs := [17]) (by kernel_rfl) (by simp) ?_
                            refine AllReadyH.cons (by simp only [List.getElem?_toArray, List.getElem?_cons_zero, List.getElem?_cons_succ]; rfl) (fun K hK => ?_) ?_
                            · refine step_append_lies _ (by rfl) _ _ 23 (by rfl) w.heap.size 3 i7 _ 1 8 Tryz.underlying23 HIa7.out HZa7.out HZb7.out HZc7.out rfl (by decide) _ (Z7 jb).length (cellsI (Z7 jb)) (by rfl) (by exact HOA7.out.alloc _) ⟨x7.heap.size, 0, none⟩ 1 1 [.int .i64 (ja : Int)] (by rfl) rfl (by exact World.news_of_block (heap_alloc_new x7 (.cells #[.int .i64 (ja : Int)] 3))) (by simp [Value.oneCell']) (by omega) (by simp only [maxLen]; omega) (by omega) (by have := HW7.out.bg; simp; omega) _ rfl ?_
                              intro g7 cap7 v7 hown7 hgrow7 hat7 hlt7
                              have HG7 := Lib.hid (show x7.grownBy v7 (.slice Aa7 (Z7 jb).length ca7 : Value).ownBlock from grown_via hgrow7)
                              have HWp7 := Lib.hid (HW7.out.keepT HOA7.out HG7.out (by decide) (by decide) (by decide) (by decide))
                              have hd7 := (HG7.out.block wr.heap.size hlD (own_ne HOA7.out HD7.out (fun cur h => by injection h with _ h2; exact absurd h2 (by decide)))).trans HD7.out
                              have hrow7 := HR7.out.row.of_block (HG7.out.block gx hlx (HR7.out.ne HOA7.out HR7.out.row))
                              have k7 : v7.cell? ⟨wr.heap.size, 0, none⟩ = some (.int .i64 (ja : Int)) ∧ v7.cell? ⟨wr.heap.size, 1, none⟩ = some (.int .i64 (jb : Int)) ∧ v7.cell? ⟨w.heap.size + 1, 6, none⟩ = some (.slice (some ⟨gx, 0, none⟩) l.length l.length) := ⟨blk_cell hd7 0 _ rfl, blk_cell hd7 1 _ rfl, blk_cell HWp7.out.blk 6 (.slice (some ⟨gx, 0, none⟩) l.length l.length) rfl⟩
                              have s7 : v7.cell? ⟨gx, jb, none⟩ = some (.slice Aa7 (Z7 jb).length ca7) := by rw [hrow7.cell hjb, HVA7.out]
                              have f7 : v7.frozen? ⟨gx, jb, none⟩ = false := hrow7.frozen jb
                              have HO7 := Lib.hid hown7
                              have HA7 := Lib.hid hat7
                              have HRW7 := Lib.hid hrow7
                              have HDp7 := Lib.hid hd7
                              clear hrow7 hd7 hgrow7 hown7 hat7
                              refine hK.out _ _ (by assumption) (fun hH3 => ?_)
                              clear hK K hH2
                              refine wpAnyH_take (i := 18) (v := ?_) (by simp only [List.getElem?_toArray, List.getElem?_cons_zero, List.getElem?_cons_succ]; rfl) (by kernel_rfl) (by kernel_rfl) (by kernel_rfl) (fun _ _ _ h => h) (Or.inl ⟨by rfl, ?_⟩) (by assumption) ?_
                              rotate_left
                              · (intro w' hSw; (try dsimp only at hSw); go_simp; try with_reducible rfl)
                              try simp only [Act.put, List.setIfInBounds_toArray, List.set_cons_zero, List.set_cons_succ]
                              refine wpAnyH_ready (rs := [19]) (by kernel_rfl) (by simp) ?_
                              refine AllReadyH.cons (by simp only [List.getElem?_toArray, List.getElem?_cons_zero, List.getElem?_cons_succ]; rfl) (fun K hK => ?_) ?_
                              · go_simp
                                refine hK.out _ _ (by refine ⟨?_, ?_, ?_⟩ <;> go_simp) (fun hH4 => ?_)
                                clear hK K hH3
                                refine wpAnyH_done (by kernel_rfl) ?_ _
                                refine NoPanic.normal ?_
                                obtain ⟨x8, hx8⟩ : ∃ x8, x8 = v7.setCell ⟨gx, jb, none⟩ (.slice (some ⟨g7, 0, none⟩) ((Z7 jb).length + 1) cap7) := ⟨_, rfl⟩
                                obtain ⟨Vz8, Z8, HR8, HZ8⟩ : ∃ Vz Z, Hid (Rows2 w.heap.size x8 gx l.length Vz Z) ∧ Hid (Z = upd Z7 jb (ja : Int)) := ⟨_, _, Lib.hid (by rw [hx8]; exact HR7.out.step jb hjb (Z7 jb ++ [(ja : Int)]) g7 ((Z7 jb).length + 1) cap7 (by rw [HVA7.out]; exact HG7.out) (by rw [← cellsI_snoc, List.length_append]; exact HO7.out) (by rw [HVA7.out]; exact HA7.out.elim (fun hq => .inl hq) (fun hq => .inr (by rw [hq]; simp)))), Lib.hid (funext fun j => by by_cases e : j = jb <;> simp [upd, e])⟩
                                have HW8 := Lib.hid (show NetW w.heap.size x8 h n (w.heap.size + 1) w.heap.size l (.slice AV l.length cV) (.slice (some ⟨gC, 0, none⟩) k cp) (triL l h n) (.slice (some ⟨gA, 0, none⟩) E.length cE) E (.slice (some ⟨gx, 0, none⟩) l.length l.length) by rw [hx8]; exact HWp7.out.setRow HRW7.out jb (.slice (some ⟨g7, 0, none⟩) ((Z7 jb).length + 1) cap7))
                                have HB8 := Lib.hid (show Below w.heap.size w x8 by rw [hx8]; exact Below.setCell ((HB7.out.grown HG7.out HB7.out.size (fun k hk => (HOA7.out.lt k hk).1))) (HR7.out.bx) _)
                                have HD8 := Lib.hid (show x8.heap[wr.heap.size]? = some (.cells #[.int .i64 (ja : Int), .int .i64 (jb : Int)] 39 (0, 0)) by rw [hx8]; exact (Go.Deep.blk_setCell_other _ ⟨gx, jb, none⟩ _ _ hgxd').trans HDp7.out)
                                have hln8 : ∀ j, (Z8 j).length ≤ 2 * m + 1 + 1 := fun j => by rw [HZ8.out]; exact upd_len Z7 jb _ (2 * m + 1) HLN7.out j
                                have HLN8 := Lib.hid hln8
                                have hlq8 := hln8 ja
                                have hlr8 := hln8 jb
                                clear hln8 d0 d1 c6 r0 s7 f7 k7 hlg hlx hlD hH4
                                rw [← hx8]
                                clear hx8
                                go_wp2_with fail
                                go_roundw
                                case rel => exact ⟨m + 1, by omega, by go_num, HB8.out, HW8.out, Vz8, by rw [HSN.out, ← HY.out]; have := HR8.out; rw [HZ8.out, HZ7.out] at this; exact this⟩
                                case measure => simp [intOf]; omega
                              · exact AllReadyH.nil
                            · exact AllReadyH.nil
                          · exact AllReadyH.nil
                        · refine AllReadyH.cons (by simp only [List.getElem?_toArray, List.getElem?_cons_zero, List.getElem?_cons_succ]; rfl) (fun K hK => ?_) ?_
                          · go_simp
                            refine hK.out _ _ (by refine ⟨?_, ?_, ?_⟩ <;> go_simp) (fun hH1 => ?_)
                            clear hK K hHeld
                            refine wpAnyH_ready (rs := [13]) (by kernel_rfl) (by simp) ?_
                            refine AllReadyH.cons (by simp only [List.getElem?_toArray, List.getElem?_cons_zero, List.getElem?_cons_succ]; rfl) (fun K hK => ?_) ?_
                            · go_simp
                              refine hK.out _ _ (by refine ⟨?_, ?_, ?_⟩ <;> go_simp) (fun hH2 => ?_)
                              clear hK K hH1
                              refine wpAnyH_ready (rs := [17]) (by kernel_rfl) (by simp) ?_
                              refine AllReadyH.cons (by simp only [List.getElem?_toArray, List.getElem?_cons_zero, List.getElem?_cons_succ]; rfl) (fun K hK => ?_) ?_
                              · refine step_append_lies _ (by rfl) _ _ 23 (by rfl) w.heap.size 3 i7 _ 1 8 Tryz.underlying23 HIa7.out HZa7.out HZb7.out HZc7.out rfl (by decide) _ (Z7 jb).length (cellsI (Z7 jb)) (by rfl) (by exact HOA7.out.alloc _) ⟨x7.heap.size, 0, none⟩ 1 1 [.int .i64 (ja : Int)] (by rfl) rfl (by exact World.news_of_block (heap_alloc_new x7 (.cells #[.int .i64 (ja : Int)] 3))) (by simp [Value.oneCell']) (by omega) (by simp only [maxLen]; omega) (by omega) (by have := HW7.out.bg; simp; omega) _ rfl ?_
                                intro g7 cap7 v7 hown7 hgrow7 hat7 hlt7
                                have HG7 := Lib.hid (show x7.grownBy v7 (.slice Aa7 (Z7 jb).length ca7 : Value).ownBlock from grown_via hgrow7)
                                have HWp7 := Lib.hid (HW7.out.keepT HOA7.out HG7.out (by decide) (by decide) (by decide) (by decide))
                                have hd7 := (HG7.out.block wr.heap.size hlD (own_ne HOA7.out HD7.out (fun cur h => by injection h with _ h2; exact absurd h2 (by decide)))).trans HD7.out
                                have hrow7 := HR7.out.row.of_block (HG7.out.block gx hlx (HR7.out.ne HOA7.out HR7.out.row))
                                have k7 : v7.cell? ⟨wr.heap.size, 0, none⟩ = some (.int .i64 (ja : Int)) ∧ v7.cell? ⟨wr.heap.size, 1, none⟩ = some (.int .i64 (jb : Int)) ∧ v7.cell? ⟨w.heap.size + 1, 6, none⟩ = some (.slice (some ⟨gx, 0, none⟩) l.length l.length) := ⟨blk_cell hd7 0 _ rfl, blk_cell hd7 1 _ rfl, blk_cell HWp7.out.blk 6 (.slice (some ⟨gx, 0, none⟩) l.length l.length) rfl⟩
                                have s7 : v7.cell? ⟨gx, jb, none⟩ = some (.slice Aa7 (Z7 jb).length ca7) := by rw [hrow7.cell hjb, HVA7.out]
                                have f7 : v7.frozen? ⟨gx, jb, none⟩ = false := hrow7.frozen jb
                                have HO7 := Lib.hid hown7
                                have HA7 := Lib.hid hat7
                                have HRW7 := Lib.hid hrow7
                                have HDp7 := Lib.hid hd7
                                clear hrow7 hd7 hgrow7 hown7 hat7
                                refine hK.out _ _ (by assumption) (fun hH3 => ?_)
                                clear hK K hH2
                                refine wpAnyH_take (i := 18) (v := ?_) (by simp only [List.getElem?_toArray, List.getElem?_cons_zero, List.getElem?_cons_succ]; rfl) (by kernel_rfl) (by kernel_rfl) (by kernel_rfl) (fun _ _ _ h => h) (Or.inl ⟨by rfl, ?_⟩) (by assumption) ?_
                                rotate_left
                                · (intro w' hSw; (try dsimp only at hSw); go_simp; try with_reducible rfl)
                                try simp only [Act.put, List.setIfInBounds_toArray, List.set_cons_zero, List.set_cons_succ]
                                refine wpAnyH_ready (rs := [19]) (by kernel_rfl) (by simp) ?_
                                refine AllReadyH.cons (by simp only [List.getElem?_toArray, List.getElem?_cons_zero, List.getElem?_cons_succ]; rfl) (fun K hK => ?_) ?_
                                · go_simp
                                  refine hK.out _ _ (by refine ⟨?_, ?_, ?_⟩ <;> go_simp) (fun hH4 => ?_)
                                  clear hK K hH3
                                  refine wpAnyH_done (by kernel_rfl) ?_ _
                                  refine NoPanic.normal ?_
                                  obtain ⟨x8, hx8⟩ : ∃ x8, x8 = v7.setCell ⟨gx, jb, none⟩ (.slice (some ⟨g7, 0, none⟩) ((Z7 jb).length + 1) cap7) := ⟨_, rfl⟩
                                  obtain ⟨Vz8, Z8, HR8, HZ8⟩ : ∃ Vz Z, Hid (Rows2 w.heap.size x8 gx l.length Vz Z) ∧ Hid (Z = upd Z7 jb (ja : Int)) := ⟨_, _, Lib.hid (by rw [hx8]; exact HR7.out.step jb hjb (Z7 jb ++ [(ja : Int)]) g7 ((Z7 jb).length + 1) cap7 (by rw [HVA7.out]; exact HG7.out) (by rw [← cellsI_snoc, List.length_append]; exact HO7.out) (by rw [HVA7.out]; exact HA7.out.elim (fun hq => .inl hq) (fun hq => .inr (by rw [hq]; simp)))), Lib.hid (funext fun j => by by_cases e : j = jb <;> simp [upd, e])⟩
                                  have HW8 := Lib.hid (show NetW w.heap.size x8 h n (w.heap.size + 1) w.heap.size l (.slice AV l.length cV) (.slice (some ⟨gC, 0, none⟩) k cp) (triL l h n) (.slice (some ⟨gA, 0, none⟩) E.length cE) E (.slice (some ⟨gx, 0, none⟩) l.length l.length) by rw [hx8]; exact HWp7.out.setRow HRW7.out jb (.slice (some ⟨g7, 0, none⟩) ((Z7 jb).length + 1) cap7))
                                  have HB8 := Lib.hid (show Below w.heap.size w x8 by rw [hx8]; exact Below.setCell ((HB7.out.grown HG7.out HB7.out.size (fun k hk => (HOA7.out.lt k hk).1))) (HR7.out.bx) _)
                                  have HD8 := Lib.hid (show x8.heap[wr.heap.size]? = some (.cells #[.int .i64 (ja : Int), .int .i64 (jb : Int)] 39 (0, 0)) by rw [hx8]; exact (Go.Deep.blk_setCell_other _ ⟨gx, jb, none⟩ _ _ hgxd').trans HDp7.out)
                                  have hln8 : ∀ j, (Z8 j).length ≤ 2 * m + 1 + 1 := fun j => by rw [HZ8.out]; exact upd_len Z7 jb _ (2 * m + 1) HLN7.out j
                                  have HLN8 := Lib.hid hln8
                                  have hlq8 := hln8 ja
                                  have hlr8 := hln8 jb
                                  clear hln8 d0 d1 c6 r0 s7 f7 k7 hlg hlx hlD hH4
                                  rw [← hx8]
                                  clear hx8
                                  go_wp2_with fail
                                  go_roundw
                                  case rel => exact ⟨m + 1, by omega, by go_num, HB8.out, HW8.out, Vz8, by rw [HSN.out, ← HY.out]; have := HR8.out; rw [HZ8.out, HZ7.out] at this; exact this⟩
                                  case measure => simp [intOf]; omega
                                · exact AllReadyH.nil
                              · exact AllReadyH.nil
                            · exact AllReadyH.nil
                          · exact AllReadyH.nil
                      · exact AllReadyH.nil
                    · exact AllReadyH.nil
                  · exact AllReadyH.nil
                · exact AllReadyH.nil
            · obtain rfl : m = E.length := by omega
              have hdE : decide (E.length < E.length) = false := decide_eq_false (by omega)
              obtain ⟨Y, hY⟩ : ∃ Y, Y = nxR E := ⟨_, rfl⟩
              have HR9 := Lib.hid (show Rows2 w.heap.size wr gx l.length Vx (fun j => if j < 0 then sortI (Y j) else Y j) by have := HRM.out; rw [List.take_length, ← hY] at this; simpa using this)
              have HLY := Lib.hid (show ∀ j, (Y j).length ≤ 1000000 from fun j => by have := nxR_len E j; rw [← hY] at this; omega)
              have HY := Lib.hid hY
              have c6 := blk_cell HWM.out.blk 6 (.slice (some ⟨gx, 0, none⟩) l.length l.length) rfl
              have hlg := blk_lt HWM.out.blk
              clear HRM hY
              go_wp2_with fail
              go_loopw [172] (fun i wr => ∃ q : Nat, q ≤ l.length ∧ i = .int .i64 q ∧ Below w.heap.size w wr ∧ NetW w.heap.size wr h n (w.heap.size + 1) w.heap.size l (.slice AV l.length cV) (.slice (some ⟨gC, 0, none⟩) k cp) (triL l h n) (.slice AE E.length cE) E (.slice (some ⟨gx, 0, none⟩) l.length l.length) ∧ Rows2 w.heap.size wr gx l.length Vx (fun j => if j < q then sortI (Y j) else Y j)) (fun i _ => l.length - (intOf i).toNat)
              case atStart => exact ⟨0, Nat.zero_le _, rfl, HBM.out, HWM.out, HR9.out⟩
              case round =>
                obtain ⟨q, hq, rfl, hbq, hwq, hrq⟩ := hrel
                have HBQ := Lib.hid hbq
                have HWQ := Lib.hid hwq
                have HRQ := Lib.hid hrq
                clear hbq hwq hrq HBM HWM HR9 c6 hlg
                by_cases hql : q < l.length
                · have hqI : (q : Int) < (l.length : Int) := by omega
                  have r0 := HRQ.out.row.cell hql
                  have HLQ := Lib.hid (show ((fun j => if j < q then sortI (Y j) else Y j) q).length ≤ 1000000 by simpa using HLY.out q)
                  have HSR := Lib.hid (HRQ.out.sorted q hql HLQ.out)
                  have HOQ := Lib.hid (HRQ.out.own q hql)
                  go_wp2_with fail
                  refine HSR.out.mono ?_
                  rintro e w10 ⟨rfl, hg10, hr10⟩
                  have HW10 := Lib.hid (HWQ.out.keepT HOQ.out hg10 (by decide) (by decide) (by decide) (by decide))
                  have HB10 := Lib.hid (HBQ.out.grown hg10 HBQ.out.size (fun k hk => (HOQ.out.lt k hk).1))
                  have HR10 := Lib.hid (show Rows2 w.heap.size w10 gx l.length Vx (fun j => if j < q + 1 then sortI (Y j) else Y j) by
                    have h0 := HRQ.out.same q hql (sortI (Y q)) hg10 (by simpa using hr10)
                    have e : (fun j => if j = q then sortI (Y q) else if j < q then sortI (Y j) else Y j) = (fun j => if j < q + 1 then sortI (Y j) else Y j) := by
                      funext j
                      by_cases h1 : j = q
                      · subst h1; simp
                      · by_cases h2 : j < q
                        · rw [if_neg h1, if_pos h2, if_pos (by omega)]
                        · rw [if_neg h1, if_neg h2, if_neg (by omega)]
                    rw [e] at h0
                    exact h0)
                  clear hg10 hr10 r0 HSR HOQ
                  go_wp2_with fail
                  go_roundw
                  case rel => exact ⟨q + 1, by omega, by go_num, HB10.out, HW10.out, HR10.out⟩
                  case measure => simp [intOf]; omega
                · obtain rfl : q = l.length := by omega
                  have hdL : decide (l.length < l.length) = false := decide_eq_false (by omega)
                  go_wp2_with fail
                  go_ret
                  refine ⟨rfl, ?_⟩
                  unfold Built
                  refine ⟨_, _, _, gx, Vx, by rw [HE.out]; exact HWQ.out, ?_, HBQ.out⟩
                  refine HRQ.out.congr fun i hi => ?_
                  simp only [if_pos hi]
                  unfold nxL
                  rw [HE.out, HY.out]
end Go.Proofs.YtcoddcdiimpndaaGreatDoor
