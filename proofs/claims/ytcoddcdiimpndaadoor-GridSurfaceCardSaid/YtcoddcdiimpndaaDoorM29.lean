/-
  The walk of GridSurface.
-/
import Derived.Test.YtcoddcdiimpndaaDoorM15
import Derived.Test.YtcoddcdiimpndaaDoorM19
import Derived.Test.YtcoddcdiimpndaaDoorM28
set_option linter.unusedVariables false
set_option linter.unusedSimpArgs false
namespace Go.Proofs.YtcoddcdiimpndaaDoor
open Go.RowKit
/-- Rows that are read: edges, cells. -/
structure RdG (w : World) (g : Nat) (E : Nat → Ed) (n : Nat) : Prop where
  lt : g < w.heap.size
  cells : ∀ i, i < n → w.cell? ⟨g, i * 2, none⟩ = some (.int .i64 (E i).a) ∧ w.cell? ⟨g, i * 2 + 1, none⟩ = some (.int .i64 (E i).b)
theorem RdG.grown {w w' : World} {g n : Nat} {E : Nat → Ed} {row : Option Nat} (H : RdG w g E n) (hg : w.grownBy w' row) (hne : some g ≠ row) : RdG w' g E n :=
  ⟨Nat.lt_of_lt_of_le H.lt hg.size, fun i hi => ⟨hg.cell (H.cells i hi).1 hne, hg.cell (H.cells i hi).2 hne⟩⟩
theorem RdG.below {w w' : World} {B g n : Nat} {E : Nat → Ed} (H : RdG w g E n) (hb : Below B w w') (hB : g < B) : RdG w' g E n :=
  ⟨Nat.lt_of_lt_of_le H.lt hb.size, fun i hi => ⟨(hb.cell (p := ⟨g, i * 2, none⟩) hB).trans (H.cells i hi).1, (hb.cell (p := ⟨g, i * 2 + 1, none⟩) hB).trans (H.cells i hi).2⟩⟩
theorem RdG.of_own {w : World} {base g cap : Nat} {l : List Ed} (h : w.ownsRow base 52 2 (.slice (some ⟨g, 0, none⟩) l.length cap) l.length (cellsE l)) : RdG w g (fun i => l[i]!) l.length :=
  ⟨(h.lt g rfl).2, fun i hi => ⟨own_cell h (i * 2) _ (by rw [cellsE_at l (i * 2) (by omega), show i * 2 / 2 = i by omega, show i * 2 % 2 = 0 by omega]; rfl),
    own_cell h (i * 2 + 1) _ (by rw [cellsE_at l (i * 2 + 1) (by omega), show (i * 2 + 1) / 2 = i by omega, show (i * 2 + 1) % 2 = 1 by omega]; rfl)⟩⟩
structure RdT (w : World) (g : Nat) (C : Nat → Tri) (n : Nat) : Prop where
  lt : g < w.heap.size
  cells : ∀ i, i < n → w.cell? ⟨g, i * 3, none⟩ = some (.int .i64 (C i).a) ∧ w.cell? ⟨g, i * 3 + 1, none⟩ = some (.int .i64 (C i).b) ∧ w.cell? ⟨g, i * 3 + 2, none⟩ = some (.int .i64 (C i).c)
theorem RdT.grown {w w' : World} {g n : Nat} {C : Nat → Tri} {row : Option Nat} (H : RdT w g C n) (hg : w.grownBy w' row) (hne : some g ≠ row) : RdT w' g C n :=
  ⟨Nat.lt_of_lt_of_le H.lt hg.size, fun i hi => ⟨hg.cell (H.cells i hi).1 hne, hg.cell (H.cells i hi).2.1 hne, hg.cell (H.cells i hi).2.2 hne⟩⟩
theorem RdT.below {w w' : World} {B g n : Nat} {C : Nat → Tri} (H : RdT w g C n) (hb : Below B w w') (hB : g < B) : RdT w' g C n :=
  ⟨Nat.lt_of_lt_of_le H.lt hb.size, fun i hi => ⟨(hb.cell (p := ⟨g, i * 3, none⟩) hB).trans (H.cells i hi).1, (hb.cell (p := ⟨g, i * 3 + 1, none⟩) hB).trans (H.cells i hi).2.1, (hb.cell (p := ⟨g, i * 3 + 2, none⟩) hB).trans (H.cells i hi).2.2⟩⟩
theorem RdT.of_own {w : World} {base g cap : Nat} {l : List Tri} (h : w.ownsRow base 54 3 (.slice (some ⟨g, 0, none⟩) l.length cap) l.length (cellsT l)) : RdT w g (fun i => l[i]!) l.length :=
  ⟨(h.lt g rfl).2, fun i hi => ⟨own_cell h (i * 3) _ (cellsT_at l i hi).1, own_cell h (i * 3 + 1) _ (cellsT_at l i hi).2.1, own_cell h (i * 3 + 2) _ (cellsT_at l i hi).2.2⟩⟩
/-- Is x the edge (p, q)? -/
def edB (x0 x1 y0 y1 : Int) : Bool := x0 == y0 && (x1 == y1)
theorem edB_run (w : World) (x0 x1 y0 y1 : Int) : (binOp .eql 52 (.agg #[.int .i64 x0, .int .i64 x1]) (.agg #[.int .i64 y0, .int .i64 y1])).run Tryd.prog w = .ok (.bool (edB x0 x1 y0 y1)) w := eqlE w x0 x1 y0 y1
theorem mt_edB (c : Tri) (e : Ed) : mt c e = (edB e.a e.b c.a c.b || (edB e.a e.b c.a c.c || edB e.a e.b c.b c.c)) := rfl
attribute [local go_sem high] eqgE edB_run
theorem row_congr {w : World} {b n : Nat} {t : TypeId} {f g : Nat → Value} (h : w.rowIs b t n f) (e : ∀ i, f i = g i) : w.rowIs b t n g := h.congr (fun i _ => e i)
theorem deg_store (E : Nat → Ed) (k ja jb : Nat) (ha : (E k).a = ja) (hb : (E k).b = jb) (hne : ¬ jb = ja) (i : Nat) :
    (if i = jb then Value.int .i64 ((degTo E k jb : Nat) + 1 : Int) else if i = ja then Value.int .i64 ((degTo E k ja : Nat) + 1 : Int) else Value.int .i64 (degTo E k i : Nat)) = Value.int .i64 (degTo E (k + 1) i : Nat) := by
  simp only [degTo, ha, hb, Int.toNat_natCast]
  by_cases h1 : i = jb
  · subst h1
    rw [if_pos rfl, if_neg (fun h => hne h.symm), if_pos rfl]; rfl
  · rw [if_neg h1]
    by_cases h2 : i = ja
    · subst h2
      rw [if_pos rfl, if_pos rfl, if_neg (fun h => h1 h.symm)]; rfl
    · rw [if_neg h2, if_neg (fun h => h2 h.symm), if_neg (fun h => h1 h.symm)]; rfl
theorem side_yes (S S' : Nat → Nat) (j : Nat) (h : S' j = S j + 1) (i : Nat) : (if i = j then Value.int .i64 ((S j : Nat) + 1 : Int) else Value.int .i64 ((if i < j then S' i else S i : Nat) : Int)) = Value.int .i64 ((if i < j + 1 then S' i else S i : Nat) : Int) := by
  by_cases h1 : i = j
  · subst h1
    rw [if_pos rfl, if_pos (by omega), h]; rfl
  · rw [if_neg h1]
    by_cases h2 : i < j
    · rw [if_pos h2, if_pos (by omega)]
    · rw [if_neg h2, if_neg (by omega)]
theorem side_no (S S' : Nat → Nat) (j : Nat) (h : S' j = S j) (i : Nat) : Value.int .i64 ((if i < j then S' i else S i : Nat) : Int) = Value.int .i64 ((if i < j + 1 then S' i else S i : Nat) : Int) := by
  by_cases h1 : i = j
  · subst h1
    rw [if_neg (by omega), if_pos (by omega), h]
  · by_cases h2 : i < j
    · rw [if_pos h2, if_pos (by omega)]
    · rw [if_neg h2, if_neg (by omega)]
set_option maxRecDepth 100000 in
set_option maxHeartbeats 8000000 in
theorem surface_core (k x : Int) (hx0 : 0 ≤ x) (hx4 : x ≤ 4) (N M K : Nat) (E : Nat → Ed) (C : Nat → Tri) (w : World) (hT : TabOk w)
    (hmod : ∀ W : World, Calls Tryd.prog 21 #[.int .i64 k, .int .i64 5] W fun e w' => e = .returned (.int .i64 x) ∧ W = w')
    (hnodes : ∀ W : World, TabOk W → Calls Tryd.prog 19 #[.int .i64 (1 + x)] W fun e w' => ∃ g cap, e = .returned (.tuple #[.slice (some ⟨g, 0, none⟩) N cap, .int .i64 0]) ∧ Below W.heap.size W w')
    (hedges : ∀ W : World, TabOk W → Calls Tryd.prog 22 #[.int .i64 (1 + x)] W fun e w' => ∃ g cap, e = .returned (.tuple #[.slice (some ⟨g, 0, none⟩) M cap, .int .i64 0]) ∧ RdG w' g E M ∧ W.heap.size ≤ g ∧ Below W.heap.size W w')
    (hcells : ∀ W : World, TabOk W → Calls Tryd.prog 23 #[.int .i64 (1 + x)] W fun e w' => ∃ g cap, e = .returned (.tuple #[.slice (some ⟨g, 0, none⟩) K cap, .int .i64 0]) ∧ RdT w' g C K ∧ W.heap.size ≤ g ∧ Below W.heap.size W w')
    (hNb : N ≤ 1000) (hMb : M ≤ 1000) (hKb : K ≤ 1000) (hsum : (N : Int) - M + K = 2) (hN : (N : Int) = 10 * (1 + x) * (1 + x) + 2)
    (hE : ∀ i, i < M → 0 ≤ (E i).a ∧ (E i).a < (E i).b ∧ (E i).b < (N : Int)) (hC : ∀ q, q < K → cntTo (mt (C q)) E M = 3)
    (hS : ∀ i, i < M → cntTo (fun c => mt c (E i)) C K = 2) (hD : ∀ i, i < N → degTo E M i = 5 ∨ degTo E M i = 6) (h5 : cntTo (fun d => d == 5) (fun i => degTo E M i) N = 12) :
    Calls Tryd.prog 5 #[.int .i64 k] w fun e w' => e = .returned (.bool true) ∧ Below w.heap.size w w' := by
  have hp := hT.pos
  have HT := Lib.hid hT
  have HM := Lib.hid hmod
  have HN := Lib.hid hnodes
  have HE := Lib.hid hedges
  have HC := Lib.hid hcells
  have h10 : 0 ≤ 10 * (1 + x) * (1 + x) ∧ 10 * (1 + x) * (1 + x) ≤ 1000 := ⟨Int.mul_nonneg (by omega) (by omega), by omega⟩
  obtain ⟨h10a, h10b⟩ := h10
  have ht1 : ((N : Int) - (M : Int) + (K : Int) != 2) = false := by rw [hsum]; rfl
  have ht2 : ((N : Int) != 10 * (1 + x) * (1 + x) + 2) = false := by rw [← hN]; simp
  have HEE := Lib.hid hE
  have HCC := Lib.hid hC
  have HSS := Lib.hid hS
  have HDD := Lib.hid hD
  have H55 := Lib.hid h5
  have hmk : ∀ (n : Nat), n ≤ 1000 → ∀ W : World, (Instr.makeSlice 24 (.int .i64 (n : Int)) (.int .i64 (n : Int))).run Tryd.prog W = .ok (.slice (some ⟨W.heap.size, 0, none⟩) n n) (W.alloc (.cells (madeCells #[.int .i64 0] n) 3)) := fun n hn W => run_make_row' 24 3 (.int .i64 0) 8 (by rfl) (by kernel_rfl) rfl .i64 .i64 n (by omega) (by omega) W
  have hmk1 := hmk N hNb
  have hmk2 := hmk M hMb
  clear hT hmod hnodes hedges hcells hsum hN hE hC hS hD h5 hmk
  go_enter Tryd.func5, Tryd.ntmps5
  go_wp2_with fail
  refine (HM.out _).mono ?_
  rintro e w1 ⟨rfl, rfl⟩
  go_wp2_with fail
  refine (HN.out _ HT.out).mono ?_
  rintro e w1 ⟨g1, cap1, rfl, hb1⟩
  have HB1 := Lib.hid hb1
  have HT1 := Lib.hid (HT.out.below hb1)
  clear hb1
  go_wp2_with fail
  refine (HE.out _ HT1.out).mono ?_
  rintro e w2 ⟨gE, capE, rfl, hre, hge, hb2⟩
  have HB2 := Lib.hid (below_then HB1.out hb2 HB1.out.size)
  have HT2 := Lib.hid (HT1.out.below hb2)
  have HRE := Lib.hid hre
  have hgE : w.heap.size ≤ gE := Nat.le_trans HB1.out.size hge
  clear hb2 hre hge
  go_wp2_with fail
  refine (HC.out _ HT2.out).mono ?_
  rintro e w3 ⟨gC, capC, rfl, hrt, hgc, hb3⟩
  have HB3 := Lib.hid (below_then HB2.out hb3 HB2.out.size)
  have HRT := Lib.hid hrt
  have HRE3 := Lib.hid (HRE.out.below hb3 HRE.out.lt)
  have hgC : w.heap.size ≤ gC := Nat.le_trans HB2.out.size hgc
  clear hb3 hrt hgc HM HN HE HC HB1 HB2 HT1 HT2 HRE
  go_upto_region 9 with fail
  obtain ⟨W5, hW5⟩ : ∃ W5, W5 = (w3.alloc (.cells (madeCells #[.int .i64 0] N) 3)).alloc (.cells (madeCells #[.int .i64 0] M) 3) := ⟨_, rfl⟩
  obtain ⟨gd, hgd⟩ : ∃ gd, gd = w3.heap.size := ⟨_, rfl⟩
  have hs1 : (w3.alloc (.cells (madeCells #[.int .i64 0] N) 3)).heap.size = gd + 1 := by rw [hgd]; simp
  have HB5 := Lib.hid (show Below w.heap.size w W5 by rw [hW5]; exact below_alloc (below_alloc HB3.out _) _)
  have HRE5 := Lib.hid (show RdG W5 gE E M by rw [hW5]; exact (HRE3.out.below (alloc_below _ _) HRE3.out.lt).below (alloc_below _ _) (by have := HRE3.out.lt; simp; omega))
  have HRT5 := Lib.hid (show RdT W5 gC C K by rw [hW5]; exact (HRT.out.below (alloc_below _ _) HRT.out.lt).below (alloc_below _ _) (by have := HRT.out.lt; simp; omega))
  have HRD5 := Lib.hid (show W5.rowIs gd 3 N (fun j => .int .i64 ((degTo E 0 j : Nat) : Int)) by rw [hW5, hgd]; exact (World.rowIs_made _ _ _ _).alloc _)
  have HRS5 := Lib.hid (show W5.rowIs (gd + 1) 3 M (fun j => .int .i64 ((cntTo (fun c => mt c (E j)) C 0 : Nat) : Int)) by rw [hW5, ← hs1]; exact World.rowIs_made _ _ _ _)
  have hgEd : gE < gd := by rw [hgd]; exact HRE3.out.lt
  have hgCd : gC < gd := by rw [hgd]; exact HRT.out.lt
  have hwd : w.heap.size ≤ gd := by omega
  have hmw : 0 < w.heap.size := hp
  rw [← hW5]
  try rw [hs1]
  try rw [← hgd]
  have hl5 := HRS5.out.lt
  clear hmk1 hmk2 hW5 hgd hs1 HRE3 HRT HB3 ht1 ht2
  go_wp2_with fail
  go_loopw [79] (fun i wr => ∃ q : Nat, q ≤ M ∧ i = .int .i64 q ∧ W5.grownBy wr (some gd) ∧ wr.rowIs gd 3 N (fun j => .int .i64 ((degTo E q j : Nat) : Int))) (fun i _ => M - (intOf i).toNat)
  case atStart => exact ⟨0, Nat.zero_le _, rfl, grown_refl _ _, HRD5.out⟩
  case round =>
    obtain ⟨q, hq, rfl, hg, hrow⟩ := hrel
    have HG := Lib.hid hg
    have HRW := Lib.hid hrow
    clear hg hrow
    by_cases hqM : q < M
    · have hqI : (q : Int) < (M : Int) := by omega
      have HR := Lib.hid (HRE5.out.grown HG.out (by simp; omega))
      have hlE := HR.out.lt
      obtain ⟨e0, e1, e2⟩ := HEE.out q hqM
      obtain ⟨ja, hja⟩ := Int.eq_ofNat_of_zero_le e0
      obtain ⟨jb, hjb⟩ := Int.eq_ofNat_of_zero_le (show 0 ≤ (E q).b by omega)
      obtain ⟨q0, q1⟩ := HR.out.cells q hqM
      rw [hja] at q0 e0 e1
      rw [hjb] at q1 e1 e2
      have hjaN : ja < N := by omega
      have hjbN : jb < N := by omega
      have hjaI : (ja : Int) < (N : Int) := by omega
      have hjbI : (jb : Int) < (N : Int) := by omega
      have hab : (ja : Int) < (jb : Int) := e1
      have d1 : decide ((ja : Int) < 0) = false := decide_eq_false (by omega)
      have d2 : decide (jb ≤ ja) = false := decide_eq_false (by omega)
      have d3 : decide (N ≤ jb) = false := decide_eq_false (by omega)
      have r0 := HRW.out.cell hjaN
      have r1 := HRW.out.cell hjbN
      have f0 := HRW.out.frozen ja
      have f1 := HRW.out.frozen jb
      have hlt := HRW.out.lt
      have b0 := degTo_le E ja q
      have b1 := degTo_le E jb q
      have hne : ¬ jb = ja := by omega
      have hne' : ¬ ja = jb := by omega
      have HST := Lib.hid (deg_store E q ja jb hja hjb hne)
      have HJ := Lib.hid hja
      have HJ2 := Lib.hid hjb
      clear hja hjb
      go_wp2_with fail
      go_roundw
      case rel => exact ⟨q + 1, by omega, by go_num, grown_new (World.grownBy.trans (World.grownBy.trans HG.out (setCell_grown _ _ _)) (setCell_grown _ _ _)) _, row_congr (((HRW.out.set ja _).set jb _).alloc _) HST.out⟩
      case measure => simp [intOf]; omega
    · obtain rfl : q = M := by omega
      have hd : decide (q < q) = false := decide_eq_false (by omega)
      have HB6 := Lib.hid (grown_low HB5.out HG.out HB5.out.size hwd)
      have HRE6 := Lib.hid (HRE5.out.grown HG.out (by simp; omega))
      have HRT6 := Lib.hid (HRT5.out.grown HG.out (by simp; omega))
      have HRS6 := Lib.hid (HRS5.out.of_block (HG.out.block (gd + 1) hl5 (by simp)))
      obtain ⟨W6, hW6⟩ : ∃ W6, W6 = wr := ⟨_, rfl⟩
      rw [← hW6] at HRW HB6 HRE6 HRT6 HRS6 ⊢
      have hl6 := HRS6.out.lt
      clear hW6 HB5 HRE5 HRT5 HRS5 HRD5 HG
      go_wp2_with fail
      go_loopw [117] (fun i wr => ∃ p : Nat, p ≤ K ∧ i = .int .i64 p ∧ W6.grownBy wr (some (gd + 1)) ∧ wr.rowIs (gd + 1) 3 q (fun j => .int .i64 ((cntTo (fun c => mt c (E j)) C p : Nat) : Int))) (fun i _ => K - (intOf i).toNat)
      case atStart => exact ⟨0, Nat.zero_le _, rfl, grown_refl _ _, HRS6.out⟩
      case round =>
        obtain ⟨p, hpK, rfl, hg, hrow⟩ := hrel
        have HG := Lib.hid hg
        have HRX := Lib.hid hrow
        clear hg hrow
        by_cases hpk : p < K
        · have hpI : (p : Int) < (K : Int) := by omega
          have HRR := Lib.hid (HRT6.out.grown HG.out (by simp; omega))
          have HRG := Lib.hid (HRE6.out.grown HG.out (by simp; omega))
          have hlC := HRR.out.lt
          obtain ⟨c, hc⟩ : ∃ c, c = C p := ⟨_, rfl⟩
          obtain ⟨t0, t1, t2⟩ := HRR.out.cells p hpk
          rw [← hc] at t0 t1 t2
          have HCP := Lib.hid hc
          have HCN := Lib.hid (HCC.out p hpk)
          rw [← hc] at HCN
          obtain ⟨W7, hW7⟩ : ∃ W7, W7 = wr.alloc (.cells #[.int .i64 c.a, .int .i64 c.b, .int .i64 c.c] 54) := ⟨_, rfl⟩
          have HG7 := Lib.hid (show W6.grownBy W7 (some (gd + 1)) by rw [hW7]; exact grown_new HG.out _)
          have HR7 := Lib.hid (show RdG W7 gE E q by rw [hW7]; exact HRG.out.below (alloc_below _ _) HRG.out.lt)
          have HX7 := Lib.hid (show W7.rowIs (gd + 1) 3 q (fun j => .int .i64 ((if j < 0 then cntTo (fun c => mt c (E j)) C (p + 1) else cntTo (fun c => mt c (E j)) C p : Nat) : Int)) by rw [hW7]; exact row_congr (HRX.out.alloc _) (fun i => by simp))
          have HBX := Lib.hid (show W7.heap[wr.heap.size]? = some (.cells #[.int .i64 c.a, .int .i64 c.b, .int .i64 c.c] 54 (0, 0)) by rw [hW7]; exact blk_new wr _)
          have hlx := HRX.out.lt
          clear hc HRR HRG
          go_upto_block 4 with fail
          rw [← hW7]
          clear hW7 t0 t1 t2
          obtain ⟨S, hS⟩ : ∃ S : Nat → Nat, S = fun j => cntTo (fun c => mt c (E j)) C p := ⟨_, rfl⟩
          obtain ⟨S', hS'⟩ : ∃ S' : Nat → Nat, S' = fun j => cntTo (fun c => mt c (E j)) C (p + 1) := ⟨_, rfl⟩
          have HSP := Lib.hid (show ∀ i, S' i = if mt c (E i) then S i + 1 else S i by intro i; rw [hS, hS', HCP.out]; rfl)
          have HSB := Lib.hid (show ∀ i, S i ≤ p by intro i; rw [hS]; exact cntTo_le _ _ _)
          have HX8 := Lib.hid (show W7.rowIs (gd + 1) 3 q (fun j => .int .i64 ((if j < 0 then S' j else S j : Nat) : Int)) by rw [hS, hS']; exact HX7.out)
          have HS' := Lib.hid hS'
          clear hS hS' HX7
          go_wp2_with fail
          go_loopw [16, 123] (fun fd i wr => ∃ j : Nat, j ≤ q ∧ i = .int .i64 j ∧ fd = .int .i64 ((cntTo (mt c) E j : Nat) : Int) ∧ W7.grownBy wr (some (gd + 1)) ∧ wr.rowIs (gd + 1) 3 q (fun i => .int .i64 ((if i < j then S' i else S i : Nat) : Int))) (fun _ i _ => q - (intOf i).toNat)
          case atStart => exact ⟨0, Nat.zero_le _, rfl, rfl, grown_refl _ _, HX8.out⟩
          case round =>
            obtain ⟨j, hj, rfl, rfl, hg, hrow⟩ := hrel
            have HGY := Lib.hid hg
            have HRY := Lib.hid hrow
            clear hg hrow
            have hly := HRY.out.lt
            by_cases hjq : j < q
            · have hjI : (j : Int) < (q : Int) := by omega
              have HRE8 := Lib.hid (HR7.out.grown HGY.out (by simp; omega))
              have hlE := HRE8.out.lt
              obtain ⟨q0, q1⟩ := HRE8.out.cells j hjq
              have hbx := blk_grown HGY.out HBX.out (by omega)
              have k0 := blk_cell hbx 0 (.int .i64 c.a) rfl
              have k1 := blk_cell hbx 1 (.int .i64 c.b) rfl
              have k2 := blk_cell hbx 2 (.int .i64 c.c) rfl
              have hlb := blk_lt hbx
              have r0 := HRY.out.cell hjq
              simp only [Nat.lt_irrefl, if_false] at r0
              have f0 := HRY.out.frozen j
              have b0 := HSB.out j
              have b1 := cntTo_le (mt c) E j
              clear hbx
              cases e1 : edB (E j).a (E j).b c.a c.b
              · cases e2 : edB (E j).a (E j).b c.a c.c
                · cases e3 : edB (E j).a (E j).b c.b c.c
                  · skip
                    have hm : mt c (E j) = false := by rw [mt_edB, e1, e2, e3]; rfl
                    have HD1 := Lib.hid (show cntTo (mt c) E (j + 1) = cntTo (mt c) E j by rw [cntTo, if_neg (by rw [hm]; decide)])
                    have HS1 := Lib.hid (side_no S S' j (by rw [HSP.out, if_neg (by rw [hm]; decide)]))
                    clear hm
                    go_wp2_with fail
                    go_roundw
                    case rel => exact ⟨j + 1, by omega, by go_num, by rw [HD1.out], grown_new HGY.out _, row_congr (HRY.out.alloc _) HS1.out⟩
                    case measure => simp [intOf]; omega
                  · skip
                    have hm : mt c (E j) = true := by rw [mt_edB, e1, e2, e3]; rfl
                    have HD1 := Lib.hid (show cntTo (mt c) E (j + 1) = cntTo (mt c) E j + 1 by rw [cntTo, if_pos hm])
                    have HS1 := Lib.hid (side_yes S S' j (by rw [HSP.out, if_pos hm]))
                    clear hm
                    go_wp2_with fail
                    go_roundw
                    case rel => exact ⟨j + 1, by omega, by go_num, by rw [HD1.out]; go_num, grown_new (World.grownBy.trans HGY.out (setCell_grown _ _ _)) _, row_congr ((HRY.out.set j _).alloc _) HS1.out⟩
                    case measure => simp [intOf]; omega
                · skip
                  have hm : mt c (E j) = true := by rw [mt_edB, e1, e2]; rfl
                  have HD1 := Lib.hid (show cntTo (mt c) E (j + 1) = cntTo (mt c) E j + 1 by rw [cntTo, if_pos hm])
                  have HS1 := Lib.hid (side_yes S S' j (by rw [HSP.out, if_pos hm]))
                  clear hm
                  go_wp2_with fail
                  go_roundw
                  case rel => exact ⟨j + 1, by omega, by go_num, by rw [HD1.out]; go_num, grown_new (World.grownBy.trans HGY.out (setCell_grown _ _ _)) _, row_congr ((HRY.out.set j _).alloc _) HS1.out⟩
                  case measure => simp [intOf]; omega
              · skip
                have hm : mt c (E j) = true := by rw [mt_edB, e1]; rfl
                have HD1 := Lib.hid (show cntTo (mt c) E (j + 1) = cntTo (mt c) E j + 1 by rw [cntTo, if_pos hm])
                have HS1 := Lib.hid (side_yes S S' j (by rw [HSP.out, if_pos hm]))
                clear hm
                go_wp2_with fail
                go_roundw
                case rel => exact ⟨j + 1, by omega, by go_num, by rw [HD1.out]; go_num, grown_new (World.grownBy.trans HGY.out (setCell_grown _ _ _)) _, row_congr ((HRY.out.set j _).alloc _) HS1.out⟩
                case measure => simp [intOf]; omega
            · obtain rfl : j = q := by omega
              have hd : decide (j < j) = false := decide_eq_false (by omega)
              have hz1 : (((cntTo (mt c) E j : Nat) : Int) != 3) = false := by rw [HCN.out]; rfl
              have hz2 : (cntTo (mt c) E j != 3) = false := by rw [HCN.out]; rfl
              have HGZ := Lib.hid (World.grownBy.trans HG7.out HGY.out)
              have HRZ := Lib.hid (show wr.rowIs (gd + 1) 3 j (fun i => .int .i64 ((cntTo (fun c => mt c (E i)) C (p + 1) : Nat) : Int)) from HRY.out.congr (fun i hi => by rw [if_pos hi, HS'.out]))
              go_wp2_with fail
              go_roundw
              case rel => exact ⟨p + 1, by omega, by go_num, HGZ.out, HRZ.out⟩
              case measure => simp [intOf]; omega
        · obtain rfl : p = K := by omega
          have hd : decide (p < p) = false := decide_eq_false (by omega)
          have HB8 := Lib.hid (grown_low HB6.out HG.out HB6.out.size (by omega))
          have HRD8 := Lib.hid (HRW.out.of_block (HG.out.block gd HRW.out.lt (by simp)))
          have HRS8 := Lib.hid (HRX.out.congr (g := fun _ => .int .i64 2) (fun i hi => by rw [HSS.out i hi]; rfl))
          obtain ⟨W8, hW8⟩ : ∃ W8, W8 = wr := ⟨_, rfl⟩
          rw [← hW8] at HB8 HRD8 HRS8 ⊢
          have hl8 := HRS8.out.lt
          have hl9 := HRD8.out.lt
          clear hW8 HB6 HRE6 HRT6 HRS6 HRW HRX HG
          obtain ⟨D, hD⟩ : ∃ D : Nat → Nat, D = fun i => degTo E q i := ⟨_, rfl⟩
          have HD5 := Lib.hid (show cntTo (fun d => d == 5) D N = 12 by rw [hD]; exact H55.out)
          have HDC := Lib.hid (show ∀ i, i < N → D i = 5 ∨ D i = 6 by rw [hD]; exact HDD.out)
          have HRD9 := Lib.hid (show W8.rowIs gd 3 N (fun i => .int .i64 ((D i : Nat) : Int)) by rw [hD]; exact HRD8.out)
          clear hD HRD8
          go_wp2_with fail
          go_loop [19, 20] (fun v i => ∃ j : Nat, j ≤ N ∧ i = .int .i64 j ∧ v = .int .i64 ((cntTo (fun d => d == 5) D j : Nat) : Int)) (fun _ i => N - (intOf i).toNat)
          case atStart => exact ⟨0, Nat.zero_le _, rfl, rfl⟩
          case round =>
            obtain ⟨j, hj, rfl, rfl⟩ := hrel
            by_cases hjN : j < N
            · have hjI : (j : Int) < (N : Int) := by omega
              have b1 := cntTo_le (fun d => d == 5) D j
              rcases HDC.out j hjN with h5 | h6
              · have r0 : W8.cell? ⟨gd, j, none⟩ = some (.int .i64 5) := by rw [HRD9.out.cell hjN, h5]; rfl
                have HC1 := Lib.hid (show cntTo (fun d => d == 5) D (j + 1) = cntTo (fun d => d == 5) D j + 1 by rw [cntTo, if_pos (by rw [h5]; rfl)])
                clear h5
                go_wp2_with fail
                go_round
                case rel => exact ⟨j + 1, by omega, by go_num, by rw [HC1.out]; go_num⟩
                case measure => simp [intOf]; omega
              · have r0 : W8.cell? ⟨gd, j, none⟩ = some (.int .i64 6) := by rw [HRD9.out.cell hjN, h6]; rfl
                have HC1 := Lib.hid (show cntTo (fun d => d == 5) D (j + 1) = cntTo (fun d => d == 5) D j by rw [cntTo, if_neg (by rw [h6]; decide)])
                clear h6
                go_wp2_with fail
                go_round
                case rel => exact ⟨j + 1, by omega, by go_num, by rw [HC1.out]⟩
                case measure => simp [intOf]; omega
            · obtain rfl : j = N := by omega
              have hd : decide (j < j) = false := decide_eq_false (by omega)
              go_wp2_with fail
              go_loop [21] (fun i => ∃ t : Nat, t ≤ q ∧ i = .int .i64 t) (fun i => q - (intOf i).toNat)
              case atStart => exact ⟨0, Nat.zero_le _, rfl⟩
              case round =>
                obtain ⟨t, ht, rfl⟩ := hrel
                by_cases htq : t < q
                · have htI : (t : Int) < (q : Int) := by omega
                  have r0 : W8.cell? ⟨gd + 1, t, none⟩ = some (.int .i64 2) := HRS8.out.cell htq
                  go_wp2_with fail
                  go_round
                  case rel => exact ⟨t + 1, by omega, by go_num⟩
                  case measure => simp [intOf]; omega
                · obtain rfl : t = q := by omega
                  have hd' : decide (t < t) = false := decide_eq_false (by omega)
                  have hz1 : (((cntTo (fun d => d == 5) D j : Nat) : Int) == 12) = true := by rw [HD5.out]; rfl
                  have hz2 : (cntTo (fun d => d == 5) D j == 12) = true := by rw [HD5.out]; rfl
                  go_wp2_with fail
                  refine (awake_any _ (HT.out.below HB8.out)).mono ?_
                  rintro e w9 ⟨rfl, hb⟩
                  have HB9 := Lib.hid (below_then HB8.out hb HB8.out.size)
                  clear hb
                  go_wp2_with fail
                  go_ret
                  exact ⟨rfl, HB9.out⟩
theorem edL_lt (n : Nat) (h1 : 1 ≤ n) (h8 : n ≤ 8) (i : Nat) (hi : i < (edL (nodes n) (840 / n) n).length) : 0 ≤ ((edL (nodes n) (840 / n) n)[i]!).a ∧ ((edL (nodes n) (840 / n) n)[i]!).a < ((edL (nodes n) (840 / n) n)[i]!).b ∧ ((edL (nodes n) (840 / n) n)[i]!).b < ((nodes n).length : Int) := by
  rw [getElem!_pos _ i hi]
  obtain ⟨t, ht, he⟩ := ((edL_facts _ _ _).2 _).1 (List.getElem_mem hi)
  obtain ⟨q0, q1, q2, q3⟩ := tris_ok h1 h8 rfl (nh n h1 h8) t ht
  rw [mem_eds] at he
  omega
theorem gridSurface_any (k : Int) (w : World) (hT : TabOk w) :
    Calls Tryd.prog 5 #[.int .i64 k] w fun e w' => e = .returned (.bool true) ∧ Below w.heap.size w w' := by
  obtain ⟨n, hn⟩ : ∃ n : Nat, (n : Int) = 1 + k % 5 := ⟨(1 + k % 5).toNat, by omega⟩
  have h1 : 1 ≤ n := by omega
  have h5 : n ≤ 5 := by omega
  obtain ⟨hs, hK, hM⟩ := surf_all n h1 h5
  have hN := nodes_count n h1 (by omega)
  have hnn : n * n ≤ 5 * 5 := Nat.mul_le_mul h5 h5
  have hnn1 : 1 * 1 ≤ n * n := Nat.mul_le_mul h1 h1
  have hN0 : 0 < (nodes n).length := by omega
  have hM0 : 0 < (edL (nodes n) (840 / n) n).length := by omega
  have hK0 : 0 < (triL (nodes n) (840 / n) n).length := by omega
  refine surface_core k (k % 5) (by omega) (by omega) (nodes n).length (edL (nodes n) (840 / n) n).length (triL (nodes n) (840 / n) n).length (fun i => (edL (nodes n) (840 / n) n)[i]!) (fun i => (triL (nodes n) (840 / n) n)[i]!) w hT
    (fun W => mod_any k 5 (by omega) (by omega) W) (fun W hW => ?_) (fun W hW => ?_) (fun W hW => ?_) (by omega) (by omega) (by omega) (by omega) ?_ (edL_lt n h1 (by omega)) hs.cells hs.sides hs.deg hs.five
  · rw [← hn]
    refine (gnodes_rd n h1 (by omega) W hW).mono ?_
    rintro e w1 ⟨g, cap, he, _, _, hb⟩
    exact ⟨g, cap, he, hb⟩
  · rw [← hn]
    refine (gedges_own n h1 (by omega) W hW).mono ?_
    rintro e w1 ⟨V, he, hown, hb⟩
    obtain ⟨g, cap, rfl, hg, _⟩ := hown.form hM0
    exact ⟨g, cap, he, RdG.of_own hown, hg, hb⟩
  · rw [← hn]
    refine (gcells_own n h1 (by omega) W hW).mono ?_
    rintro e w1 ⟨V, he, hown, hb⟩
    obtain ⟨g, cap, rfl, hg, _⟩ := hown.form hK0
    exact ⟨g, cap, he, RdT.of_own hown, hg, hb⟩
  · rw [hN, ← hn, Int.mul_assoc]
    simp
end Go.Proofs.YtcoddcdiimpndaaDoor
