/-
  The reference's Nearest and Shares.
-/
import Derived.Test.YtcoddcdiimpndaaDoorM22
set_option linter.unusedVariables false
set_option linter.unusedSimpArgs false
namespace Go.Proofs.YtcoddcdiimpndaaDoor
open Go.RowKit
attribute [local go_sem high] eqgS
/-- A row of n shares lies in block g. -/
structure RdS (w : World) (g : Nat) (E : Nat → Sh) (n : Nat) : Prop where
  lt : g < w.heap.size
  cells : ∀ i, i < n → w.cell? ⟨g, i * 2, none⟩ = some (.int .i64 (E i).node) ∧ w.cell? ⟨g, i * 2 + 1, none⟩ = some (.int .i64 (E i).w)
theorem RdS.below {w w' : World} {B g n : Nat} {E : Nat → Sh} (H : RdS w g E n) (hb : Below B w w') (hB : g < B) : RdS w' g E n :=
  ⟨Nat.lt_of_lt_of_le H.lt hb.size, fun i hi => ⟨(hb.cell (p := ⟨g, i * 2, none⟩) hB).trans (H.cells i hi).1, (hb.cell (p := ⟨g, i * 2 + 1, none⟩) hB).trans (H.cells i hi).2⟩⟩
theorem RdS.of_own {w : World} {base g cap : Nat} {L : List Sh} (h : w.ownsRow base 41 2 (.slice (some ⟨g, 0, none⟩) L.length cap) L.length (cellsS L)) : RdS w g (fun i => L[i]!) L.length :=
  ⟨(h.lt g rfl).2, fun i hi => ⟨own_cell h _ _ (cellsS_get L i hi).1, own_cell h _ _ (cellsS_get L i hi).2⟩⟩
/-- The first share of greatest weight among the first i, as the reference keeps it. -/
def best2 (E : Nat → Sh) : Nat → Sh
  | 0 => E 0
  | i + 1 => if (best2 E i).w < (E i).w then E i else best2 E i
theorem best2_eq (E : Nat → Sh) (n : Nat) (h : ∀ i, i < n → 0 ≤ (E i).w ∧ (E i).w ≤ 1000) (h0 : 0 < n) : ∀ i, i ≤ n → best2 E i = best E i ∧ 0 ≤ (best2 E i).w ∧ (best2 E i).w ≤ 1000
  | 0, _ => ⟨rfl, h 0 h0⟩
  | i + 1, hi => by
    obtain ⟨e, b0, b1⟩ := best2_eq E n h h0 i (by omega)
    obtain ⟨c0, c1⟩ := h i (by omega)
    have hw : cmpW (E i) (best E i) = (best2 E i).w - (E i).w := by
      unfold cmpW
      rw [← e]
      exact IntWalk.i64_in _ (by omega)
    simp only [best2, best]
    rw [hw]
    by_cases hlt : (best2 E i).w < (E i).w
    · rw [if_pos hlt, if_pos (by omega)]
      exact ⟨rfl, c0, c1⟩
    · rw [if_neg hlt, if_neg (by omega)]
      exact ⟨e, b0, b1⟩
theorem mem_ins (s x : Sh) : ∀ L : List Sh, s ∈ ins L x → s = x ∨ s ∈ L
  | [], h => by simp [ins] at h; exact .inl h
  | y :: L, h => by
    simp only [ins] at h
    split at h
    · rcases List.mem_cons.1 h with h | h
      · exact .inr (by simp [h])
      · rcases mem_ins s x L h with h | h
        · exact .inl h
        · exact .inr (List.mem_cons_of_mem _ h)
    · rcases List.mem_cons.1 h with h | h
      · exact .inl h
      · exact .inr h
theorem mem_shareL {s : Sh} {L : List Sh} {a b : Int} (h : s ∈ shareL L a b) : s ∈ L ∨ (s.w = b ∧ b ≠ 0) := by
  unfold shareL at h
  split at h
  · exact .inl h
  · rename_i hb
    rcases mem_ins s _ L h with h | h
    · exact .inr ⟨by rw [h], hb⟩
    · exact .inl h
theorem locS_weights (n h : Nat) (h1 : 1 ≤ n) (h8 : n ≤ 8) (hq : 840 / n = h) (hh : n * h = 840) (f a b c : Int) (hv : validB f a b c = true) : ∀ s ∈ locS (nodes n) h n f a b c, 1 ≤ s.w ∧ s.w ≤ 840 := by
  intro s hs
  obtain ⟨hf0, hf1, ha0, ha1, hb0, hb1, hc0, hc1, hsum⟩ := (validB_iff ..).1 hv
  have qa := mod_facts a h n hh h1 ha0 ha1
  have qb := mod_facts b h n hh h1 hb0 hb1
  have qc' := mod_facts c h n hh h1 hc0 hc1
  by_cases h0 : a % (h : Int) * (n : Int) + b % (h : Int) * (n : Int) + c % (h : Int) * (n : Int) = 0
  · rw [← loc_zero n h h1 h8 hq hh f a b c hv h0] at hs
    rcases mem_shareL hs with h | h
    · simp at h
    · omega
  by_cases h84 : a % (h : Int) * (n : Int) + b % (h : Int) * (n : Int) + c % (h : Int) * (n : Int) = 840
  · rw [← (loc_up n h h1 h8 hq hh f a b c hv _ _ _ rfl rfl rfl h84).2.2.2] at hs
    rcases mem_shareL hs with h | h
    · rcases mem_shareL h with h | h
      · rcases mem_shareL h with h | h
        · simp at h
        · omega
      · omega
    · omega
  · rw [← (loc_down n h h1 h8 hq hh f a b c hv _ _ _ rfl rfl rfl h0 h84).2.2.2] at hs
    rcases mem_shareL hs with h | h
    · rcases mem_shareL h with h | h
      · rcases mem_shareL h with h | h
        · simp at h
        · omega
      · omega
    · omega
set_option maxRecDepth 100000 in
set_option maxHeartbeats 2000000 in
theorem shares_true (L : List Sh) (hL : L.length ≤ 1000000) (V V' : Value) (base base' : Nat) (w : World) (h : w.ownsRow base 41 2 V L.length (cellsS L)) (h' : w.ownsRow base' 41 2 V' L.length (cellsS L)) :
    Calls Tryd.prog 17 #[V, V'] w fun e w' => e = .returned (.bool true) ∧ Below w.heap.size w w' := by
  rcases h.2 with ⟨rfl, h0⟩ | ⟨g, cap, cur, rfl, _⟩
  · obtain rfl := List.eq_nil_of_length_eq_zero h0
    obtain ⟨A, c, hV⟩ := own_slice h'
    subst hV
    clear h h'
    go_enter Tryd.func17, Tryd.ntmps17
    go_wp2_with fail
    refine wp_loop_rounds 1 ?_
    rw [rounds_succ]
    go_wp2_with fail
    go_ret
    exact ⟨rfl, Below.refl _ _⟩
  · rcases h'.2 with ⟨rfl, h0⟩ | ⟨g', cap', cur', rfl, _⟩
    · obtain rfl := List.eq_nil_of_length_eq_zero h0
      clear h h'
      go_enter Tryd.func17, Tryd.ntmps17
      go_wp2_with fail
      refine wp_loop_rounds 1 ?_
      rw [rounds_succ]
      go_wp2_with fail
      go_ret
      exact ⟨rfl, Below.refl _ _⟩
    · have HR := Lib.hid (RdS.of_own h)
      have HR' := Lib.hid (RdS.of_own h')
      change Hid (RdS w g (fun i : Nat => L[i]!) L.length) at HR
      change Hid (RdS w g' (fun i : Nat => L[i]!) L.length) at HR'
      clear h h'
      generalize (fun i : Nat => L[i]!) = E at HR HR'
      generalize L.length = n at *
      go_enter Tryd.func17, Tryd.ntmps17
      go_wp2_with fail
      go_loopw [5] (fun s5 wr => ∃ k : Nat, k ≤ n ∧ s5 = .int .i64 k ∧ Below w.heap.size w wr) (fun s5 _ => n - (intOf s5).toNat)
      case atStart => exact ⟨0, Nat.zero_le _, rfl, Below.refl _ _⟩
      case round =>
        obtain ⟨k, hk, rfl, hb⟩ := hrel
        have HB := Lib.hid hb
        have HRW := Lib.hid (HR.out.below hb HR.out.lt)
        have HRW' := Lib.hid (HR'.out.below hb HR'.out.lt)
        clear hb
        by_cases hkn : k < n
        · have hkn2 : (k : Int) < (n : Int) := by omega
          obtain ⟨q0, q1⟩ := HRW.out.cells k hkn
          obtain ⟨q2, q3⟩ := HRW'.out.cells k hkn
          have hcmp : ∀ W, (binOp .neq 41 (.agg #[.int .i64 (E k).node, .int .i64 (E k).w]) (.agg #[.int .i64 (E k).node, .int .i64 (E k).w])).run Tryd.prog W = .ok (.bool false) W := by
            intro W
            rw [neqS]
            simp
          go_wp2_with fail
          go_quiet (fail)
          go_wp2_with fail
          go_roundw
          case rel => exact ⟨k + 1, by omega, by go_num, below_drewN HB.out _⟩
          case measure => simp [intOf]; omega
        · have hkn2 : decide (k < n) = false := decide_eq_false hkn
          go_wp2_with fail
          go_ret
          exact ⟨rfl, HB.out⟩
set_option maxRecDepth 100000 in
set_option maxHeartbeats 2000000 in
theorem rnear_core (L : List Sh) (hpos : 0 < L.length) (hL : L.length ≤ 1000) (r : Int) (hr : (best2 (fun i : Nat => L[i]!) L.length).node = r) (n f a b c : Int)
    (HLOC : ∀ W : World, Calls Tryd.prog 14 #[.int .i64 n, .agg #[.int .i64 f, .int .i64 a, .int .i64 b, .int .i64 c]] W fun e w' => ∃ v, e = .returned (.tuple #[v, .int .i64 0]) ∧ w'.ownsRow W.heap.size 41 2 v L.length (cellsS L) ∧ Below W.heap.size W w') (w : World) :
    Calls Tryd.prog 16 #[.int .i64 n, .agg #[.int .i64 f, .int .i64 a, .int .i64 b, .int .i64 c]] w fun e w' =>
      e = .returned (.tuple #[.int .i64 r, .int .i64 0]) ∧ Below w.heap.size w w' := by
  have HLO := Lib.hid HLOC
  have HRR := Lib.hid hr
  change Hid ((best2 (fun i : Nat => L[i]!) L.length).node = r) at HRR
  clear HLOC hr
  go_enter Tryd.func16, Tryd.ntmps16
  go_wp2_with fail
  refine (HLO.out _).mono ?_
  rintro e w1 ⟨v, rfl, hown, hb1⟩
  obtain ⟨g, cap, rfl, hg0, hg1⟩ := hown.form hpos
  have HB1 := Lib.hid (below_then ((Below.refl _ _).alloc (Nat.le_refl _) _) hb1 (by simp))
  have HR1 := Lib.hid (RdS.of_own hown)
  change Hid (RdS w1 g (fun i : Nat => L[i]!) L.length) at HR1
  clear hown hb1
  generalize (fun i : Nat => L[i]!) = E at HRR HR1
  generalize L.length = len at *
  obtain ⟨q0, q1⟩ := HR1.out.cells 0 hpos
  have hlen : (0 : Int) < (len : Int) := by omega
  go_wp2_with fail
  clear q0 q1
  go_loopw [25] (fun s25 wr => ∃ k : Nat, k ≤ len ∧ s25 = .int .i64 k ∧ Below w1.heap.size w1 wr ∧ wr.heap[w1.heap.size]? = some (.cells #[.int .i64 (best2 E k).node, .int .i64 (best2 E k).w] 41 (0, 0))) (fun s25 _ => len - (intOf s25).toNat)
  case atStart => exact ⟨0, Nat.zero_le _, rfl, (Below.refl _ _).alloc (Nat.le_refl _) _, blk_new w1 _⟩
  case round =>
    obtain ⟨k, hk, rfl, hb, hbest⟩ := hrel
    have HB := Lib.hid hb
    have HBE := Lib.hid hbest
    have hsz := blk_lt hbest
    have m0 := blk_cell hbest 0 (.int .i64 (best2 E k).node) rfl
    have m1 := blk_cell hbest 1 (.int .i64 (best2 E k).w) rfl
    have f0 := blk_free hbest 0
    have f1 := blk_free hbest 1
    clear hb hbest
    by_cases hkn : k < len
    · have hkn2 : (k : Int) < (len : Int) := by omega
      obtain ⟨q0, q1⟩ := (HR1.out.below HB.out HR1.out.lt).cells k hkn
      by_cases hlt : (best2 E k).w < (E k).w
      · have hd : decide ((best2 E k).w < (E k).w) = true := decide_eq_true hlt
        have HN := Lib.hid (show best2 E (k + 1) = E k by simp only [best2]; rw [if_pos hlt])
        go_wp2_with fail
        go_roundw
        case rel => exact ⟨k + 1, by omega, by go_num, Below.alloc (Below.setCell (Below.setCell HB.out (by exact Nat.le_refl _) _) (by exact Nat.le_refl _) _) (by simp; omega) _, by
          rw [HN.out]
          exact blk_old _ (heap_setCell_same _ _ _ _ _ _ (heap_setCell_same _ _ _ _ _ _ HBE.out))⟩
        case measure => simp [intOf]; omega
      · have hd : decide ((best2 E k).w < (E k).w) = false := decide_eq_false hlt
        have HN := Lib.hid (show best2 E (k + 1) = best2 E k by simp only [best2]; rw [if_neg hlt])
        go_wp2_with fail
        go_roundw
        case rel => exact ⟨k + 1, by omega, by go_num, HB.out.alloc (by omega) _, by
          rw [HN.out]
          exact blk_old _ HBE.out⟩
        case measure => simp [intOf]; omega
    · have hkn2 : decide (k < len) = false := decide_eq_false hkn
      obtain rfl : k = len := by omega
      go_wp2_with fail
      go_ret2
      rw [HRR.out]
      exact ⟨rfl, below_then HB1.out HB.out HB1.out.size⟩
set_option maxHeartbeats 1000000 in
theorem rnearest_any (n f a b c : Int) (w : World) : Calls Tryd.prog 16 #[.int .i64 n, .agg #[.int .i64 f, .int .i64 a, .int .i64 b, .int .i64 c]] w fun e w' =>
    e = .returned (.tuple #[.int .i64 (gNear n f a b c), .int .i64 (gErr n f a b c)]) ∧ Below w.heap.size w w' := by
  cases hok : okB n f a b c
  · have he : gErr n f a b c = 1 := by simp [gErr, hok]
    have hl : gNear n f a b c = 0 := by simp [gNear, hok]
    have hloc := rlocate_any n f a b c (w.alloc (.cells #[.int .i64 f, .int .i64 a, .int .i64 b, .int .i64 c] 23))
    rw [he] at hloc
    rw [he, hl]
    have HL := Lib.hid hloc
    clear he hl hloc hok
    go_enter Tryd.func16, Tryd.ntmps16
    go_wp2_with fail
    refine HL.out.mono ?_
    rintro e w1 ⟨v, rfl, _, hb1⟩
    have HB1 := Lib.hid (below_then ((Below.refl _ _).alloc (Nat.le_refl _) _) hb1 (by simp))
    clear hb1
    go_wp2_with fail
    go_ret2
    exact ⟨rfl, HB1.out⟩
  · have hq : freqB n = true := (Bool.and_eq_true_iff.1 hok).1
    have hv : validB f a b c = true := (Bool.and_eq_true_iff.1 hok).2
    obtain ⟨m, rfl, h1, h8, hh⟩ := freq_nat hq
    have he : gErr m f a b c = 0 := by simp [gErr, hok]
    have hl : gLoc m f a b c = locS (nodes m) (840 / m) m f a b c := by simp [gLoc, hok]
    have hn : gNear m f a b c = nearS (locS (nodes m) (840 / m) m f a b c) := by simp [gNear, hok, hl]
    obtain ⟨hp, h3⟩ := locS_len (nodes m) (840 / m) m f a b c hv h1 hh
    have hw := locS_weights m (840 / m) h1 h8 rfl hh f a b c hv
    rw [he, hn]
    refine rnear_core (locS (nodes m) (840 / m) m f a b c) hp (by omega) _ ?_ _ _ _ _ _ (fun W => ?_) w
    · unfold nearS
      rw [(best2_eq _ _ (fun i hi => ?_) hp _ (Nat.le_refl _)).1]
      have := hw ((locS (nodes m) (840 / m) m f a b c)[i]!) (by rw [bang_eq _ i hi]; exact List.getElem_mem hi)
      omega
    · have := rlocate_any m f a b c W
      rw [he, hl] at this
      exact this
end Go.Proofs.YtcoddcdiimpndaaDoor
