/-
  The reference's Nearest and Shares.
  Laws of Locate and Nearest: the shares rise by node; the nearest node; a node is nearest to itself.
-/
import Derived.Test.YtcoddcdiimpndaaGreatDoorM38
set_option linter.unusedVariables false
set_option linter.unusedSimpArgs false
namespace Go.Proofs.YtcoddcdiimpndaaGreatDoor
open Go.RowKit
attribute [local go_sem high] eqgS
/-- A row of n shares lies in block g. -/
structure RdS (w : World) (g : Nat) (E : Nat → Sh) (n : Nat) : Prop where
  lt : g < w.heap.size
  cells : ∀ i, i < n → w.cell? ⟨g, i * 2, none⟩ = some (.int .i64 (E i).node) ∧ w.cell? ⟨g, i * 2 + 1, none⟩ = some (.int .i64 (E i).w)
theorem RdS.below {w w' : World} {B g n : Nat} {E : Nat → Sh} (H : RdS w g E n) (hb : Below B w w') (hB : g < B) : RdS w' g E n :=
  ⟨Nat.lt_of_lt_of_le H.lt hb.size, fun i hi => ⟨(hb.cell (p := ⟨g, i * 2, none⟩) hB).trans (H.cells i hi).1, (hb.cell (p := ⟨g, i * 2 + 1, none⟩) hB).trans (H.cells i hi).2⟩⟩
theorem RdS.of_own {w : World} {base g cap : Nat} {L : List Sh} (h : w.ownsRow base 54 2 (.slice (some ⟨g, 0, none⟩) L.length cap) L.length (cellsS L)) : RdS w g (fun i => L[i]!) L.length :=
  ⟨(h.lt g rfl).2, fun i hi => ⟨own_cell h _ _ (cellsS_get L i hi).1, own_cell h _ _ (cellsS_get L i hi).2⟩⟩
/-- The first share of greatest weight among the first i, as the reference keeps it. -/
def best2 (E : Nat → Sh) : Nat → Sh
  | 0 => E 0
  | i + 1 => if (best2 E i).w < (E i).w then E i else best2 E i
theorem best2_eq (E : Nat → Sh) (n : Nat) (h : ∀ i, i < n → 0 ≤ (E i).w ∧ (E i).w ≤ 1000) (h0 : 0 < n) : ∀ i, i ≤ n → best2 E i = best E i ∧ 0 ≤ (best2 E i).w ∧ (best2 E i).w ≤ 1000
  | 0, _ => ⟨rfl, h 0 h0⟩
  | i + 1, hi => by
    obtain ⟨e, b0, b1⟩ := best2_eq E n h h0 i (by omega)
    obtain ⟨c0, c1⟩ := h i (by omega)
    have hw : cmpW (E i) (best E i) = (best2 E i).w - (E i).w := by
      unfold cmpW
      rw [← e]
      exact IntWalk.i64_in _ (by omega)
    simp only [best2, best]
    rw [hw]
    by_cases hlt : (best2 E i).w < (E i).w
    · rw [if_pos hlt, if_pos (by omega)]
      exact ⟨rfl, c0, c1⟩
    · rw [if_neg hlt, if_neg (by omega)]
      exact ⟨e, b0, b1⟩
theorem mem_ins (s x : Sh) : ∀ L : List Sh, s ∈ ins L x → s = x ∨ s ∈ L
  | [], h => by simp [ins] at h; exact .inl h
  | y :: L, h => by
    simp only [ins] at h
    split at h
    · rcases List.mem_cons.1 h with h | h
      · exact .inr (by simp [h])
      · rcases mem_ins s x L h with h | h
        · exact .inl h
        · exact .inr (List.mem_cons_of_mem _ h)
    · rcases List.mem_cons.1 h with h | h
      · exact .inl h
      · exact .inr h
theorem mem_shareL {s : Sh} {L : List Sh} {a b : Int} (h : s ∈ shareL L a b) : s ∈ L ∨ (s.w = b ∧ b ≠ 0) := by
  unfold shareL at h
  split at h
  · exact .inl h
  · rename_i hb
    rcases mem_ins s _ L h with h | h
    · exact .inr ⟨by rw [h], hb⟩
    · exact .inl h
theorem locS_weights (n h : Nat) (h1 : 1 ≤ n) (h8 : n ≤ 8) (hq : 840 / n = h) (hh : n * h = 840) (f a b c : Int) (hv : validB f a b c = true) : ∀ s ∈ locS (nodes n) h n f a b c, 1 ≤ s.w ∧ s.w ≤ 840 := by
  intro s hs
  obtain ⟨hf0, hf1, ha0, ha1, hb0, hb1, hc0, hc1, hsum⟩ := (validB_iff ..).1 hv
  have qa := mod_facts a h n hh h1 ha0 ha1
  have qb := mod_facts b h n hh h1 hb0 hb1
  have qc' := mod_facts c h n hh h1 hc0 hc1
  by_cases h0 : a % (h : Int) * (n : Int) + b % (h : Int) * (n : Int) + c % (h : Int) * (n : Int) = 0
  · rw [← loc_zero n h h1 h8 hq hh f a b c hv h0] at hs
    rcases mem_shareL hs with h | h
    · simp at h
    · omega
  by_cases h84 : a % (h : Int) * (n : Int) + b % (h : Int) * (n : Int) + c % (h : Int) * (n : Int) = 840
  · rw [← (loc_up n h h1 h8 hq hh f a b c hv _ _ _ rfl rfl rfl h84).2.2.2] at hs
    rcases mem_shareL hs with h | h
    · rcases mem_shareL h with h | h
      · rcases mem_shareL h with h | h
        · simp at h
        · omega
      · omega
    · omega
  · rw [← (loc_down n h h1 h8 hq hh f a b c hv _ _ _ rfl rfl rfl h0 h84).2.2.2] at hs
    rcases mem_shareL hs with h | h
    · rcases mem_shareL h with h | h
      · rcases mem_shareL h with h | h
        · simp at h
        · omega
      · omega
    · omega
set_option maxRecDepth 100000 in
set_option maxHeartbeats 2000000 in
theorem shares_true (L : List Sh) (hL : L.length ≤ 1000000) (V V' : Value) (base base' : Nat) (w : World) (h : w.ownsRow base 54 2 V L.length (cellsS L)) (h' : w.ownsRow base' 54 2 V' L.length (cellsS L)) :
    Calls Tryz.prog 30 #[V, V'] w fun e w' => e = .returned (.bool true) ∧ Below w.heap.size w w' := by
  rcases h.2 with ⟨rfl, h0⟩ | ⟨g, cap, cur, rfl, _⟩
  · obtain rfl := List.eq_nil_of_length_eq_zero h0
    obtain ⟨A, c, hV⟩ := own_slice h'
    subst hV
    clear h h'
    go_enter Tryz.func30, Tryz.ntmps30
    go_wp2_with fail
    refine wp_loop_rounds 1 ?_
    rw [rounds_succ]
    go_wp2_with fail
    go_ret
    exact ⟨rfl, Below.refl _ _⟩
  · rcases h'.2 with ⟨rfl, h0⟩ | ⟨g', cap', cur', rfl, _⟩
    · obtain rfl := List.eq_nil_of_length_eq_zero h0
      clear h h'
      go_enter Tryz.func30, Tryz.ntmps30
      go_wp2_with fail
      refine wp_loop_rounds 1 ?_
      rw [rounds_succ]
      go_wp2_with fail
      go_ret
      exact ⟨rfl, Below.refl _ _⟩
    · have HR := Lib.hid (RdS.of_own h)
      have HR' := Lib.hid (RdS.of_own h')
      change Hid (RdS w g (fun i : Nat => L[i]!) L.length) at HR
      change Hid (RdS w g' (fun i : Nat => L[i]!) L.length) at HR'
      clear h h'
      generalize (fun i : Nat => L[i]!) = E at HR HR'
      generalize L.length = n at *
      go_enter Tryz.func30, Tryz.ntmps30
      go_wp2_with fail
      go_loopw [5] (fun s5 wr => ∃ k : Nat, k ≤ n ∧ s5 = .int .i64 k ∧ Below w.heap.size w wr) (fun s5 _ => n - (intOf s5).toNat)
      case atStart => exact ⟨0, Nat.zero_le _, rfl, Below.refl _ _⟩
      case round =>
        obtain ⟨k, hk, rfl, hb⟩ := hrel
        have HB := Lib.hid hb
        have HRW := Lib.hid (HR.out.below hb HR.out.lt)
        have HRW' := Lib.hid (HR'.out.below hb HR'.out.lt)
        clear hb
        by_cases hkn : k < n
        · have hkn2 : (k : Int) < (n : Int) := by omega
          obtain ⟨q0, q1⟩ := HRW.out.cells k hkn
          obtain ⟨q2, q3⟩ := HRW'.out.cells k hkn
          have hcmp : ∀ W, (binOp .neq 54 (.agg #[.int .i64 (E k).node, .int .i64 (E k).w]) (.agg #[.int .i64 (E k).node, .int .i64 (E k).w])).run Tryz.prog W = .ok (.bool false) W := by
            intro W
            rw [neqS]
            simp
          go_wp2_with fail
          go_quiet (fail)
          go_wp2_with fail
          go_roundw
          case rel => exact ⟨k + 1, by omega, by go_num, below_drewN HB.out _⟩
          case measure => simp [intOf]; omega
        · have hkn2 : decide (k < n) = false := decide_eq_false hkn
          go_wp2_with fail
          go_ret
          exact ⟨rfl, HB.out⟩
set_option maxRecDepth 100000 in
set_option maxHeartbeats 2000000 in
theorem rnear_core (L : List Sh) (hpos : 0 < L.length) (hL : L.length ≤ 1000) (r : Int) (hr : (best2 (fun i : Nat => L[i]!) L.length).node = r) (n f a b c : Int)
    (HLOC : ∀ W : World, Calls Tryz.prog 87 #[.int .i64 n, .agg #[.int .i64 f, .int .i64 a, .int .i64 b, .int .i64 c]] W fun e w' => ∃ v, e = .returned (.tuple #[v, .int .i64 0]) ∧ w'.ownsRow W.heap.size 54 2 v L.length (cellsS L) ∧ Below W.heap.size W w') (w : World) :
    Calls Tryz.prog 48 #[.int .i64 n, .agg #[.int .i64 f, .int .i64 a, .int .i64 b, .int .i64 c]] w fun e w' =>
      e = .returned (.tuple #[.int .i64 r, .int .i64 0]) ∧ Below w.heap.size w w' := by
  have HLO := Lib.hid HLOC
  have HRR := Lib.hid hr
  change Hid ((best2 (fun i : Nat => L[i]!) L.length).node = r) at HRR
  clear HLOC hr
  go_enter Tryz.func48, Tryz.ntmps48
  go_wp2_with fail
  refine (HLO.out _).mono ?_
  rintro e w1 ⟨v, rfl, hown, hb1⟩
  obtain ⟨g, cap, rfl, hg0, hg1⟩ := hown.form hpos
  have HB1 := Lib.hid (below_then ((Below.refl _ _).alloc (Nat.le_refl _) _) hb1 (by simp))
  have HR1 := Lib.hid (RdS.of_own hown)
  change Hid (RdS w1 g (fun i : Nat => L[i]!) L.length) at HR1
  clear hown hb1
  generalize (fun i : Nat => L[i]!) = E at HRR HR1
  generalize L.length = len at *
  obtain ⟨q0, q1⟩ := HR1.out.cells 0 hpos
  have hlen : (0 : Int) < (len : Int) := by omega
  go_wp2_with fail
  clear q0 q1
  go_loopw [25] (fun s25 wr => ∃ k : Nat, k ≤ len ∧ s25 = .int .i64 k ∧ Below w1.heap.size w1 wr ∧ wr.heap[w1.heap.size]? = some (.cells #[.int .i64 (best2 E k).node, .int .i64 (best2 E k).w] 54 (0, 0))) (fun s25 _ => len - (intOf s25).toNat)
  case atStart => exact ⟨0, Nat.zero_le _, rfl, (Below.refl _ _).alloc (Nat.le_refl _) _, blk_new w1 _⟩
  case round =>
    obtain ⟨k, hk, rfl, hb, hbest⟩ := hrel
    have HB := Lib.hid hb
    have HBE := Lib.hid hbest
    have hsz := blk_lt hbest
    have m0 := blk_cell hbest 0 (.int .i64 (best2 E k).node) rfl
    have m1 := blk_cell hbest 1 (.int .i64 (best2 E k).w) rfl
    have f0 := blk_free hbest 0
    have f1 := blk_free hbest 1
    clear hb hbest
    by_cases hkn : k < len
    · have hkn2 : (k : Int) < (len : Int) := by omega
      obtain ⟨q0, q1⟩ := (HR1.out.below HB.out HR1.out.lt).cells k hkn
      by_cases hlt : (best2 E k).w < (E k).w
      · have hd : decide ((best2 E k).w < (E k).w) = true := decide_eq_true hlt
        have HN := Lib.hid (show best2 E (k + 1) = E k by simp only [best2]; rw [if_pos hlt])
        go_wp2_with fail
        go_roundw
        case rel => exact ⟨k + 1, by omega, by go_num, Below.alloc (Below.setCell (Below.setCell HB.out (by exact Nat.le_refl _) _) (by exact Nat.le_refl _) _) (by simp; omega) _, by
          rw [HN.out]
          exact blk_old _ (heap_setCell_same _ _ _ _ _ _ (heap_setCell_same _ _ _ _ _ _ HBE.out))⟩
        case measure => simp [intOf]; omega
      · have hd : decide ((best2 E k).w < (E k).w) = false := decide_eq_false hlt
        have HN := Lib.hid (show best2 E (k + 1) = best2 E k by simp only [best2]; rw [if_neg hlt])
        go_wp2_with fail
        go_roundw
        case rel => exact ⟨k + 1, by omega, by go_num, HB.out.alloc (by omega) _, by
          rw [HN.out]
          exact blk_old _ HBE.out⟩
        case measure => simp [intOf]; omega
    · have hkn2 : decide (k < len) = false := decide_eq_false hkn
      obtain rfl : k = len := by omega
      go_wp2_with fail
      go_ret2
      rw [HRR.out]
      exact ⟨rfl, below_then HB1.out HB.out HB1.out.size⟩
set_option maxHeartbeats 1000000 in
theorem rnearest_any (n f a b c : Int) (w : World) : Calls Tryz.prog 48 #[.int .i64 n, .agg #[.int .i64 f, .int .i64 a, .int .i64 b, .int .i64 c]] w fun e w' =>
    e = .returned (.tuple #[.int .i64 (gNear n f a b c), .int .i64 (gErr n f a b c)]) ∧ Below w.heap.size w w' := by
  cases hok : okB n f a b c
  · have he : gErr n f a b c = 1 := by simp [gErr, hok]
    have hl : gNear n f a b c = 0 := by simp [gNear, hok]
    have hloc := rlocate_any n f a b c (w.alloc (.cells #[.int .i64 f, .int .i64 a, .int .i64 b, .int .i64 c] 32))
    rw [he] at hloc
    rw [he, hl]
    have HL := Lib.hid hloc
    clear he hl hloc hok
    go_enter Tryz.func48, Tryz.ntmps48
    go_wp2_with fail
    refine HL.out.mono ?_
    rintro e w1 ⟨v, rfl, _, hb1⟩
    have HB1 := Lib.hid (below_then ((Below.refl _ _).alloc (Nat.le_refl _) _) hb1 (by simp))
    clear hb1
    go_wp2_with fail
    go_ret2
    exact ⟨rfl, HB1.out⟩
  · have hq : freqB n = true := (Bool.and_eq_true_iff.1 hok).1
    have hv : validB f a b c = true := (Bool.and_eq_true_iff.1 hok).2
    obtain ⟨m, rfl, h1, h8, hh⟩ := freq_nat hq
    have he : gErr m f a b c = 0 := by simp [gErr, hok]
    have hl : gLoc m f a b c = locS (nodes m) (840 / m) m f a b c := by simp [gLoc, hok]
    have hn : gNear m f a b c = nearS (locS (nodes m) (840 / m) m f a b c) := by simp [gNear, hok, hl]
    obtain ⟨hp, h3⟩ := locS_len (nodes m) (840 / m) m f a b c hv h1 hh
    have hw := locS_weights m (840 / m) h1 h8 rfl hh f a b c hv
    rw [he, hn]
    refine rnear_core (locS (nodes m) (840 / m) m f a b c) hp (by omega) _ ?_ _ _ _ _ _ (fun W => ?_) w
    · unfold nearS
      rw [(best2_eq _ _ (fun i hi => ?_) hp _ (Nat.le_refl _)).1]
      have := hw ((locS (nodes m) (840 / m) m f a b c)[i]!) (by rw [bang_eq _ i hi]; exact List.getElem_mem hi)
      omega
    · have := rlocate_any m f a b c W
      rw [he, hl] at this
      exact this
end Go.Proofs.YtcoddcdiimpndaaGreatDoor
set_option linter.unusedVariables false
set_option linter.unusedSimpArgs false
namespace Go.Proofs.YtcoddcdiimpndaaGreatDoor
open Go.RowKit
def risesS (L : List Sh) : Prop := L.Pairwise (fun x y => x.node < y.node)
theorem ins_mem (s x : Sh) : ∀ L : List Sh, s ∈ ins L x ↔ s = x ∨ s ∈ L
  | [] => by simp [ins]
  | y :: L => by
    simp only [ins]
    split
    · rw [List.mem_cons, List.mem_cons, ins_mem s x L]
      constructor
      · rintro (h | h | h)
        · exact .inr (.inl h)
        · exact .inl h
        · exact .inr (.inr h)
      · rintro (h | h | h)
        · exact .inr (.inl h)
        · exact .inl h
        · exact .inr (.inr h)
    · rw [List.mem_cons]
theorem ins_rises (x : Sh) : ∀ L : List Sh, risesS L → (∀ y ∈ L, y.node ≠ x.node) → risesS (ins L x)
  | [], _, _ => by simp [ins, risesS]
  | y :: L, h, hn => by
    obtain ⟨h1, h2⟩ := List.pairwise_cons.1 h
    simp only [ins]
    split
    · rename_i hlt
      refine List.pairwise_cons.2 ⟨fun z hz => ?_, ins_rises x L h2 (fun z hz => hn z (List.mem_cons_of_mem _ hz))⟩
      rcases (ins_mem z x L).1 hz with rfl | hz
      · exact hlt
      · exact h1 z hz
    · rename_i hge
      have hne := hn y (by simp)
      refine List.pairwise_cons.2 ⟨fun z hz => ?_, h⟩
      rcases List.mem_cons.1 hz with rfl | hz
      · omega
      · have := h1 z hz; omega
theorem shareL_mem (L : List Sh) (a b : Int) (s : Sh) : s ∈ shareL L a b ↔ s ∈ L ∨ (s = ⟨a, b⟩ ∧ b ≠ 0) := by
  unfold shareL
  split
  · rename_i h; simp [h]
  · rename_i h
    rw [ins_mem]
    constructor
    · rintro (h1 | h1)
      · exact .inr ⟨h1, h⟩
      · exact .inl h1
    · rintro (h1 | ⟨h1, _⟩)
      · exact .inr h1
      · exact .inl h1
theorem shareL_rises {L : List Sh} {a b : Int} (h : risesS L) (hn : ∀ y ∈ L, y.node ≠ a) : risesS (shareL L a b) := by
  unfold shareL
  split
  · exact h
  · exact ins_rises _ L h hn
theorem chain_rises (n0 n1 n2 w0 w1 w2 : Int) (d1 : n0 ≠ n1) (d2 : n0 ≠ n2) (d3 : n1 ≠ n2) : risesS (shareL (shareL (shareL [] n0 w0) n1 w1) n2 w2) := by
  refine shareL_rises (shareL_rises (shareL_rises List.Pairwise.nil (by simp)) ?_) ?_
  · intro y hy
    rcases (shareL_mem _ _ _ _).1 hy with h | ⟨rfl, _⟩
    · simp at h
    · exact d1
  · intro y hy
    rcases (shareL_mem _ _ _ _).1 hy with h | ⟨rfl, _⟩
    · rcases (shareL_mem _ _ _ _).1 h with h | ⟨rfl, _⟩
      · simp at h
      · exact d2
    · exact d3
/-- A corner of a small triangle. -/
structure Cn where
  x : Int
  y : Int
  z : Int
/-- What Locate returns: shares of three corners on the grid, of which a linear function of the coordinates is reproduced. -/
structure LocForm (n h : Nat) (f a b c : Int) (q0 q1 q2 : Cn) (w0 w1 w2 : Int) : Prop where
  v0 : validB f q0.x q0.y q0.z = true ∧ (h : Int) ∣ q0.x ∧ (h : Int) ∣ q0.y ∧ (h : Int) ∣ q0.z
  v1 : validB f q1.x q1.y q1.z = true ∧ (h : Int) ∣ q1.x ∧ (h : Int) ∣ q1.y ∧ (h : Int) ∣ q1.z
  v2 : validB f q2.x q2.y q2.z = true ∧ (h : Int) ∣ q2.x ∧ (h : Int) ∣ q2.y ∧ (h : Int) ∣ q2.z
  d01 : ¬ (q0.x = q1.x ∧ q0.y = q1.y ∧ q0.z = q1.z)
  d02 : ¬ (q0.x = q2.x ∧ q0.y = q2.y ∧ q0.z = q2.z)
  d12 : ¬ (q1.x = q2.x ∧ q1.y = q2.y ∧ q1.z = q2.z)
  p0 : 0 ≤ w0 ∧ w0 ≤ 840
  p1 : 0 ≤ w1 ∧ w1 ≤ 840
  p2 : 0 ≤ w2 ∧ w2 ≤ 840
  sum : w0 + w1 + w2 = 840
  lx : w0 * q0.x + w1 * q1.x + w2 * q2.x = 840 * a
  ly : w0 * q0.y + w1 * q1.y + w2 * q2.y = 840 * b
  lz : w0 * q0.z + w1 * q1.z + w2 * q2.z = 840 * c
  eq : locS (nodes n) h n f a b c = shareL (shareL (shareL [] (atF n f q0.x q0.y q0.z) w0) (atF n f q1.x q1.y q1.z) w1) (atF n f q2.x q2.y q2.z) w2
section
variable (n h : Nat) (h1 : 1 ≤ n) (h8 : n ≤ 8) (hq : 840 / n = h) (hh : n * h = 840) (f : Int)
include h1 h8 hq hh
theorem loc_cases (a b c : Int) (hv : validB f a b c = true) :
    ((h : Int) ∣ a ∧ (h : Int) ∣ b ∧ (h : Int) ∣ c ∧ locS (nodes n) h n f a b c = [⟨atF n f a b c, 840⟩]) ∨ ∃ q0 q1 q2 w0 w1 w2, LocForm n h f a b c q0 q1 q2 w0 w1 w2 := by
  obtain ⟨hf0, hf1, ha0, ha1, hb0, hb1, hc0, hc1, hsum⟩ := (validB_iff ..).1 hv
  have hp : 0 < h := Nat.pos_of_ne_zero (fun e => by rw [e, Nat.mul_zero] at hh; exact absurd hh (by decide))
  have qa := mod_facts a h n hh h1 ha0 ha1
  have qb := mod_facts b h n hh h1 hb0 hb1
  have qc' := mod_facts c h n hh h1 hc0 hc1
  have hz : ∀ x : Int, x * (n : Int) = 0 → x = 0 := fun x hx => by
    rcases Int.mul_eq_zero.1 hx with h | h
    · exact h
    · omega
  have hn840 : (n : Int) * (h : Int) = 840 := by rw [← Int.natCast_mul, hh]; rfl
  by_cases h0 : a % (h : Int) * (n : Int) + b % (h : Int) * (n : Int) + c % (h : Int) * (n : Int) = 0
  · left
    have ea := Int.dvd_of_emod_eq_zero (hz (a % (h : Int)) (by omega))
    have eb := Int.dvd_of_emod_eq_zero (hz (b % (h : Int)) (by omega))
    have ec := Int.dvd_of_emod_eq_zero (hz (c % (h : Int)) (by omega))
    refine ⟨ea, eb, ec, ?_⟩
    rw [← loc_zero n h h1 h8 hq hh f a b c hv h0]
    rfl
  · right
    obtain ⟨_, _, sa0, sa1, sa4, _, da, ea⟩ := rem_facts a h n hh h1 ha0 ha1
    obtain ⟨_, _, sb0, sb1, sb4, _, db, eb⟩ := rem_facts b h n hh h1 hb0 hb1
    obtain ⟨_, _, sc0, sc1, sc4, _, dc, ec⟩ := rem_facts c h n hh h1 hc0 hc1
    have dh : (h : Int) ∣ (h : Int) := Int.dvd_refl _
    have da' := Int.dvd_add da dh
    have db' := Int.dvd_add db dh
    have dc' := Int.dvd_add dc dh
    have hlu := loc_up n h h1 h8 hq hh f a b c hv _ _ _ rfl rfl rfl
    have hld := loc_down n h h1 h8 hq hh f a b c hv _ _ _ rfl rfl rfl h0
    have mc := mod_cases a b c h n hh h1 hsum ha0 hb0 hc0
    generalize a / (h : Int) * (h : Int) = ra at *
    generalize b / (h : Int) * (h : Int) = rb at *
    generalize c / (h : Int) * (h : Int) = rc at *
    generalize a % (h : Int) = xa at *
    generalize b % (h : Int) = xb at *
    generalize c % (h : Int) = xc at *
    have hsx : xa * (n : Int) + xb * (n : Int) + xc * (n : Int) = (xa + xb + xc) * (n : Int) := by rw [Int.add_mul, Int.add_mul]
    have ka : xa * (n : Int) * (h : Int) = 840 * xa := by rw [Int.mul_assoc, hn840, Int.mul_comm]
    have kb : xb * (n : Int) * (h : Int) = 840 * xb := by rw [Int.mul_assoc, hn840, Int.mul_comm]
    have kc : xc * (n : Int) * (h : Int) = 840 * xc := by rw [Int.mul_assoc, hn840, Int.mul_comm]
    by_cases h84 : xa * (n : Int) + xb * (n : Int) + xc * (n : Int) = 840
    · obtain ⟨v0, v1, v2, he⟩ := hlu h84
      refine ⟨⟨ra + h, rb, rc⟩, ⟨ra, rb + h, rc⟩, ⟨ra, rb, rc + h⟩, xa * n, xb * n, xc * n, ⟨v0, da', db, dc⟩, ⟨v1, da, db', dc⟩, ⟨v2, da, db, dc'⟩, by simp only; omega, by simp only; omega, by simp only; omega, ⟨qa.2.2.1, qa.2.2.2.1⟩, ⟨qb.2.2.1, qb.2.2.2.1⟩, ⟨qc'.2.2.1, qc'.2.2.2.1⟩, h84, ?_, ?_, ?_, he.symm⟩
      · simp only
        rw [Int.mul_add, ka, show xa * (n : Int) * ra + 840 * xa + xb * (n : Int) * ra + xc * (n : Int) * ra = (xa * (n : Int) + xb * (n : Int) + xc * (n : Int)) * ra + 840 * xa from by rw [Int.add_mul, Int.add_mul]; omega, h84]
        omega
      · simp only
        rw [Int.mul_add, kb, show xa * (n : Int) * rb + (xb * (n : Int) * rb + 840 * xb) + xc * (n : Int) * rb = (xa * (n : Int) + xb * (n : Int) + xc * (n : Int)) * rb + 840 * xb from by rw [Int.add_mul, Int.add_mul]; omega, h84]
        omega
      · simp only
        rw [Int.mul_add, kc, show xa * (n : Int) * rc + xb * (n : Int) * rc + (xc * (n : Int) * rc + 840 * xc) = (xa * (n : Int) + xb * (n : Int) + xc * (n : Int)) * rc + 840 * xc from by rw [Int.add_mul, Int.add_mul]; omega, h84]
        omega
    · obtain ⟨v0, v1, v2, he⟩ := hld h84
      have h168 : xa * (n : Int) + xb * (n : Int) + xc * (n : Int) = 1680 := by
        rw [hsx] at h0 h84 ⊢
        rcases mc with hr | hr | hr
        · rw [hr, Int.zero_mul] at h0; exact absurd rfl h0
        · rw [hr, Int.mul_comm, hn840] at h84; exact absurd rfl h84
        · rw [hr, Int.mul_assoc, Int.mul_comm (h : Int), hn840]; rfl
      refine ⟨⟨ra, rb + h, rc + h⟩, ⟨ra + h, rb, rc + h⟩, ⟨ra + h, rb + h, rc⟩, 840 - xa * n, 840 - xb * n, 840 - xc * n, ⟨v0, da, db', dc'⟩, ⟨v1, da', db, dc'⟩, ⟨v2, da', db', dc⟩, by simp only; omega, by simp only; omega, by simp only; omega, by omega, by omega, by omega, by omega, ?_, ?_, ?_, he.symm⟩
      · simp only
        rw [Int.mul_add, Int.mul_add, Int.sub_mul, Int.sub_mul, Int.sub_mul, Int.sub_mul, Int.sub_mul, kb, kc]
        have e : xa * (n : Int) * ra + xb * (n : Int) * ra + xc * (n : Int) * ra = 1680 * ra := by rw [← Int.add_mul, ← Int.add_mul, h168]
        have hr := mc
        have hrem : xa + xb + xc = 2 * h := by
          rcases mc with hr | hr | hr
          · rw [hsx, hr, Int.zero_mul] at h0; exact absurd rfl h0
          · rw [hsx, hr, Int.mul_comm, hn840] at h84; exact absurd rfl h84
          · exact hr
        omega
      · simp only
        rw [Int.mul_add, Int.mul_add, Int.sub_mul, Int.sub_mul, Int.sub_mul, Int.sub_mul, Int.sub_mul, ka, kc]
        have e : xa * (n : Int) * rb + xb * (n : Int) * rb + xc * (n : Int) * rb = 1680 * rb := by rw [← Int.add_mul, ← Int.add_mul, h168]
        have hrem : xa + xb + xc = 2 * h := by
          rcases mc with hr | hr | hr
          · rw [hsx, hr, Int.zero_mul] at h0; exact absurd rfl h0
          · rw [hsx, hr, Int.mul_comm, hn840] at h84; exact absurd rfl h84
          · exact hr
        omega
      · simp only
        rw [Int.mul_add, Int.mul_add, Int.sub_mul, Int.sub_mul, Int.sub_mul, Int.sub_mul, Int.sub_mul, ka, kb]
        have e : xa * (n : Int) * rc + xb * (n : Int) * rc + xc * (n : Int) * rc = 1680 * rc := by rw [← Int.add_mul, ← Int.add_mul, h168]
        have hrem : xa + xb + xc = 2 * h := by
          rcases mc with hr | hr | hr
          · rw [hsx, hr, Int.zero_mul] at h0; exact absurd rfl h0
          · rw [hsx, hr, Int.mul_comm, hn840] at h84; exact absurd rfl h84
          · exact hr
        omega
theorem loc_rises (a b c : Int) (hv : validB f a b c = true) : risesS (locS (nodes n) h n f a b c) := by
  rcases loc_cases n h h1 h8 hq hh f a b c hv with ⟨_, _, _, e⟩ | ⟨q0, q1, q2, w0, w1, w2, F⟩
  · rw [e]; simp [risesS]
  · rw [F.eq]
    obtain ⟨u0, a0, b0, c0⟩ := F.v0
    obtain ⟨u1, a1, b1, c1⟩ := F.v1
    obtain ⟨u2, a2, b2, c2⟩ := F.v2
    exact chain_rises _ _ _ _ _ _ (corner_ne n h h1 h8 hq hh f _ _ _ _ _ _ u0 u1 a0 b0 c0 a1 b1 c1 F.d01) (corner_ne n h h1 h8 hq hh f _ _ _ _ _ _ u0 u2 a0 b0 c0 a2 b2 c2 F.d02) (corner_ne n h h1 h8 hq hh f _ _ _ _ _ _ u1 u2 a1 b1 c1 a2 b2 c2 F.d12)
end
def mostTo (E : Nat → Sh) : Nat → Int
  | 0 => 0
  | i + 1 => if mostTo E i < (E i).w then (E i).w else mostTo E i
def ownTo (k : Int) (E : Nat → Sh) : Nat → Int
  | 0 => 0
  | i + 1 => if (E i).node = k then (E i).w else ownTo k E i
theorem best_facts (E : Nat → Sh) (n : Nat) (hw : ∀ i, i < n → 1 ≤ (E i).w) : ∀ i, 0 < i → i ≤ n → ∃ j, j < i ∧ best2 E i = E j ∧ mostTo E i = (E j).w ∧ (∀ t, t < i → (E t).w ≤ (E j).w) ∧ ∀ t, t < j → (E t).w < (E j).w
  | 0, h, _ => absurd h (Nat.lt_irrefl 0)
  | 1, _, hn => by
    have h0 := hw 0 (by omega)
    have hm : mostTo E 1 = (E 0).w := by
      have : mostTo E 1 = if (0 : Int) < (E 0).w then (E 0).w else 0 := rfl
      rw [this, if_pos (by omega)]
    refine ⟨0, by omega, by simp [best2], hm, fun t ht => ?_, fun t ht => absurd ht (Nat.not_lt_zero _)⟩
    obtain rfl : t = 0 := by omega
    exact Int.le_refl _
  | i + 2, _, hn => by
    obtain ⟨j, hj, hb, hm, h1, h2⟩ := best_facts E n hw (i + 1) (by omega) (by omega)
    by_cases hlt : (E j).w < (E (i + 1)).w
    · refine ⟨i + 1, by omega, ?_, ?_, ?_, ?_⟩
      · rw [best2, hb, if_pos hlt]
      · rw [mostTo, hm, if_pos hlt]
      · intro t ht
        rcases Nat.lt_or_ge t (i + 1) with h | h
        · have := h1 t h; omega
        · obtain rfl : t = i + 1 := by omega
          exact Int.le_refl _
      · intro t ht
        have := h1 t ht
        omega
    · refine ⟨j, by omega, ?_, ?_, ?_, h2⟩
      · rw [best2, hb, if_neg hlt]
      · rw [mostTo, hm, if_neg hlt]
      · intro t ht
        rcases Nat.lt_or_ge t (i + 1) with h | h
        · exact h1 t h
        · obtain rfl : t = i + 1 := by omega
          omega
theorem own_at (E : Nat → Sh) (n : Nat) (j : Nat) (hd : ∀ i, i < n → i ≠ j → (E i).node ≠ (E j).node) : ∀ i, j < i → i ≤ n → ownTo (E j).node E i = (E j).w
  | 0, h, _ => absurd h (Nat.not_lt_zero _)
  | i + 1, h, hn => by
    by_cases hij : i = j
    · subst hij
      simp [ownTo]
    · rw [ownTo, if_neg (hd i (by omega) hij)]
      exact own_at E n j hd i (by omega) (by omega)
/-- Of shares that rise: the nearest one has the greatest weight, and no earlier one has it. -/
theorem near_facts (L : List Sh) (hp : 0 < L.length) (hr : risesS L) (hw : ∀ s ∈ L, 1 ≤ s.w ∧ s.w ≤ 840) :
    ownTo (nearS L) (fun i => L[i]!) L.length = mostTo (fun i => L[i]!) L.length ∧ 0 < mostTo (fun i => L[i]!) L.length ∧ ∀ i, i < L.length → (L[i]!).w = mostTo (fun i => L[i]!) L.length → nearS L ≤ (L[i]!).node := by
  have hwE : ∀ i, i < L.length → 1 ≤ (L[i]!).w ∧ (L[i]!).w ≤ 840 := fun i hi => hw _ (by rw [bang_eq _ i hi]; exact List.getElem_mem hi)
  have hrE : ∀ i j, i < j → j < L.length → (L[i]!).node < (L[j]!).node := fun i j hij hj => by
    rw [bang_eq _ i (by omega), bang_eq _ j hj]
    exact List.pairwise_iff_getElem.1 hr i j (by omega) hj hij
  have hb2 := (best2_eq (fun i => L[i]!) L.length (fun i hi => by have := hwE i hi; exact ⟨by omega, by omega⟩) hp L.length (Nat.le_refl _)).1
  obtain ⟨j, hj, hb, hm, h1, h2⟩ := best_facts (fun i => L[i]!) L.length (fun i hi => (hwE i hi).1) L.length hp (Nat.le_refl _)
  have hk : nearS L = (L[j]!).node := by
    unfold nearS
    rw [← hb2, hb]
  have ho := own_at (fun i => L[i]!) L.length j (fun i hi hne => by
    rcases Nat.lt_or_gt_of_ne hne with h | h
    · have h3 := hrE i j h hj; exact fun e => by have e' : (L[i]!).node = (L[j]!).node := e; omega
    · have h3 := hrE j i h hi; exact fun e => by have e' : (L[i]!).node = (L[j]!).node := e; omega) L.length hj (Nat.le_refl _)
  refine ⟨by rw [hk, hm]; exact ho, by rw [hm]; exact Int.lt_of_lt_of_le (by omega) (hwE j hj).1, fun i hi he => ?_⟩
  rw [hk]
  rcases Nat.lt_or_ge i j with h | h
  · have h3 : (L[i]!).w < (L[j]!).w := h2 i h
    have he' : (L[i]!).w = (L[j]!).w := he.trans hm
    omega
  · rcases Nat.eq_or_lt_of_le h with h | h
    · subst h; omega
    · have := hrE j i h hi; omega
theorem node_parts (n h : Nat) (hq : 840 / n = h) {p : Pl} (hp : p ∈ nodes n) : isNode p = true ∧ (h : Int) ∣ p.a ∧ (h : Int) ∣ p.b ∧ (h : Int) ∣ p.c := by
  subst hq
  unfold nodes nodesTo colTo rowTo at hp
  simp only [List.mem_flatMap, List.mem_range, List.mem_filter, List.mem_map] at hp
  obtain ⟨f, _, a, _, ⟨b, _, rfl⟩, hn⟩ := hp
  exact ⟨hn, ⟨_, Int.mul_comm _ _⟩, ⟨_, Int.mul_comm _ _⟩, ⟨_, Int.mul_comm _ _⟩⟩
theorem node_norm {p : Pl} (h : isNode p = true) : normPl p.f p.a p.b p.c = p := by
  unfold isNode qEq at h
  simp only [Bool.and_eq_true, beq_iff_eq] at h
  exact pl_ext h.1 h.2.1 h.2.2.1 h.2.2.2
/-- A node is located at itself, with the whole weight, and is nearest to itself. -/
theorem node_loc (n m : Nat) (h1 : 1 ≤ n) (h8 : n ≤ 8) (hm : m < (nodes n).length) : gLoc n (nodes n)[m]!.f (nodes n)[m]!.a (nodes n)[m]!.b (nodes n)[m]!.c = [⟨m, 840⟩] ∧ gNear n (nodes n)[m]!.f (nodes n)[m]!.a (nodes n)[m]!.b (nodes n)[m]!.c = m ∧ gErr n (nodes n)[m]!.f (nodes n)[m]!.a (nodes n)[m]!.b (nodes n)[m]!.c = 0 := by
  have hh : n * (840 / n) = 840 := by
    have : n = 1 ∨ n = 2 ∨ n = 3 ∨ n = 4 ∨ n = 5 ∨ n = 6 ∨ n = 7 ∨ n = 8 := by omega
    rcases this with rfl | rfl | rfl | rfl | rfl | rfl | rfl | rfl <;> decide
  have hin : (nodes n)[m]! ∈ nodes n := by rw [bang_eq _ m hm]; exact List.getElem_mem hm
  have hidx : ix (nodes n) (nodes n)[m]! = m := by
    unfold ix
    rw [if_pos hin, bang_eq _ m hm]
    exact idx_at_eq _ m (nodes_nodup n h1 h8) hm
  have hv := nodes_valid n h1 h8 _ hin
  obtain ⟨hi, da, db, dc⟩ := node_parts n (840 / n) rfl hin
  have hnp := node_norm hi
  generalize (nodes n)[m]! = p at *
  have hfr : freqB n = true := by simp [freqB]; omega
  have hok : okB n p.f p.a p.b p.c = true := by simp [okB, hfr, hv]
  have e0 : p.a % ((840 / n : Nat) : Int) * (n : Int) + p.b % ((840 / n : Nat) : Int) * (n : Int) + p.c % ((840 / n : Nat) : Int) * (n : Int) = 0 := by
    rw [Int.emod_eq_zero_of_dvd da, Int.emod_eq_zero_of_dvd db, Int.emod_eq_zero_of_dvd dc]
    simp
  have hl : locS (nodes n) (840 / n) n p.f p.a p.b p.c = [⟨m, 840⟩] := by
    rw [← loc_zero n (840 / n) h1 h8 rfl hh p.f p.a p.b p.c hv e0]
    have : atF n p.f p.a p.b p.c = m := by
      unfold atF
      rw [hnp, findI_mem hin, hidx]
    rw [this]
    rfl
  have hg : gLoc n p.f p.a p.b p.c = [⟨m, 840⟩] := by
    unfold gLoc
    rw [if_pos hok, Int.toNat_natCast, hl]
  refine ⟨hg, ?_, by simp [gErr, hok]⟩
  unfold gNear
  rw [if_pos hok, hg]
  unfold nearS
  simp [best]
end Go.Proofs.YtcoddcdiimpndaaGreatDoor
