/-
  The reference's share: a share is entered by its node.
-/
import Derived.Test.YtcoddcdiimpndaaGreatDoorM21
import Derived.Deep.RegionHeld3
import Derived.Deep.DeepCutAuto
import Derived.Deep.DeepMust
set_option linter.unusedVariables false
set_option linter.unusedSimpArgs false
namespace Go.Proofs.YtcoddcdiimpndaaGreatDoor
open Go.RowKit
theorem cellsS_get (L : List Sh) (i : Nat) (hi : i < L.length) : (cellsS L)[i * 2]? = some (.int .i64 L[i]!.node) ∧ (cellsS L)[i * 2 + 1]? = some (.int .i64 L[i]!.w) := by
  have h := flat_get shc 2 (fun _ => rfl) L
  have h0 := h (i * 2) (by omega)
  have h1 := h (i * 2 + 1) (by omega)
  rw [show i * 2 / 2 = i from by omega, show i * 2 % 2 = 0 from by omega] at h0
  rw [show (i * 2 + 1) / 2 = i from by omega, show (i * 2 + 1) % 2 = 1 from by omega] at h1
  exact ⟨h0, h1⟩
theorem sizeSh (W : World) : (sizeOf 54).run Tryz.prog W = .ok 2 W := Tryz.sizeOf54 W
theorem share_zero (V : Value) (node : Int) (w : World) : Calls Tryz.prog 114 #[V, .int .i64 node, .int .i64 0] w fun e w' => e = .returned V ∧ w = w' := by
  go_enter Tryz.func114, Tryz.ntmps114
  go_wp2
  go_ret
  exact ⟨rfl, rfl⟩
theorem news_of_row {w : World} {base g cap n : Nat} {e : TypeId} {size : Nat} {xs : List Value} (h : w.ownsRow base e size (.slice (some ⟨g, 0, none⟩) n cap) n xs) (ad : Addr) (k : Nat) (hk : k ≤ n) (had : k < n → ad = ⟨g, k * size, none⟩) : ∀ j u, (xs.drop (k * size))[j]? = some u → w.cell? (ad.add j) = some u := by
  intro j u hu
  have hkn : k < n := by
    refine Nat.lt_of_not_le fun hle => ?_
    have : (xs.drop (k * size)).length = 0 := by
      rw [List.length_drop, h.1, Nat.le_antisymm hk hle, Nat.sub_self]
    rw [List.length_eq_zero_iff.1 this] at hu
    simp at hu
  rw [had hkn]
  have h2 : (⟨g, k * size, none⟩ : Addr).add j = ⟨g, k * size + j, none⟩ := by
    unfold Addr.add; split <;> simp_all
  rw [h2]
  have h3 : xs[k * size + j]? = some u := by
    rw [List.getElem?_drop] at hu
    exact hu
  exact own_cell h _ _ h3
theorem olds_of_row {w : World} {base g cap n : Nat} {e : TypeId} {size : Nat} {xs : List Value} (h : w.ownsRow base e size (.slice (some ⟨g, 0, none⟩) n cap) n xs) (k : Nat) : ∀ b, some (⟨g, 0, none⟩ : Addr) = some b → ∀ j u, (xs.take (k * size))[j]? = some u → w.cell? (b.add j) = some u := by
  intro b hb j u hu
  obtain rfl := Option.some.inj hb
  have h2 : (⟨g, 0, none⟩ : Addr).add j = ⟨g, j, none⟩ := by
    unfold Addr.add; split <;> simp_all
  rw [h2]
  refine own_cell h _ _ ?_
  rw [List.getElem?_take] at hu
  split at hu
  · exact hu
  · cases hu
set_option maxRecDepth 100000 in
set_option maxHeartbeats 2000000 in
theorem share_row (L : List Sh) (node weight : Int) (hw : (weight == 0) = false) (hL : L.length ≤ 1000) (base g cap : Nat) (w : World) (h : w.ownsRow base 54 2 (.slice (some ⟨g, 0, none⟩) L.length cap) L.length (cellsS L)) :
    Calls Tryz.prog 114 #[.slice (some ⟨g, 0, none⟩) L.length cap, .int .i64 node, .int .i64 weight] w fun e w' => ∃ V, e = .returned V ∧ w'.ownsRow w.heap.size 54 2 V (ins L ⟨node, weight⟩).length (cellsS (ins L ⟨node, weight⟩)) ∧ Below w.heap.size w w' := by
  have hcap : L.length ≤ cap := by
    rcases h.2 with ⟨h0, _⟩ | ⟨g', cap', cur, h0, _, _, hc, _⟩
    · cases h0
    · injection h0 with _ _ h3
      rw [h3]; exact hc
  have HO := Lib.hid h
  have HC := Lib.hid (fun i (hi : i < L.length) => (h.cellAt (i * 2) (by omega)).trans (cellsS_get L i hi).1)
  have HFIN := Lib.hid (fun k (hk : k ≤ L.length) (h1 : ∀ i, i < k → (L[i]!).node < node) (h2 : k < L.length → ¬ (L[k]!).node < node) => ins_at L ⟨node, weight⟩ k hk h1 h2)
  change Hid (∀ i, i < L.length → w.cell? ⟨g, i * 2, none⟩ = some (.int .i64 ((fun i : Nat => (L[i]!).node) i))) at HC
  change Hid (∀ k, k ≤ L.length → (∀ i, i < k → ((fun i : Nat => (L[i]!).node) i) < node) → (k < L.length → ¬ ((fun i : Nat => (L[i]!).node) k) < node) → L.take k ++ ⟨node, weight⟩ :: L.drop k = ins L ⟨node, weight⟩) at HFIN
  generalize (fun i : Nat => (L[i]!).node) = E at HC HFIN
  have HN := Lib.hid (show L.length = L.length from rfl)
  generalize hlen : L.length = n at *
  have HLEN := Lib.hid hlen
  clear h hlen
  go_enter Tryz.func114, Tryz.ntmps114
  go_wp2_with fail
  go_loop [7] (fun s7 => ∃ k : Nat, k ≤ n ∧ s7 = .int .i64 k ∧ Hid (∀ i, i < k → E i < node)) (fun s7 => n - (intOf s7).toNat)
  case atStart => exact ⟨0, Nat.zero_le _, rfl, Lib.hid (fun i hi => absurd hi (Nat.not_lt_zero _))⟩
  case round =>
    obtain ⟨k, hk, rfl, HK⟩ := hrel
    by_cases hgo : k < n ∧ E k < node
    · obtain ⟨hkn, hE⟩ := hgo
      have hd : decide ((k : Int) < (n : Int)) = true := decide_eq_true (by omega)
      have hdE : decide (E k < node) = true := decide_eq_true hE
      have hkn2 : (k : Int) < (n : Int) := by omega
      have c0 := HC.out k hkn
      go_wp2_with fail
      go_round
      case rel => exact ⟨k + 1, by omega, by go_num, Lib.hid (fun i hi => by
        rcases Nat.lt_or_ge i k with h1 | h1
        · exact HK.out i h1
        · obtain rfl : i = k := by omega
          exact hE)⟩
      case measure => simp [intOf]; omega
    · have hpos : Hid (L.take k ++ ⟨node, weight⟩ :: L.drop k = ins L ⟨node, weight⟩) := Lib.hid (HFIN.out k hk HK.out (fun h1 => by have := fun h2 => hgo ⟨h1, h2⟩; omega))
      obtain ⟨ad, c, hsl, hadb, had⟩ := sl_from (P := Tryz.prog) 49 54 2 Tryz.underlying49 sizeSh g n cap k hk hcap
      have hfull := sl_full (P := Tryz.prog) 49 54 2 Tryz.underlying49 sizeSh g n cap k hk hcap
      have HAD := Lib.hid had
      clear hadb had
      have hcase : (decide (k < n) = false) ∨ (k < n ∧ decide (E k < node) = false) := by
        by_cases h1 : k < n
        · exact .inr ⟨h1, decide_eq_false (fun h2 => hgo ⟨h1, h2⟩)⟩
        · exact .inl (decide_eq_false h1)
      obtain ⟨i0, hi, hz0, hz1, hz2⟩ := info_parts infoSh
      have HI := Lib.hid hi
      have HZ0 := Lib.hid hz0
      have HZ1 := Lib.hid hz1
      have HZ2 := Lib.hid hz2
      have hgl : g < w.heap.size := (HO.out.lt g rfl).2
      have HOA := Lib.hid (HO.out.alloc (.cells #[.int .i64 node, .int .i64 weight] 54))
      have HNEW := Lib.hid (own_new w w.heap.size 54 2 [.int .i64 node, .int .i64 weight] 1 rfl (Nat.le_refl _) (by omega))
      have HD := Lib.hid (news_of_row HOA.out ad k hk HAD.out)
      have HDL := Lib.hid (show ((cellsS L).drop (k * 2)).length = (n - k) * 2 by rw [List.length_drop, cellsS_length, HLEN.out, Nat.sub_mul])
      have HD1 := Lib.hid (show ∀ u ∈ (cellsS L).drop (k * 2), u.oneCell' = true from fun u hu => cellsS_one L u (List.mem_of_mem_drop hu))
      have HTL := Lib.hid (show ((cellsS L).take (k * 2)).length = k * 2 by rw [List.length_take, cellsS_length, HLEN.out]; omega)
      have HEQ := Lib.hid (show (cellsS L).take (k * 2) ++ ([.int .i64 node, .int .i64 weight] ++ (cellsS L).drop (k * 2)) = cellsS (ins L ⟨node, weight⟩) by
        rw [← hpos.out, cellsS_append, cellsS_take]
        rw [show cellsS (⟨node, weight⟩ :: L.drop k) = [.int .i64 node, .int .i64 weight] ++ cellsS (L.drop k) from rfl, cellsS_drop])
      have HN1' := Lib.hid (show ∀ u ∈ [Value.int .i64 node, .int .i64 weight] ++ (cellsS L).drop (k * 2), u.oneCell' = true by
        intro u hu
        rcases List.mem_append.1 hu with h | h
        · simp at h; rcases h with rfl | rfl <;> rfl
        · exact HD1.out u h)
      have HINL := Lib.hid (show (ins L ⟨node, weight⟩).length = k + (1 + (n - k)) by rw [ins_length, HLEN.out]; omega)
      have hcE := HC.out k
      clear hgo hi hz0 hz1 hz2 hpos
      rcases hcase with hd | ⟨hkn, hdE⟩
      rotate_left
      have c0 := hcE hkn
      have hkn2 : (k : Int) < (n : Int) := by omega
      all_goals
        clear hcE
        go_wp2_with (first
          | (at_builtin; refine wpList_append_own _ rfl (.tmp 30) (.tmp 33) 49 rfl w.heap.size 54 i0 (.agg #[.int .i64 0, .int .i64 0]) 2 16 Tryz.underlying49 HI.out HZ0.out HZ1.out HZ2.out rfl (by decide) (.slice (some ⟨w.heap.size, 0, none⟩) 1 1) 1 [.int .i64 node, .int .i64 weight] rfl HNEW.out ad (n - k) c ((cellsS L).drop (k * 2)) rfl HDL.out HD.out HD1.out (by unfold maxLen; omega) (by omega) (by simp) ?_; intro v1 w1 hown1 hg1 _; obtain ⟨g1, c1, hv1, hgb1, hlt1⟩ := hown1.form (by omega); rw [hv1] at hown1 ⊢; clear hv1; have HO1 := Lib.hid hown1; have HG1 := Lib.hid hg1; have HK1 := Lib.hid (HOA.out.kept hg1 (.inr (by simp [Value.ownBlock]; omega))); have HT1 := Lib.hid (olds_of_row HK1.out k); have HN1 := Lib.hid (news_of_row HO1.out ⟨g1, 0, none⟩ 0 (Nat.zero_le _) (fun _ => by simp)); clear hown1 hg1)
          | (at_builtin; refine wpList_append_grows w1 rfl (.tmp 38) (.tmp 39) 49 rfl 54 i0 (.agg #[.int .i64 0, .int .i64 0]) 2 16 Tryz.underlying49 HI.out HZ0.out HZ1.out HZ2.out rfl (by decide) (some ⟨g, 0, none⟩) k k ((cellsS L).take (k * 2)) rfl (by simp) HTL.out HT1.out ⟨g1, 0, none⟩ (1 + (n - k)) c1 ([.int .i64 node, .int .i64 weight] ++ (cellsS L).drop (k * 2)) rfl HO1.out.1 (by simpa using HN1.out) HN1'.out (by omega) (by unfold maxLen; omega) (by omega) ?_; intro v2 w2 hown2 hg2; have HO2 := Lib.hid hown2; have HG2 := Lib.hid hg2; clear hown2 hg2))
        go_ret
        refine ⟨_, rfl, ?_, ?_⟩
        · rw [HINL.out, ← HEQ.out]
          exact own_mono HO2.out (by have := HG1.out.size; simp at this; omega)
        · exact (((Below.refl _ _).alloc (Nat.le_refl _) _).grown HG1.out (by simp) (by intro k hk; cases hk; exact Nat.le_refl _)).grown HG2.out (by have := HG1.out.size; simp at this; omega) (by simp)
set_option maxHeartbeats 1000000 in
theorem share_nil (node weight : Int) (hw : (weight == 0) = false) (w : World) :
    Calls Tryz.prog 114 #[.slice none 0 0, .int .i64 node, .int .i64 weight] w fun e w' => ∃ V, e = .returned V ∧ w'.ownsRow w.heap.size 54 2 V 1 [.int .i64 node, .int .i64 weight] ∧ Below w.heap.size w w' := by
  obtain ⟨i0, hi, hz0, hz1, hz2⟩ := info_parts infoSh
  have HI := Lib.hid hi
  have HZ0 := Lib.hid hz0
  have HZ1 := Lib.hid hz1
  have HZ2 := Lib.hid hz2
  have HNEW := Lib.hid (own_new w w.heap.size 54 2 [.int .i64 node, .int .i64 weight] 1 rfl (Nat.le_refl _) (by omega))
  have HNN := Lib.hid (news_of_row HNEW.out ⟨w.heap.size, 0, none⟩ 0 (Nat.zero_le _) (fun _ => by simp))
  clear hi hz0 hz1 hz2
  go_enter Tryz.func114, Tryz.ntmps114
  go_wp2_with fail
  refine wp_loop_rounds 1 ?_
  rw [rounds_succ]
  go_wp2_with (first
    | (at_builtin; refine wpList_append_own_none rfl (.tmp 30) (.tmp 33) 49 rfl w.heap.size 54 i0 2 Tryz.underlying49 HI.out (.slice (some ⟨w.heap.size, 0, none⟩) 1 1) 1 [.int .i64 node, .int .i64 weight] rfl HNEW.out rfl ?_)
    | (at_builtin; refine wpList_append_own _ rfl (.tmp 38) (.tmp 39) 49 rfl w.heap.size 54 i0 (.agg #[.int .i64 0, .int .i64 0]) 2 16 Tryz.underlying49 HI.out HZ0.out HZ1.out HZ2.out rfl (by decide) (.slice none 0 0) 0 [] rfl (World.ownsRow_nil _ _ _ _) ⟨w.heap.size, 0, none⟩ 1 1 [.int .i64 node, .int .i64 weight] rfl rfl (by simpa using HNN.out) (by simp [Value.oneCell']) (by unfold maxLen; omega) (by omega) (by simp) ?_; intro v1 w1 hown1 hg1 _; have HO1 := Lib.hid hown1; have HG1 := Lib.hid hg1; clear hown1 hg1))
  go_ret
  exact ⟨_, rfl, HO1.out, ((Below.refl _ _).alloc (Nat.le_refl _) _).grown HG1.out (by simp) (by simp [Value.ownBlock])⟩
/-- The reference's share, as a row that a call owns. -/
theorem share_any (L : List Sh) (node weight : Int) (hL : L.length ≤ 1000) (base : Nat) (V : Value) (w : World) (hb : base ≤ w.heap.size) (h : w.ownsRow base 54 2 V L.length (cellsS L)) :
    Calls Tryz.prog 114 #[V, .int .i64 node, .int .i64 weight] w fun e w' => ∃ V', e = .returned V' ∧ w'.ownsRow base 54 2 V' (shareL L node weight).length (cellsS (shareL L node weight)) ∧ Below w.heap.size w w' := by
  by_cases hw : weight = 0
  · subst hw
    refine (share_zero V node w).mono ?_
    rintro e w' ⟨rfl, rfl⟩
    exact ⟨V, rfl, by simpa [shareL] using h, Below.refl _ _⟩
  · have hw' : (weight == 0) = false := by simpa using hw
    have he : shareL L node weight = ins L ⟨node, weight⟩ := by simp [shareL, hw]
    rw [he]
    rcases h.2 with ⟨rfl, h0⟩ | ⟨g, cap, cur, rfl, _⟩
    · obtain rfl := List.eq_nil_of_length_eq_zero h0
      refine (share_nil node weight hw' w).mono ?_
      rintro e w' ⟨V', rfl, ho, hb'⟩
      exact ⟨V', rfl, own_mono ho hb, hb'⟩
    · refine (share_row L node weight hw' hL base g cap w h).mono ?_
      rintro e w' ⟨V', rfl, ho, hb'⟩
      exact ⟨V', rfl, own_mono ho hb, hb'⟩
end Go.Proofs.YtcoddcdiimpndaaGreatDoor
