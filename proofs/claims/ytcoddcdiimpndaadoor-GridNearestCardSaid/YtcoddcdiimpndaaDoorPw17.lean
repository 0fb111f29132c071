/-
  The reference's less and find: comparing two places; a search in a rising list.
-/
import Derived.Test.YtcoddcdiimpndaaDoorPa6
import Derived.Test.YtcoddcdiimpndaaDoorPw7
import Derived.Deep.RegionHeld3
import Derived.Deep.DrawnRows
import Derived.Deep.DeepCutAuto
import Derived.Deep.DeepMust
set_option linter.unusedVariables false
set_option linter.unusedSimpArgs false
namespace Go.Proofs.YtcoddcdiimpndaaDoor
open Go.RowKit
attribute [local go_sem high] eqgP
set_option maxHeartbeats 1000000 in
theorem less3_any (p q : Pl) (w : World) : Calls Tryd.prog 42 #[.agg #[.int .i64 p.f, .int .i64 p.a, .int .i64 p.b, .int .i64 p.c], .agg #[.int .i64 q.f, .int .i64 q.a, .int .i64 q.b, .int .i64 q.c]] w fun e w' =>
    e = .returned (.bool (ltP p q)) ∧ (w.alloc (.cells #[.int .i64 p.f, .int .i64 p.a, .int .i64 p.b, .int .i64 p.c] 23)).alloc (.cells #[.int .i64 q.f, .int .i64 q.a, .int .i64 q.b, .int .i64 q.c] 23) = w' := by
  obtain ⟨f, a, b, c⟩ := p
  obtain ⟨f', a', b', c'⟩ := q
  by_cases h : f = f'
  · subst h
    by_cases h2 : a = a'
    · subst h2
      have e : ltP ⟨f, a, b, c⟩ ⟨f, a, b', c'⟩ = decide (b < b') := by simp [ltP]
      rw [e]
      clear e
      go_enter Tryd.func42, Tryd.ntmps42
      go_wp2
      go_ret
      exact ⟨rfl, rfl⟩
    · have e : ltP ⟨f, a, b, c⟩ ⟨f, a', b', c'⟩ = decide (a < a') := by simp [ltP, h2]
      have hd : (a != a') = true := bne_iff_ne.2 h2
      rw [e]
      clear e
      go_enter Tryd.func42, Tryd.ntmps42
      go_wp2
      go_ret
      exact ⟨rfl, rfl⟩
  · have e : ltP ⟨f, a, b, c⟩ ⟨f', a', b', c'⟩ = decide (f < f') := by simp [ltP, h]
    have hd : (f != f') = true := bne_iff_ne.2 h
    rw [e]
    clear e
    go_enter Tryd.func42, Tryd.ntmps42
    go_wp2
    go_ret
    exact ⟨rfl, rfl⟩
theorem pl_ext {p q : Pl} (h0 : p.f = q.f) (h1 : p.a = q.a) (h2 : p.b = q.b) (h3 : p.c = q.c) : p = q := by
  cases p; cases q; simp_all
theorem below_drewN {B : Nat} {w W : World} (h : Below B w W) (n : Nat) : Below B w (W.drewN n) := ⟨h.os, h.tape, h.output, h.size, h.block⟩
/-- A row of n places lies in block g. -/
structure RdE (w : World) (g : Nat) (E : Nat → Pl) (n : Nat) : Prop where
  lt : g < w.heap.size
  cells : ∀ i, i < n → w.cell? ⟨g, i * 4, none⟩ = some (.int .i64 (E i).f) ∧ w.cell? ⟨g, i * 4 + 1, none⟩ = some (.int .i64 (E i).a) ∧ w.cell? ⟨g, i * 4 + 2, none⟩ = some (.int .i64 (E i).b) ∧ w.cell? ⟨g, i * 4 + 3, none⟩ = some (.int .i64 (E i).c)
theorem RdE.below {w w' : World} {B g n : Nat} {E : Nat → Pl} (H : RdE w g E n) (hb : Below B w w') (hB : g < B) : RdE w' g E n :=
  ⟨Nat.lt_of_lt_of_le H.lt hb.size, fun i hi => ⟨(hb.cell (p := ⟨g, i * 4, none⟩) hB).trans (H.cells i hi).1, (hb.cell (p := ⟨g, i * 4 + 1, none⟩) hB).trans (H.cells i hi).2.1, (hb.cell (p := ⟨g, i * 4 + 2, none⟩) hB).trans (H.cells i hi).2.2.1, (hb.cell (p := ⟨g, i * 4 + 3, none⟩) hB).trans (H.cells i hi).2.2.2⟩⟩
theorem RdE.of_own {w : World} {base g cap : Nat} {l : List Pl} (h : w.ownsRow base 23 4 (.slice (some ⟨g, 0, none⟩) l.length cap) l.length (cellsP l)) : RdE w g (fun i => l[i]!) l.length := by
  refine ⟨(h.lt g rfl).2, fun i hi => ?_⟩
  obtain ⟨q0, q1, q2, q3⟩ := cellsP_at l i l[i]! (by rw [bang_eq l i hi]; exact List.getElem?_eq_getElem hi)
  exact ⟨own_cell h _ _ q0, own_cell h _ _ q1, own_cell h _ _ q2, own_cell h _ _ q3⟩
theorem cell_lt8 {w : World} {p : Addr} {v : Value} (h : w.cell? p = some v) : p.block < w.heap.size := by
  rcases Nat.lt_or_ge p.block w.heap.size with h1 | h1
  · exact h1
  · simp [World.cell?, Array.getElem?_eq_none h1] at h
theorem keep8 {w w' : World} {a0 a1 a2 a3 a4 a5 a6 a7 : Addr} {v0 v1 v2 v3 v4 v5 v6 v7 : Value} (h : w.cell? a0 = some v0 ∧ w.cell? a1 = some v1 ∧ w.cell? a2 = some v2 ∧ w.cell? a3 = some v3 ∧ w.cell? a4 = some v4 ∧ w.cell? a5 = some v5 ∧ w.cell? a6 = some v6 ∧ w.cell? a7 = some v7) (hb : Below w.heap.size w w') :
    w'.cell? a0 = some v0 ∧ w'.cell? a1 = some v1 ∧ w'.cell? a2 = some v2 ∧ w'.cell? a3 = some v3 ∧ w'.cell? a4 = some v4 ∧ w'.cell? a5 = some v5 ∧ w'.cell? a6 = some v6 ∧ w'.cell? a7 = some v7 :=
  ⟨(hb.cell (cell_lt8 h.1)).trans h.1, (hb.cell (cell_lt8 h.2.1)).trans h.2.1, (hb.cell (cell_lt8 h.2.2.1)).trans h.2.2.1, (hb.cell (cell_lt8 h.2.2.2.1)).trans h.2.2.2.1, (hb.cell (cell_lt8 h.2.2.2.2.1)).trans h.2.2.2.2.1, (hb.cell (cell_lt8 h.2.2.2.2.2.1)).trans h.2.2.2.2.2.1, (hb.cell (cell_lt8 h.2.2.2.2.2.2.1)).trans h.2.2.2.2.2.2.1, (hb.cell (cell_lt8 h.2.2.2.2.2.2.2)).trans h.2.2.2.2.2.2.2⟩
theorem two_belowP (w : World) (o p : Obj) : Below w.heap.size w ((w.alloc o).alloc p) := ((Below.refl _ _).alloc (Nat.le_refl _) _).alloc (by simp) _
set_option maxRecDepth 100000 in
set_option maxHeartbeats 2000000 in
theorem find_core (E : Nat → Pl) (n : Nat) (hn : n ≤ 1000000) (p : Pl) (r : Int) (g cap : Nat) (w : World) (hR : RdE w g E n)
    (hup : ∀ m, m < n → ltP (E m) p = true → ∀ i, i < m + 1 → ltP (E i) p = true) (hdown : ∀ m, m < n → ltP (E m) p = false → ∀ i, m ≤ i → i < n → ltP (E i) p = false)
    (hhit : ∀ i, i < n → E i = p → r = i) (hmiss : ∀ lo, lo ≤ n → (∀ i, i < lo → ltP (E i) p = true) → (∀ i, lo ≤ i → i < n → ltP (E i) p = false) → (lo < n → E lo ≠ p) → r = -1) :
    Calls Tryd.prog 30 #[.slice (some ⟨g, 0, none⟩) n cap, .agg #[.int .i64 p.f, .int .i64 p.a, .int .i64 p.b, .int .i64 p.c]] w fun e w' => e = .returned (.int .i64 r) ∧ Below w.heap.size w w' := by
  have HR := Lib.hid hR
  have hgl := hR.lt
  have HUP := Lib.hid hup
  have HDN := Lib.hid hdown
  have HHIT := Lib.hid hhit
  have HMISS := Lib.hid hmiss
  clear hR hup hdown hhit hmiss
  go_enter Tryd.func30, Tryd.ntmps30
  go_wp2
  go_loopw [5, 6] (fun s5 s6 wr => ∃ lo hi : Nat, s5 = .int .i64 lo ∧ s6 = .int .i64 hi ∧ lo ≤ hi ∧ hi ≤ n ∧ Hid (∀ i, i < lo → ltP (E i) p = true) ∧ Hid (∀ i, hi ≤ i → i < n → ltP (E i) p = false) ∧ Below (w.heap.size + 1) (w.alloc (.cells #[.int .i64 p.f, .int .i64 p.a, .int .i64 p.b, .int .i64 p.c] 23)) wr) (fun s5 s6 _ => (intOf s6).toNat - (intOf s5).toNat)
  case atStart => exact ⟨0, n, rfl, rfl, Nat.zero_le _, Nat.le_refl _, Lib.hid (fun i hi => absurd hi (Nat.not_lt_zero _)), Lib.hid (fun i h1 h2 => absurd h2 (by omega)), Below.refl _ _⟩
  case round =>
    obtain ⟨lo, hi, rfl, rfl, hle, hin, HLO, HHI, hb⟩ := hrel
    have hsz := hb.size
    simp at hsz
    have HB := Lib.hid hb
    have BP := blk_below hb (blk_new w _) (by omega)
    have p0 := blk_cell BP 0 (.int .i64 p.f) rfl
    have p1 := blk_cell BP 1 (.int .i64 p.a) rfl
    have p2 := blk_cell BP 2 (.int .i64 p.b) rfl
    have p3 := blk_cell BP 3 (.int .i64 p.c) rfl
    have HRW := Lib.hid ((HR.out.below ((Below.refl _ _).alloc (Nat.le_refl _) _) hgl).below hb (Nat.lt_succ_of_lt hgl))
    have hgr : g < wr.heap.size := by omega
    clear BP hb
    by_cases hlt : lo < hi
    · obtain ⟨m, hm⟩ : ∃ m : Nat, m = (lo + hi) / 2 := ⟨_, rfl⟩
      have hm1 : lo ≤ m := by omega
      have hm2 : m < hi := by omega
      have hdiv : ((lo : Int) + (hi : Int)) / 2 = (m : Int) := by omega
      have hmn : (m : Int) < (n : Int) := by omega
      obtain ⟨q0, q1, q2, q3⟩ := HRW.out.cells m (by omega)
      have hdl : decide ((lo : Int) < (hi : Int)) = true := decide_eq_true (by omega)
      clear hm
      go_wp2_with fail
      go_cut [7, 22] (fun s7 s22 wx => s7 = .int .i64 m ∧ s22 = .bool (ltP (E m) p) ∧ Below wr.heap.size wr wx)
      case first =>
        go_region_held3 (fun w' => w'.cell? ⟨g, m * 4, none⟩ = some (.int .i64 (E m).f) ∧ w'.cell? ⟨g, m * 4 + 1, none⟩ = some (.int .i64 (E m).a) ∧ w'.cell? ⟨g, m * 4 + 2, none⟩ = some (.int .i64 (E m).b) ∧ w'.cell? ⟨g, m * 4 + 3, none⟩ = some (.int .i64 (E m).c) ∧ w'.cell? ⟨w.heap.size, 0, none⟩ = some (.int .i64 p.f) ∧ w'.cell? ⟨w.heap.size, 1, none⟩ = some (.int .i64 p.a) ∧ w'.cell? ⟨w.heap.size, 2, none⟩ = some (.int .i64 p.b) ∧ w'.cell? ⟨w.heap.size, 3, none⟩ = some (.int .i64 p.c))
          (first | assumption | exact keep8 (by assumption) (two_belowP _ _ _) | (refine ⟨?_, ?_, ?_, ?_, ?_, ?_, ?_, ?_⟩ <;> go_simp))
          (first
            | (go_at_call 42; go_must (refine (less3_any (E m) p _).mono ?_; rintro e w' ⟨rfl, rfl⟩)))
        all_goals
          go_wp2_with fail
          go_meet
          exact ⟨rfl, rfl, by repeat (first | exact Below.refl _ _ | refine below_alloc ?_ _ | refine Below.drew ?_)⟩
      case rest =>
        obtain ⟨rfl, rfl, hbx⟩ := hcut
        have HBC := Lib.hid (HB.out.trans (hbx.mono (by omega)))
        clear q0 q1 q2 q3 p0 p1 p2 p3 hbx
        cases hc : ltP (E m) p
        · have HN := Lib.hid (HDN.out m (by omega) hc)
          go_wp2_with fail
          go_roundw
          case rel => exact ⟨lo, m, rfl, rfl, by omega, by omega, HLO, HN, HBC.out⟩
          case measure => simp [intOf]; omega
        · have HN := Lib.hid (HUP.out m (by omega) hc)
          go_wp2_with fail
          go_roundw
          case rel => exact ⟨m + 1, hi, by go_num, rfl, by omega, by omega, HN, HHI, HBC.out⟩
          case measure => simp [intOf]; omega
    · obtain rfl : lo = hi := by omega
      have hdl : decide ((lo : Int) < (lo : Int)) = false := decide_eq_false (by omega)
      by_cases hln : lo < n
      · have hdn : decide ((lo : Int) < (n : Int)) = true := decide_eq_true (by omega)
        obtain ⟨q0, q1, q2, q3⟩ := HRW.out.cells lo hln
        have hln2 : (lo : Int) < (n : Int) := by omega
        by_cases he : E lo = p
        · have hcmp : ∀ W, (binOp .eql 23 (.agg #[.int .i64 (E lo).f, .int .i64 (E lo).a, .int .i64 (E lo).b, .int .i64 (E lo).c]) (.agg #[.int .i64 p.f, .int .i64 p.a, .int .i64 p.b, .int .i64 p.c])).run Tryd.prog W = .ok (.bool true) W := by
            intro W
            rw [eqlP, he]
            simp
          have HE := Lib.hid (HHIT.out lo hln he)
          clear he
          go_wp2_with fail
          go_quiet (fail)
          go_wp2_with fail
          go_ret
          exact ⟨ret_int HE.out.symm, below_drewN (((Below.refl _ _).alloc (Nat.le_refl _) _).trans (HB.out.mono (Nat.le_succ _))) _⟩
        · have hcmp : ∀ W, (binOp .eql 23 (.agg #[.int .i64 (E lo).f, .int .i64 (E lo).a, .int .i64 (E lo).b, .int .i64 (E lo).c]) (.agg #[.int .i64 p.f, .int .i64 p.a, .int .i64 p.b, .int .i64 p.c])).run Tryd.prog W = .ok (.bool false) W := by
            intro W
            rw [eqlP]
            have hb : ((E lo).f == p.f && ((E lo).a == p.a && ((E lo).b == p.b && (E lo).c == p.c))) = false := by
              rw [Bool.eq_false_iff]
              intro h
              simp only [Bool.and_eq_true, beq_iff_eq] at h
              exact he (pl_ext h.1 h.2.1 h.2.2.1 h.2.2.2)
            rw [hb]
          have HE := Lib.hid (HMISS.out lo hin HLO.out HHI.out (fun _ => he))
          clear he
          go_wp2_with fail
          go_quiet (fail)
          go_wp2_with fail
          go_ret
          exact ⟨ret_int HE.out.symm, below_drewN (((Below.refl _ _).alloc (Nat.le_refl _) _).trans (HB.out.mono (Nat.le_succ _))) _⟩
      · have hdn : decide ((lo : Int) < (n : Int)) = false := decide_eq_false (by omega)
        have HE := Lib.hid (HMISS.out lo hin HLO.out HHI.out (fun h => absurd h hln))
        go_wp2_with fail
        go_quiet (fail)
        go_wp2_with fail
        go_ret
        exact ⟨ret_int HE.out.symm, below_drewN (((Below.refl _ _).alloc (Nat.le_refl _) _).trans (HB.out.mono (Nat.le_succ _))) _⟩
/-- The search in a rising list. -/
theorem find_any (l : List Pl) (hr : l.Pairwise (fun p q => ltP p q = true)) (hn : l.length ≤ 1000000) (p : Pl) (g cap : Nat) (w : World) (hR : RdE w g (fun i => l[i]!) l.length) :
    Calls Tryd.prog 30 #[.slice (some ⟨g, 0, none⟩) l.length cap, .agg #[.int .i64 p.f, .int .i64 p.a, .int .i64 p.b, .int .i64 p.c]] w fun e w' => e = .returned (.int .i64 (findI l p)) ∧ Below w.heap.size w w' :=
  find_core (fun i => l[i]!) l.length hn p (findI l p) g cap w hR (fun m hm h i hi => find_up hr p m hm h i hi) (fun m hm h i hi hl => find_down hr p m h i hi hl) (fun i hi h => find_hit hr p i hi h)
    (fun lo hlo h1 h2 h3 => find_miss hr p lo (fun i hi _ => h1 i hi) (fun i hi hl => h2 i hi hl) (fun h => h3 h))
end Go.Proofs.YtcoddcdiimpndaaDoor
