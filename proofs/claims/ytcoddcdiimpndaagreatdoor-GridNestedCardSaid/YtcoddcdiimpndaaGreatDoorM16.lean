/-
  The walk of slices.Compact at edges.
-/
import Derived.Test.YtcoddcdiimpndaaGreatDoorM15
import Derived.Deep.OwnRows
import Derived.Laws.IdiomCopy
import Derived.Outline
set_option linter.unusedVariables false
set_option linter.unusedSimpArgs false
namespace Go.Proofs.YtcoddcdiimpndaaGreatDoor
open Go.RowKit
theorem eqInE (d : Nat) (w : World) (x0 x1 y0 y1 : Int) :
    (Op.equalIn (d + 2) 39 (.agg #[.int .i64 x0, .int .i64 x1]) (.agg #[.int .i64 y0, .int .i64 y1])).run Tryz.prog w = .ok (x0 == y0 && (x1 == y1)) w := by
  refine eqA_of Tryz.underlying39 (by kernel_rfl) ?_
  refine eqf_cons (by rfl) (by go_simp; rfl) (by go_simp; rfl) (by go_simp) ?_
  exact eqf_last (by rfl) (by go_simp; rfl) (by go_simp; rfl) (by go_simp)
theorem guardE : Tryz.prog.eqGuardType Tryz.prog.depth 39 = false := by kernel_rfl
theorem eqlE (w : World) (x0 x1 y0 y1 : Int) : (binOp .eql 39 (.agg #[.int .i64 x0, .int .i64 x1]) (.agg #[.int .i64 y0, .int .i64 y1])).run Tryz.prog w = .ok (.bool (x0 == y0 && (x1 == y1))) w := by
  rw [run_eql_struct, show (10000 : Nat) = 9998 + 2 from rfl, eqInE]; rfl
theorem neqE (w : World) (x0 x1 y0 y1 : Int) : (binOp .neq 39 (.agg #[.int .i64 x0, .int .i64 x1]) (.agg #[.int .i64 y0, .int .i64 y1])).run Tryz.prog w = .ok (.bool (!(x0 == y0 && (x1 == y1)))) w := by
  rw [run_neq_struct, show (10000 : Nat) = 9998 + 2 from rfl, eqInE]; rfl
theorem eqgE (op : BinOp) (x y : Operand) (xs ys : Array Value) (w : World) : (eqGuard op 39 x y (.agg xs) (.agg ys)).run Tryz.prog w = .ok () w := run_eqGuard_agg w op 39 x y xs ys guardE
theorem ed_beq (x y : Ed) : (x.a == y.a && (x.b == y.b)) = decide (x = y) := by
  rw [Bool.eq_iff_iff]
  simp only [Bool.and_eq_true, beq_iff_eq, decide_eq_true_eq]
  constructor
  · rintro ⟨h1, h2⟩
    cases x; cases y; simp_all
  · rintro rfl
    exact ⟨rfl, rfl⟩
attribute [local go_sem high] eqgE
theorem sizeEd (W : World) : (sizeOf 39).run Tryz.prog W = .ok 2 W := Tryz.sizeOf39 W
/-- What is left of the first r edges when those that are as the one before are struck. -/
def cmpTo (E : Nat → Ed) : Nat → List Ed
  | 0 => []
  | r + 1 => if 0 < r ∧ E r = E (r - 1) then cmpTo E r else cmpTo E r ++ [E r]
theorem cmpTo_le (E : Nat → Ed) : ∀ r, (cmpTo E r).length ≤ r
  | 0 => Nat.le_refl _
  | r + 1 => by
    have := cmpTo_le E r
    simp only [cmpTo]
    split <;> simp <;> omega
theorem cmpTo_new {E : Nat → Ed} {r : Nat} (h : ¬ (0 < r ∧ E r = E (r - 1))) : cmpTo E (r + 1) = cmpTo E r ++ [E r] := by rw [cmpTo, if_neg h]
theorem cmpTo_old {E : Nat → Ed} {r : Nat} (h : 0 < r ∧ E r = E (r - 1)) : cmpTo E (r + 1) = cmpTo E r := by rw [cmpTo, if_pos h]
theorem cmpTo_all {E : Nat → Ed} : ∀ {r : Nat}, (∀ j, 0 < j → j < r → E j ≠ E (j - 1)) → (cmpTo E r).length = r ∧ ∀ j, j < r → (cmpTo E r)[j]! = E j
  | 0, _ => ⟨rfl, fun j hj => absurd hj (Nat.not_lt_zero _)⟩
  | r + 1, h => by
    obtain ⟨h1, h2⟩ := cmpTo_all (E := E) (r := r) (fun j h3 h4 => h j h3 (by omega))
    have he : cmpTo E (r + 1) = cmpTo E r ++ [E r] := cmpTo_new (fun ⟨a, b⟩ => h r a (by omega) b)
    rw [he]
    refine ⟨by simp [h1], fun j hj => ?_⟩
    rw [List.getElem!_eq_getElem?_getD]
    rcases Nat.lt_or_ge j r with h3 | h3
    · rw [List.getElem?_append_left (by omega), ← List.getElem!_eq_getElem?_getD]
      exact h2 j h3
    · obtain rfl : j = r := by omega
      rw [List.getElem?_append_right (by omega)]
      simp [h1]
/-- A row whose first elements are given, the others as F tells. -/
def rowF (out : List Ed) (F : Nat → Value) (t : Nat) : Value := if t < out.length * 2 then ((edc out[t / 2]!)[t % 2]!) else F t
theorem rowF_snoc (out : List Ed) (x : Ed) (F : Nat → Value) (t : Nat) : rowF (out ++ [x]) F t = if t = out.length * 2 + 1 then .int .i64 x.b else if t = out.length * 2 then .int .i64 x.a else rowF out F t := by
  unfold rowF
  rw [List.length_append]
  by_cases h1 : t < out.length * 2
  · rw [if_pos (by simp; omega), if_neg (by omega), if_neg (by omega), if_pos h1]
    have : (out ++ [x])[t / 2]! = out[t / 2]! := by
      rw [List.getElem!_eq_getElem?_getD, List.getElem?_append_left (by omega), ← List.getElem!_eq_getElem?_getD]
    rw [this]
  · by_cases h2 : t = out.length * 2
    · subst h2
      rw [if_pos (by simp), if_neg (by omega), if_pos rfl, show out.length * 2 / 2 = out.length by omega, show out.length * 2 % 2 = 0 by omega]
      simp [edc]
    · by_cases h3 : t = out.length * 2 + 1
      · subst h3
        rw [if_pos (by simp; omega), if_pos rfl, show (out.length * 2 + 1) / 2 = out.length by omega, show (out.length * 2 + 1) % 2 = 1 by omega]
        simp [edc]
      · rw [if_neg (by simp; omega), if_neg h3, if_neg h2, if_neg h1]
theorem rowIs_setCells {b : Nat} {t : TypeId} {n : Nat} : ∀ (vs : List Value) (o : Nat) (w : World) (F : Nat → Value), w.rowIs b t n F → ∃ G, (w.setCells b o vs).rowIs b t n G ∧ ∀ i, i < o → G i = F i
  | [], _, _, F, h => ⟨F, h, fun _ _ => rfl⟩
  | v :: r, o, w, F, h => by
    obtain ⟨G, h1, h2⟩ := rowIs_setCells r (o + 1) _ _ (h.set o v)
    exact ⟨G, h1, fun i hi => by rw [h2 i (by omega), if_neg (by omega)]⟩
theorem grown_setCells' (b : Nat) : ∀ (vs : List Value) (o : Nat) (w W : World), w.grownBy W (some b) → w.grownBy (W.setCells b o vs) (some b) := grown_setCells b
theorem grown_refl' (w : World) (row : Option Nat) : w.grownBy w row := ⟨rfl, rfl, rfl, Nat.le_refl _, fun _ _ _ => rfl⟩
/-- clear of a part of a row of edges. -/
theorem run_clearE (w : World) (ty : TypeId) (b o n c : Nat) (hn : 0 < n) (hc : ∀ j, j < n * 2 → (w.cell? ⟨b, o + j, none⟩).isSome = true) (hf : ∀ j, j < n * 2 → w.frozen? ⟨b, o + j, none⟩ = false) :
    (Builtin.clear_ #[35] ty #[.slice (some ⟨b, o, none⟩) n c]).run Tryz.prog w = .ok (.tuple #[]) (w.setCells b o (List.replicate (n * 2) (Value.int .i64 0))) := by
  have hz : ∀ w, (zeroValue 39).run Tryz.prog w = .ok (.agg #[.int .i64 0, .int .i64 0]) w := fun w => by kernel_rfl
  have hzc : (Builtin.zeroCells (Value.agg #[.int .i64 0, .int .i64 0]).cells n).toList = List.replicate (n * 2) (Value.int .i64 0) := by
    simp [Builtin.zeroCells, Value.cells]
    apply List.ext_getElem
    · simp
    · intro i h1 h2
      rcases (show i % 2 = 0 ∨ i % 2 = 1 by omega) with e | e <;> simp [e]
  have hst := run_storeCells_cells (P := Tryz.prog) b o (List.replicate (n * 2) (Value.int .i64 0)) 0 w (by simpa using hc) (by simpa using hf) (by intro v hv'; rw [List.eq_of_mem_replicate hv']; rfl)
  simp only [Nat.add_zero] at hst
  cases n with
  | zero => omega
  | succ m => simp [Builtin.clear_, run_underlying Tryz.underlying35, hz, hzc, hst]
theorem _root_.Go.World.rowIs.drewN {w : World} {b n : Nat} {t : TypeId} {F : Nat → Value} (h : w.rowIs b t n F) (q : Nat) : (w.drewN q).rowIs b t n F := h
theorem rowIs_below {w w' : World} {b B n : Nat} {t : TypeId} {F : Nat → Value} (h : w.rowIs b t n F) (hb : Below B w w') (hB : b < B) : w'.rowIs b t n F := h.of_block (hb.block b hB)
set_option maxRecDepth 100000 in
set_option maxHeartbeats 4000000 in
theorem compact_core (E : Nat → Ed) (n g cap : Nat) (hn : n ≤ 1000000) (hcap : n ≤ cap) (hcap2 : cap ≤ 9223372036854775807) (w : World) (F : Nat → Value) (hR : w.rowIs g 39 (cap * 2) F) (hF : ∀ j, j < n → F (j * 2) = .int .i64 (E j).a ∧ F (j * 2 + 1) = .int .i64 (E j).b) :
    Calls Tryz.prog 96 #[.slice (some ⟨g, 0, none⟩) n cap] w fun e w' => e = .returned (.slice (some ⟨g, 0, none⟩) (cmpTo E n).length cap) ∧ (∃ G, w'.rowIs g 39 (cap * 2) G ∧ ∀ t, t < (cmpTo E n).length * 2 → G t = (edc (cmpTo E n)[t / 2]!)[t % 2]!) ∧ w.grownBy w' (some g) := by
  have HR := Lib.hid hR
  have HF := Lib.hid hF
  have hg := hR.lt
  have HALL := Lib.hid (fun r => @cmpTo_all E r)
  have hcell : ∀ (W : World) (out : List Ed), W.rowIs g 39 (cap * 2) (rowF out F) → ∀ j, out.length ≤ j → j < n → W.cell? ⟨g, j * 2, none⟩ = some (.int .i64 (E j).a) ∧ W.cell? ⟨g, j * 2 + 1, none⟩ = some (.int .i64 (E j).b) := fun W out h j h1 h2 => by
    have c0 := h.cell (i := j * 2) (by omega)
    have c1 := h.cell (i := j * 2 + 1) (by omega)
    unfold rowF at c0 c1
    rw [if_neg (by omega)] at c0 c1
    rw [c0, c1, (hF j h2).1, (hF j h2).2]
    exact ⟨rfl, rfl⟩
  have HCELL := Lib.hid hcell
  have HR0 := Lib.hid (show w.rowIs g 39 (cap * 2) (rowF [] F) from hR.congr (fun i hi => by simp [rowF]))
  clear hR hF hcell
  by_cases h2 : n < 2
  · have hd : decide ((n : Int) < 2) = true := decide_eq_true (by omega)
    have hall := cmpTo_all (E := E) (r := n) (fun j h3 h4 => by omega)
    have HA := Lib.hid hall
    clear hall
    go_enter Tryz.func96, Tryz.ntmps96
    go_wp2_with fail
    go_ret
    rw [HA.out.1]
    refine ⟨rfl, ⟨F, HR.out, fun t ht => ?_⟩, grown_refl' _ _⟩
    rw [HA.out.2 (t / 2) (by omega)]
    rcases (show t % 2 = 0 ∨ t % 2 = 1 by omega) with h | h
    · rw [h, show t = t / 2 * 2 by omega, (HF.out (t / 2) (by omega)).1]; simp [edc]
    · rw [h, show t = t / 2 * 2 + 1 by omega, (HF.out (t / 2) (by omega)).2, show (t / 2 * 2 + 1) / 2 = t / 2 by omega]; simp [edc]
  · have hd : decide ((n : Int) < 2) = false := decide_eq_false (by omega)
    have hd2 : (2 : Int) ≤ (n : Int) := by omega
    go_enter Tryz.func96, Tryz.ntmps96
    go_wp2_with fail
    go_loopw [3] (fun s3 wr => ∃ k : Nat, 1 ≤ k ∧ k ≤ n ∧ s3 = .int .i64 k ∧ Hid (∀ j, 0 < j → j < k → E j ≠ E (j - 1)) ∧ ∃ q, wr = w.drewN q) (fun s3 _ => n - (intOf s3).toNat)
    case atStart => exact ⟨1, Nat.le_refl _, by omega, rfl, Lib.hid (fun j h3 h4 => by omega), 0, rfl⟩
    case round =>
      obtain ⟨k, hk1, hk, rfl, HD, q, rfl⟩ := hrel
      obtain ⟨wq, hwq⟩ : ∃ wq, wq = w.drewN q := ⟨_, rfl⟩
      have HRQ := Lib.hid (show wq.rowIs g 39 (cap * 2) (rowF [] F) by rw [hwq]; exact HR0.out)
      have HGQ := Lib.hid (show w.grownBy wq (some g) by rw [hwq]; exact ⟨rfl, rfl, rfl, Nat.le_refl _, fun _ _ _ => rfl⟩)
      rw [← hwq]
      have HWQ := Lib.hid hwq
      have hgq := HRQ.out.lt
      clear hwq
      by_cases hkn : k < n
      · have hkI : (k : Int) < (n : Int) := by omega
        have hkI2 : (k : Int) - 1 < (n : Int) := by omega
        have hkt : ((k : Int) - 1).toNat = k - 1 := by omega
        obtain ⟨p0, p1⟩ := HCELL.out wq [] HRQ.out k (Nat.zero_le _) hkn
        obtain ⟨q0, q1⟩ := HCELL.out wq [] HRQ.out (k - 1) (Nat.zero_le _) (by omega)
        by_cases he : E k = E (k - 1)
        · have hcmp : ∀ W, (binOp .eql 39 (.agg #[.int .i64 (E k).a, .int .i64 (E k).b]) (.agg #[.int .i64 (E (k - 1)).a, .int .i64 (E (k - 1)).b])).run Tryz.prog W = .ok (.bool true) W := by
            intro W
            rw [eqlE, ed_beq, decide_eq_true he]
          have HE := Lib.hid he
          clear he
          go_wp2_with fail
          go_quiet (fail)
          go_wp2_with fail
          have hk0 : 0 < k := hk1
          have HL0 := Lib.hid (cmpTo_all HD.out)
          have HC1 := Lib.hid (show cmpTo E (k + 1) = cmpTo E k from cmpTo_old ⟨hk0, HE.out⟩)
          go_loopw [3, 5] (fun s3 s5 wr => ∃ k2 i : Nat, 1 ≤ k2 ∧ k + k2 ≤ n ∧ s5 = .int .i64 k2 ∧ s3 = .int .i64 i ∧ Hid (i = (cmpTo E (k + k2)).length) ∧ i < k + k2 ∧ wr.rowIs g 39 (cap * 2) (rowF (cmpTo E (k + k2)) F) ∧ w.grownBy wr (some g)) (fun _ s5 _ => n - k - (intOf s5).toNat)
          case atStart =>
            refine ⟨1, k, Nat.le_refl _, by omega, rfl, rfl, by show k = _; rw [HC1.out, HL0.out.1], by omega, ?_, ?_⟩
            · rw [HC1.out]
              refine World.rowIs.congr (f := rowF [] F) HRQ.out fun t ht => ?_
              unfold rowF
              rw [HL0.out.1, if_neg (by simp)]
              by_cases htk : t < k * 2
              · rw [if_pos htk, HL0.out.2 (t / 2) (by omega)]
                rcases (show t % 2 = 0 ∨ t % 2 = 1 by omega) with h | h
                · rw [h, show F t = F (t / 2 * 2) by rw [show t / 2 * 2 = t by omega], (HF.out (t / 2) (by omega)).1]; simp [edc]
                · rw [h, show F t = F (t / 2 * 2 + 1) by rw [show t / 2 * 2 + 1 = t by omega], (HF.out (t / 2) (by omega)).2]; simp [edc]
              · rw [if_neg htk]
            · exact ⟨HGQ.out.os, HGQ.out.tape, HGQ.out.output, HGQ.out.size, HGQ.out.block⟩
          case round =>
            clear p0 p1 q0 q1 hcmp
            obtain ⟨k2, i, hk21, hk2n, rfl, rfl, HI, hi, hrow, hgr⟩ := hrel
            have HRW := Lib.hid hrow
            have HGW := Lib.hid hgr
            have hgw := hrow.lt
            have hle := cmpTo_le E (k + k2)
            clear hrow hgr
            by_cases hlt : k2 < n - k
            · have hltI : (k2 : Int) < ((n - k : Nat) : Int) := by omega
              have hltI2 : (k2 : Int) - 1 < ((n - k : Nat) : Int) := by omega
              have hin : (i : Int) < (n : Int) := by omega
              have hkt2 : ((k2 : Int) - 1).toNat = k2 - 1 := by omega
              obtain ⟨p0, p1⟩ := HCELL.out wr _ HRW.out (k + k2) hle (by omega)
              have hb1 : (cmpTo E (k + k2)).length ≤ k + k2 - 1 := by rw [← HI.out]; omega
              obtain ⟨q0, q1⟩ := HCELL.out wr _ HRW.out (k + k2 - 1) hb1 (by omega)
              rw [show (k + k2) * 2 = k * 2 + k2 * 2 by omega] at p0 p1
              rw [show (k + k2 - 1) * 2 = k * 2 + (k2 - 1) * 2 by omega] at q0 q1
              have f0 := HRW.out.frozen (i * 2)
              have f1 := HRW.out.frozen (i * 2 + 1)
              have r0 := HRW.out.cell (i := i * 2) (by omega)
              have r1 := HRW.out.cell (i := i * 2 + 1) (by omega)
              by_cases he2 : E (k + k2) = E (k + k2 - 1)
              · have hcmp : ∀ W, (binOp .neq 39 (.agg #[.int .i64 (E (k + k2)).a, .int .i64 (E (k + k2)).b]) (.agg #[.int .i64 (E (k + k2 - 1)).a, .int .i64 (E (k + k2 - 1)).b])).run Tryz.prog W = .ok (.bool false) W := by
                  intro W
                  rw [neqE, ed_beq, decide_eq_true he2]; rfl
                have HN := Lib.hid (show cmpTo E (k + (k2 + 1)) = cmpTo E (k + k2) from cmpTo_old (r := k + k2) ⟨by omega, he2⟩)
                clear he2
                go_wp2_with fail
                go_quiet (fail)
                go_wp2_with fail
                go_roundw
                case rel => exact ⟨k2 + 1, i, by omega, by omega, by go_num, rfl, by show i = _; rw [HN.out]; exact HI.out, by omega, by rw [HN.out]; exact HRW.out, ⟨HGW.out.os, HGW.out.tape, HGW.out.output, HGW.out.size, HGW.out.block⟩⟩
                case measure => simp [intOf]; omega
              · have hcmp : ∀ W, (binOp .neq 39 (.agg #[.int .i64 (E (k + k2)).a, .int .i64 (E (k + k2)).b]) (.agg #[.int .i64 (E (k + k2 - 1)).a, .int .i64 (E (k + k2 - 1)).b])).run Tryz.prog W = .ok (.bool true) W := by
                  intro W
                  rw [neqE, ed_beq, decide_eq_false he2]; rfl
                have HN := Lib.hid (show cmpTo E (k + (k2 + 1)) = cmpTo E (k + k2) ++ [E (k + k2)] from cmpTo_new (r := k + k2) (fun h => he2 h.2))
                clear he2
                go_wp2_with fail
                go_quiet (fail)
                go_wp2_with fail
                go_roundw
                case rel =>
                  refine ⟨k2 + 1, i + 1, by omega, by omega, by go_num, by go_num, ?_, by omega, ?_, ?_⟩
                  · show i + 1 = _
                    rw [HN.out, List.length_append, ← HI.out]; rfl
                  · rw [HN.out]
                    have h1 := ((HRW.out.drewN nq).set (i * 2) (.int .i64 (E (k + k2)).a)).set (i * 2 + 1) (.int .i64 (E (k + k2)).b)
                    refine World.rowIs.congr h1 fun t ht => ?_
                    rw [rowF_snoc, ← HI.out]
                  · exact World.grownBy.trans (World.grownBy.trans (show w.grownBy (wr.drewN nq) (some g) from ⟨HGW.out.os, HGW.out.tape, HGW.out.output, HGW.out.size, HGW.out.block⟩) (setCell_grown _ ⟨g, i * 2, none⟩ _)) (setCell_grown _ ⟨g, i * 2 + 1, none⟩ _)
                case measure => simp [intOf]; omega
            · have hlt' : decide (k2 < n - k) = false := decide_eq_false hlt
              have hk2e : k + k2 = n := by omega
              rw [hk2e] at HI hi HRW
              have hin : i < n := hi
              have hcl := fun ty => run_clearE wr ty g (i * 2) (n - i) (cap - i) (by omega) (fun j hj => by rw [HRW.out.cell (by omega)]; rfl) (fun j hj => HRW.out.frozen _)
              clear hk2e
              go_wp2_with fail
              go_ret
              obtain ⟨G, hG1, hG2⟩ := rowIs_setCells (List.replicate ((n - i) * 2) (Value.int .i64 0)) (i * 2) wr _ HRW.out
              rw [← HI.out]
              refine ⟨rfl, ⟨G, hG1, fun t ht => ?_⟩, World.grownBy.trans HGW.out (grown_setCells g _ _ _ _ (grown_refl' _ _))⟩
              rw [hG2 t ht]
              unfold rowF
              rw [if_pos (by rw [← HI.out]; exact ht)]
        · have hcmp : ∀ W, (binOp .eql 39 (.agg #[.int .i64 (E k).a, .int .i64 (E k).b]) (.agg #[.int .i64 (E (k - 1)).a, .int .i64 (E (k - 1)).b])).run Tryz.prog W = .ok (.bool false) W := by
            intro W
            rw [eqlE, ed_beq, decide_eq_false he]
          have HE := Lib.hid he
          clear he
          go_wp2_with fail
          go_quiet (fail)
          go_wp2_with fail
          go_roundw
          case rel => exact ⟨k + 1, by omega, by omega, by go_num, Lib.hid (fun j h3 h4 => by
            rcases Nat.lt_or_ge j k with h5 | h5
            · exact HD.out j h3 h5
            · obtain rfl : j = k := by omega
              exact HE.out), _, by rw [HWQ.out]; exact World.drewN_drewN _ _ _⟩
          case measure => simp [intOf]; omega
      · have hd3 : decide (k < n) = false := decide_eq_false hkn
        obtain rfl : n = k := by omega
        have HA := Lib.hid (cmpTo_all HD.out)
        go_wp2_with fail
        go_ret
        rw [HA.out.1]
        refine ⟨rfl, ⟨F, by rw [HWQ.out]; exact HR.out, fun t ht => ?_⟩, HGQ.out⟩
        rw [HA.out.2 (t / 2) (by omega)]
        rcases (show t % 2 = 0 ∨ t % 2 = 1 by omega) with h | h
        · rw [h, show t = t / 2 * 2 by omega, (HF.out (t / 2) (by omega)).1]; simp [edc]
        · rw [h, show t = t / 2 * 2 + 1 by omega, (HF.out (t / 2) (by omega)).2, show (t / 2 * 2 + 1) / 2 = t / 2 by omega]; simp [edc]
theorem cellsE_length (l : List Ed) : (cellsE l).length = l.length * 2 := flat_len edc 2 (fun _ => rfl) l
theorem cellsE_at (l : List Ed) (t : Nat) (ht : t < l.length * 2) : (cellsE l)[t]? = some ((edc l[t / 2]!)[t % 2]!) := flat_get edc 2 (fun _ => rfl) l t ht
/-- Compact of a row that a call owns. -/
def compE (L : List Ed) : List Ed := cmpTo (fun i => L[i]!) L.length
theorem compact_any (L : List Ed) (hL : L.length ≤ 1000000) (base : Nat) (V : Value) (w : World) (h : w.ownsRow base 39 2 V L.length (cellsE L)) (hpos : 0 < L.length) :
    Calls Tryz.prog 96 #[V] w fun e w' => ∃ V', e = .returned V' ∧ w'.ownsRow base 39 2 V' (compE L).length (cellsE (compE L)) ∧ V'.ownBlock = V.ownBlock ∧ w.grownBy w' V.ownBlock := by
  rcases h.2 with ⟨_, h0⟩ | ⟨g, cap, cur, rfl, hb, hh, h1, h2, h3, h4⟩
  · omega
  · have hR : w.rowIs g 39 (cap * 2) (fun i => cur[i]!) := ⟨cur, hh, h3, fun i hi => by simp [h3, hi]⟩
    have hF : ∀ j, j < L.length → (fun i => cur[i]!) (j * 2) = .int .i64 ((fun i => L[i]!) j).a ∧ (fun i => cur[i]!) (j * 2 + 1) = .int .i64 ((fun i => L[i]!) j).b := by
      intro j hj
      have e0 : ∀ t, t < L.length * 2 → cur[t]! = ((edc L[t / 2]!)[t % 2]!) := fun t ht => by
        have h5 : (cur.toList.take (L.length * 2))[t]? = some ((edc L[t / 2]!)[t % 2]!) := by rw [h4]; exact cellsE_at L t ht
        rw [List.getElem?_take, if_pos ht, Array.getElem?_toList] at h5
        rw [Array.getElem!_eq_getD, Array.getD_eq_getD_getElem?, h5]
        rfl
      refine ⟨?_, ?_⟩
      · show cur[j * 2]! = _
        rw [e0 _ (by omega), show j * 2 / 2 = j by omega, show j * 2 % 2 = 0 by omega]; rfl
      · show cur[j * 2 + 1]! = _
        rw [e0 _ (by omega), show (j * 2 + 1) / 2 = j by omega, show (j * 2 + 1) % 2 = 1 by omega]; rfl
    refine (compact_core (fun i => L[i]!) L.length g cap hL h1 (by unfold maxLen at h2; omega) w _ hR hF).mono ?_
    rintro e w' ⟨rfl, ⟨G, ⟨c, hc1, hc2, hc3⟩, hG⟩, hgr⟩
    have hle := cmpTo_le (fun i => L[i]!) L.length
    refine ⟨_, rfl, ⟨cellsE_length _, .inr ⟨g, cap, c, rfl, hb, hc1, Nat.le_trans hle h1, h2, hc2, ?_⟩⟩, rfl, hgr⟩
    apply List.ext_getElem?
    intro t
    rw [List.getElem?_take]
    by_cases ht : t < (cmpTo (fun i => L[i]!) L.length).length * 2
    · rw [if_pos (show t < (compE L).length * 2 from ht), Array.getElem?_toList, hc3 t (by omega), hG t ht]
      exact (cellsE_at (compE L) t ht).symm
    · rw [if_neg (show ¬ t < (compE L).length * 2 from ht), List.getElem?_eq_none]
      rw [cellsE_length]
      exact Nat.le_of_not_lt ht
end Go.Proofs.YtcoddcdiimpndaaGreatDoor
