/-
  The walk of mesh.Points: the nodes of a grid, with the map of their indices.
  The walks of mesh's cell and cells: the cells are listed.
-/
import Derived.Test.YtcoddcdiimpndaaDoorM02
import Derived.Deep.RegionLaw
import Derived.Deep.RegionHeldLaw
import Derived.Test.YtcoddcdiimpndaaDoorM04
import Derived.Test.YtcoddcdiimpndaaDoorM06
set_option linter.unusedVariables false
set_option linter.unusedSimpArgs false
namespace Go.Proofs.YtcoddcdiimpndaaDoor
open Go.RowKit
attribute [local go_sem high] eqgP

set_option maxRecDepth 100000 in
set_option maxHeartbeats 4000000 in
theorem points_core (n h : Nat) (h1 : 1 ≤ n) (h8 : n ≤ 8) (hh : n * h = 840) (hq : (840 : Int) / (n : Int) = (h : Int)) (w : World) (hT : TabOk w) :
    Calls Tryd.prog 26 #[.int .i64 n] w fun e w' => ∃ V, e = .returned (.pointer (some ⟨w.heap.size + 1, 0, none⟩)) ∧ NetP w.heap.size w' h n (w.heap.size + 1) w.heap.size (ptsTo h n 20 0 0) V ∧ Below w.heap.size w w' := by
  have hmm := @run_makeMap Tryd.prog
  have HT := Lib.hid hT
  have HH := Lib.hid hh
  clear hT hh
  go_enter Tryd.func26, Tryd.ntmps26
  go_wp2
  clear hq hmm
  go_loopw [16] (fun i wr => ∃ f : Nat, f ≤ 20 ∧ i = .int .i64 f ∧ (ptsTo h n f 0 0).length ≤ f * 81 ∧ Below w.heap.size w wr ∧ ∃ V, NetP w.heap.size wr h n (w.heap.size + 1) w.heap.size (ptsTo h n f 0 0) V) (fun i _ => 20 - (intOf i).toNat)
  case atStart => exact ⟨0, Nat.zero_le _, rfl, by simp [ptsTo_zero], below_alloc (below_alloc (Below.refl _ _) _) _, .slice none 0 0, by simpa using blk_new (w.alloc _) _, World.ownsRow_nil _ _ _ _, World.ownsMap.alloc (World.ownsMap_made _ _ _ _) _⟩
  case round =>
    obtain ⟨f, hf, rfl, hlen, hbw, V, hnet⟩ := hrel
    have HBW := Lib.hid hbw
    have HN := Lib.hid hnet
    clear hbw hnet
    by_cases hf20 : f < 20
    · have hdf : decide ((f : Int) < 20) = true := decide_eq_true (by omega)
      go_wp2
      go_loopw [5] (fun i wr => ∃ a : Nat, a ≤ n + 1 ∧ i = .int .i64 a ∧ (ptsTo h n f a 0).length ≤ f * 81 + a * 9 ∧ Below w.heap.size w wr ∧ ∃ V, NetP w.heap.size wr h n (w.heap.size + 1) w.heap.size (ptsTo h n f a 0) V) (fun i _ => n + 1 - (intOf i).toNat)
      case atStart => exact ⟨0, Nat.zero_le _, rfl, by omega, HBW.out, V, HN.out⟩
      case round =>
        obtain ⟨a, ha, rfl, hlen2, hbw2, V2, hnet2⟩ := hrel
        have HBW2 := Lib.hid hbw2
        have HN2 := Lib.hid hnet2
        clear hbw2 hnet2 HBW HN
        by_cases han : a ≤ n
        · go_wp2
          go_loopw [6] (fun i wr => ∃ b : Nat, a + b ≤ n + 1 ∧ i = .int .i64 b ∧ (ptsTo h n f a b).length ≤ f * 81 + a * 9 + b ∧ Below w.heap.size w wr ∧ ∃ V, NetP w.heap.size wr h n (w.heap.size + 1) w.heap.size (ptsTo h n f a b) V) (fun i _ => n + 1 - (intOf i).toNat)
          case atStart => exact ⟨0, by omega, rfl, by omega, HBW2.out, V2, HN2.out⟩
          case round =>
            obtain ⟨b, hb, rfl, hlen3, hbw3, V3, hnet3⟩ := hrel
            have HBW3 := Lib.hid hbw3
            have HN3 := Lib.hid hnet3
            clear hbw3 hnet3 HBW2 HN2
            by_cases hbn : a + b ≤ n
            · have hg0 := blk_cell HN3.out.blk 1 (.int .i64 h) rfl
              have hsz := blk_lt HN3.out.blk
              have hah : a * h ≤ n * h := Nat.mul_le_mul_right h (by omega)
              have hbh : b * h ≤ n * h := Nat.mul_le_mul_right h (by omega)
              have hch : (n - a - b) * h ≤ n * h := Nat.mul_le_mul_right h (by omega)
              have hch2 : (((n - a - b : Nat) : Int)) * (h : Int) = ((n : Int) - a - b) * h := by rw [Int.natCast_sub (by omega), Int.natCast_sub (by omega)]
              rw [HH.out] at hah hbh hch
              have hA0 : (0 : Int) ≤ (a : Int) * (h : Int) := by have := Int.natCast_nonneg (a * h); simpa using this
              have hA1 : (a : Int) * (h : Int) ≤ 840 := by have := Int.ofNat_le.2 hah; simpa using this
              have hB0 : (0 : Int) ≤ (b : Int) * (h : Int) := by have := Int.natCast_nonneg (b * h); simpa using this
              have hB1 : (b : Int) * (h : Int) ≤ 840 := by have := Int.ofNat_le.2 hbh; simpa using this
              have hC0 : (0 : Int) ≤ ((n : Int) - a - b) * (h : Int) := by rw [← hch2]; have := Int.natCast_nonneg ((n - a - b) * h); simpa using this
              have hC1 : ((n : Int) - a - b) * (h : Int) ≤ 840 := by rw [← hch2]; have := Int.ofNat_le.2 hch; simpa using this
              clear hah hbh hch hch2
              go_wp2
              go_region
              have hsum : (a : Int) * (h : Int) + (b : Int) * (h : Int) + ((n : Int) - a - b) * (h : Int) = 840 := by
                rw [← Int.add_mul, ← Int.add_mul, show (a : Int) + b + ((n : Int) - a - b) = n from by omega]
                exact_mod_cast HH.out
              obtain ⟨x, hx⟩ : ∃ x : Int, x = (a : Int) * (h : Int) := ⟨_, rfl⟩
              obtain ⟨y, hy⟩ : ∃ y : Int, y = (b : Int) * (h : Int) := ⟨_, rfl⟩
              obtain ⟨z, hz⟩ : ∃ z : Int, z = ((n : Int) - a - b) * (h : Int) := ⟨_, rfl⟩
              rw [← hx] at hA0 hA1 hsum ⊢
              rw [← hy] at hB0 hB1 hsum ⊢
              rw [← hz] at hC0 hC1 hsum ⊢
              have hp : plN h n f a b = ⟨f, x, y, z⟩ := by unfold plN; rw [hx, hy, hz]
              have hv : validB f x y z = true := by rw [validB_iff]; omega
              have HV := Lib.hid hv
              have HP := Lib.hid hp
              have HHT := Lib.hid (HT.out.below (HBW3.out.trans ((Below.refl w.heap.size wr).alloc HBW3.out.size (.cells #[.int .i64 f, .int .i64 x, .int .i64 y, .int .i64 z] 23)).drew))
              clear hx hy hz hsum hp hv hg0
              go_wp2_with fail
              refine (normal_yes f x y z HV.out _ HHT.out).mono ?_
              rintro e w4 ⟨rfl, hb4⟩
              have hs4 := hb4.size
              simp at hs4
              have HN4 := Lib.hid ((HN3.out.below ((Below.refl wr.heap.size wr).alloc (Nat.le_refl _) (.cells #[.int .i64 f, .int .i64 x, .int .i64 y, .int .i64 z] 23)).drew).below hb4)
              have HBW4 := Lib.hid (below_then (HBW3.out.trans ((Below.refl w.heap.size wr).alloc HBW3.out.size (.cells #[.int .i64 f, .int .i64 x, .int .i64 y, .int .i64 z] 23)).drew) hb4 (by have := HBW3.out.size; simp; omega))
              have BP := blk_below (b := wr.heap.size) hb4 (blk_new wr _) (by simp)
              have p0 := blk_cell BP 0 (.int .i64 f) rfl
              have p1 := blk_cell BP 1 (.int .i64 x) rfl
              have p2 := blk_cell BP 2 (.int .i64 y) rfl
              have p3 := blk_cell BP 3 (.int .i64 z) rfl
              have hl4 : wr.heap.size < w4.heap.size := by omega
              have hq1 : isNode (plN h n f a b) = qEq f x y z := by rw [HP.out]; rfl
              have HBP := Lib.hid BP
              clear hb4 BP HHT
              cases hc : qEq f x y z
              · have hcmp : ∀ W, (binOp .eql 23 (.agg #[.int .i64 (nf f x y z : Nat), .int .i64 (nc f x y z 0), .int .i64 (nc f x y z 1), .int .i64 (nc f x y z 2)]) (.agg #[.int .i64 f, .int .i64 x, .int .i64 y, .int .i64 z])).run Tryd.prog W = .ok (.bool false) W := by
                  intro W
                  rw [eqlP]
                  exact congrArg (fun q => Result.ok (Value.bool q) W) hc
                have HE := Lib.hid (ptsTo_no h n f a b (hq1.trans hc))
                clear hq1 hc
                go_wp2
                go_roundw
                case rel => exact ⟨b + 1, by omega, by go_num, by rw [HE.out]; omega, below_alloc HBW4.out _, V3, by rw [HE.out]; exact HN4.out.below ((Below.refl _ _).alloc (Nat.le_refl _) _)⟩
                case measure => simp [intOf]; omega
              · have hcmp : ∀ W, (binOp .eql 23 (.agg #[.int .i64 (nf f x y z : Nat), .int .i64 (nc f x y z 0), .int .i64 (nc f x y z 1), .int .i64 (nc f x y z 2)]) (.agg #[.int .i64 f, .int .i64 x, .int .i64 y, .int .i64 z])).run Tryd.prog W = .ok (.bool true) W := by
                  intro W
                  rw [eqlP]
                  exact congrArg (fun q => Result.ok (Value.bool q) W) hc
                have HE := Lib.hid (ptsTo_yes h n f a b (hq1.trans hc))
                clear hq1 hc
                go_wp2
                have hv := (validB_iff ..).1 HV.out
                have HN5 := HN4.out.below ((Below.refl _ _).alloc (Nat.le_refl _) (.cells #[.int .i64 (nf f x y z : Nat), .int .i64 (nc f x y z 0), .int .i64 (nc f x y z 1), .int .i64 (nc f x y z 2)] 23)).drew
                have HB5 := (HBW4.out.alloc HBW4.out.size (.cells #[.int .i64 (nf f x y z : Nat), .int .i64 (nc f x y z 0), .int .i64 (nc f x y z 1), .int .i64 (nc f x y z 2)] 23)).drew
                obtain ⟨A, cp, rfl⟩ := own_slice HN5.row
                have wf0 : (Lit.int .i64 (f : Int)).wf = true := WalkArith.wf_i64 (by omega)
                have wf1 : (Lit.int .i64 x).wf = true := WalkArith.wf_i64 (by omega)
                have wf2 : (Lit.int .i64 y).wf = true := WalkArith.wf_i64 (by omega)
                have wf3 : (Lit.int .i64 z).wf = true := WalkArith.wf_i64 (by omega)
                obtain ⟨w6, hupd, hm6, hg6⟩ := HN5.map.put (by omega) ⟨f, x, y, z⟩ ⟨wf0, wf1, wf2, wf3⟩
                have hupd' : (Instr.mapUpdate 70 (.map (some w.heap.size)) (.agg #[.int .i64 f, .int .i64 x, .int .i64 y, .int .i64 z]) (.int .i64 ((ptsTo h n f a b).length : Nat))).run Tryd.prog (w4.alloc (.cells #[.int .i64 (nf f x y z : Nat), .int .i64 (nc f x y z 0), .int .i64 (nc f x y z 1), .int .i64 (nc f x y z 2)] 23)).drew = .ok () w6 := hupd
                obtain ⟨hblk6, hrow6⟩ := HN5.mapped hg6 hm6
                have hb6 : Below w.heap.size w w6 := HB5.grown hg6 (by have := HBW4.out.size; simp; omega) (by intro k hk; cases hk; exact Nat.le_refl _)
                have hc2 := blk_cell HN4.out.blk 2 (.slice A (ptsTo h n f a b).length cp) rfl
                have hc3 := blk_cell HN4.out.blk 3 (.map (some w.heap.size)) rfl
                have hlg := blk_lt HN4.out.blk
                have BP6 := (hg6.block wr.heap.size (by simp; omega) (by simp; omega)).trans (blk_old (w := w4) (.cells #[.int .i64 (nf f x y z : Nat), .int .i64 (nc f x y z 0), .int .i64 (nc f x y z 1), .int .i64 (nc f x y z 2)] 23) HBP.out)
                have HBP6 := Lib.hid BP6
                have hs6 := hg6.size
                simp at hs6
                have HM6 := Lib.hid hm6
                have HG6 := Lib.hid hg6
                have HBL6 := Lib.hid hblk6
                have HR6 := Lib.hid hrow6
                have HB6 := Lib.hid hb6
                clear hupd hm6 hg6 hblk6 hrow6 hb6 HN5 HB5 hv BP6 wf0 wf1 wf2 wf3
                go_region
                clear hupd' hc2 hc3 p0 p1 p2 p3
                have e2 := blk_cell HBL6.out 2 (.slice A (ptsTo h n f a b).length cp) rfl
                have p0 := blk_cell HBP6.out 0 (.int .i64 f) rfl
                have p1 := blk_cell HBP6.out 1 (.int .i64 x) rfl
                have p2 := blk_cell HBP6.out 2 (.int .i64 y) rfl
                have p3 := blk_cell HBP6.out 3 (.int .i64 z) rfl
                have hl6 : wr.heap.size < w6.heap.size := by omega
                have hl7 : w.heap.size + 1 < w6.heap.size := by omega
                obtain ⟨i0, hi, hz0, hz1, hz2⟩ := info_parts infoPl
                have HI := Lib.hid hi
                have HZ0 := Lib.hid hz0
                have HZ1 := Lib.hid hz1
                have HZ2 := Lib.hid hz2
                clear hi hz0 hz1 hz2
                go_wp2
                go_region_law ((refine step_append_lies _ (by rfl) _ _ 30 (by rfl) w.heap.size 23 i0 _ 4 32 Tryd.underlying30 HI.out HZ0.out HZ1.out HZ2.out rfl (by decide) _ (ptsTo h n f a b).length (cellsP (ptsTo h n f a b)) (by rfl) (by exact HR6.out.alloc _) ⟨w6.heap.size, 0, none⟩ 1 1 [.int .i64 f, .int .i64 x, .int .i64 y, .int .i64 z] (by rfl) rfl (by exact World.news_of_block (heap_alloc_new w6 (.cells #[.int .i64 f, .int .i64 x, .int .i64 y, .int .i64 z] 23))) (by simp [Value.oneCell']) (by omega) (by simp only [maxLen]; omega) (by omega) (by have := HB6.out.size; simp; omega) _ rfl ?_; intro g7 cap7 w7 hown7 hgrow7 hat7 hlt7; have HG67 := Lib.hid (grown_via hgrow7); have hb7 := NetP.grown HBL6.out HR6.out HG67.out; have s2 := blk_cell hb7 2 (.slice A (ptsTo h n f a b).length cp) rfl; have sf := blk_free hb7 2; have HO7 := Lib.hid hown7; clear hgrow7 hown7 hat7 hb7))
                all_goals
                  have HN7 := NetP.pushed HBL6.out HR6.out HM6.out HG67.out HO7.out
                  clear e2 p0 p1 p2 p3 s2 sf
                  have hB7 : Below w.heap.size w w7 := HB6.out.grown HG67.out HB6.out.size (fun k hk => (HR6.out.lt k hk).1)
                  have HB7 := Lib.hid hB7
                  rw [← HP.out, ← HE.out] at HN7
                  have HN8 := Lib.hid HN7
                  clear HN7 hB7
                  go_wp2
                  go_roundw
                  case rel => exact ⟨b + 1, by omega, by go_num, by rw [HE.out, List.length_append]; simp; omega, Below.setCell HB7.out (by exact Nat.le_succ _) _, _, HN8.out⟩
                  case measure => simp [intOf]; omega
            · have hbe : b = n + 1 - a := by omega
              go_wp2
              go_roundw
              case rel => exact ⟨a + 1, by omega, by go_num, by rw [ptsTo_a, ← hbe]; omega, HBW3.out, V3, by rw [ptsTo_a, ← hbe]; exact HN3.out⟩
              case measure => simp [intOf]; omega
        · obtain rfl : a = n + 1 := by omega
          go_wp2
          go_roundw
          case rel => exact ⟨f + 1, by omega, by go_num, by rw [ptsTo_f]; omega, HBW2.out, V2, by rw [ptsTo_f]; exact HN2.out⟩
          case measure => simp [intOf]; omega
    · obtain rfl : f = 20 := by omega
      go_wp2
      go_ret
      exact ⟨V, rfl, HN.out, HBW.out⟩

/-- The grid of a frequency that exists. -/
theorem points_any (n : Nat) (h1 : 1 ≤ n) (h8 : n ≤ 8) (w : World) (hT : TabOk w) :
    Calls Tryd.prog 26 #[.int .i64 n] w fun e w' => ∃ V, e = .returned (.pointer (some ⟨w.heap.size + 1, 0, none⟩)) ∧ NetP w.heap.size w' (840 / n) n (w.heap.size + 1) w.heap.size (nodes n) V ∧ Below w.heap.size w w' := by
  have hh : n * (840 / n) = 840 := by
    have : n = 1 ∨ n = 2 ∨ n = 3 ∨ n = 4 ∨ n = 5 ∨ n = 6 ∨ n = 7 ∨ n = 8 := by omega
    rcases this with rfl | rfl | rfl | rfl | rfl | rfl | rfl | rfl <;> decide
  rw [← ptsTo_end n]
  exact points_core n (840 / n) h1 h8 hh (by simp) w hT
end Go.Proofs.YtcoddcdiimpndaaDoor
set_option linter.unusedVariables false
set_option linter.unusedSimpArgs false
namespace Go.Proofs.YtcoddcdiimpndaaDoor
open Go.RowKit
/-- w' is w with new blocks, but for block g and the row C. -/
structure Chg (w w' : World) (g : Nat) (C : Value) : Prop where
  os : w'.os = w.os
  tape : w'.tape = w.tape
  output : w'.output = w.output
  size : w.heap.size ≤ w'.heap.size
  block : ∀ k, k < w.heap.size → k ≠ g → some k ≠ C.ownBlock → w'.heap[k]? = w.heap[k]?
theorem Chg.below {w w' : World} {g B : Nat} {C : Value} (h : Chg w w' g C) (hg : B ≤ g) (hC : ∀ k, C.ownBlock = some k → B ≤ k) (hB : B ≤ w.heap.size) : Below B w w' :=
  ⟨h.os, h.tape, h.output, h.size, fun k hk => h.block k (by omega) (by omega) (fun e => by have := hC k e.symm; omega)⟩
theorem chg_of_below {w w' : World} (h : Below w.heap.size w w') (g : Nat) (C : Value) : Chg w w' g C := ⟨h.os, h.tape, h.output, h.size, fun k hk _ _ => h.block k hk⟩
theorem Chg.of_new {w w1 w2 : World} {g : Nat} {C : Value} (h : Below w.heap.size w w1) (k : Chg w1 w2 g C) : Chg w w2 g C :=
  ⟨k.os.trans h.os, k.tape.trans h.tape, k.output.trans h.output, Nat.le_trans h.size k.size, fun b hb h1 h2 => (k.block b (Nat.lt_of_lt_of_le hb h.size) h1 h2).trans (h.block b hb)⟩
/-- A grid whose cells are being listed. -/
structure NetC (B : Nat) (w : World) (h n : Nat) (g gm : Nat) (l : List Pl) (V C : Value) (L : List Tri) : Prop where
  blk : w.heap[g]? = some (.cells #[.int .i64 n, .int .i64 h, V, .map (some gm), C, .slice none 0 0, .slice none 0 0] 73 (0, 0))
  row : w.ownsRow B 23 4 V l.length (cellsP l)
  map : MapIx w gm l
  tri : w.ownsRow B 54 3 C L.length (cellsT L)
  bg : B ≤ g
theorem NetC.reads {B : Nat} {w : World} {h n g gm : Nat} {l : List Pl} {V C : Value} {L : List Tri} (H : NetC B w h n g gm l V C L) : NetR w h n g gm l :=
  ⟨blk_lt H.blk, blk_cell H.blk 0 _ rfl, blk_cell H.blk 1 _ rfl, blk_cell H.blk 3 _ rfl, H.map⟩
theorem NetC.below {B : Nat} {w w1 : World} {h n g gm : Nat} {l : List Pl} {V C : Value} {L : List Tri} (H : NetC B w h n g gm l V C L) (hb : Below w.heap.size w w1) : NetC B w1 h n g gm l V C L :=
  ⟨blk_below hb H.blk (blk_lt H.blk), own_below H.row hb, H.map.below hb, own_below H.tri hb, H.bg⟩
theorem netNeT (cur : Array Value) (cs : Array Value) : Obj.cells cs 73 (0, 0) ≠ .cells cur 54 (0, 0) := by
  intro h
  injection h with _ h2
  exact absurd h2 (by decide)
theorem plNeT (cur : Array Value) (cs : Array Value) : Obj.cells cs 23 (0, 0) ≠ .cells cur 54 (0, 0) := by
  intro h
  injection h with _ h2
  exact absurd h2 (by decide)
theorem own_apart {w : World} {base base' : Nat} {e e' : TypeId} {size size' n n' : Nat} {v v' : Value} {xs xs' : List Value} (h : w.ownsRow base e size v n xs) (h' : w.ownsRow base' e' size' v' n' xs') (hne : e ≠ e') : v'.ownBlock = none ∨ v'.ownBlock ≠ v.ownBlock := by
  cases hv' : v'.ownBlock with
  | none => exact .inl rfl
  | some k =>
    right
    intro e1
    obtain ⟨c1, h1⟩ := own_blk h' k hv'
    obtain ⟨c2, h2⟩ := own_blk h k e1.symm
    rw [h1] at h2
    injection h2 with h2
    injection h2 with _ h3
    exact hne h3.symm
/-- Behind the append of a cell, and the store of the new row. -/
theorem NetC.pushed {B : Nat} {w w7 : World} {h n g gm : Nat} {l : List Pl} {V C C' : Value} {L : List Tri} {t : Tri} (H : NetC B w h n g gm l V C L) (hg : w.grownBy w7 C.ownBlock)
    (hr : w7.ownsRow B 54 3 C' (L.length + 1) (cellsT L ++ [.int .i64 t.a, .int .i64 t.b, .int .i64 t.c])) : NetC B (w7.setCell ⟨g, 4, none⟩ C') h n g gm l V C' (L ++ [t]) ∧ Chg w (w7.setCell ⟨g, 4, none⟩ C') g C := by
  have hblk7 : w7.heap[g]? = _ := (hg.block g (blk_lt H.blk) (own_ne H.tri H.blk (netNeT · _))).trans H.blk
  have hs := setCell_grown w7 ⟨g, 4, none⟩ C'
  have hm0 := H.map
  obtain ⟨es, clock, hbm, _⟩ := hm0
  have hgm : w7.heap[gm]? = some (.map es clock) := (hg.block gm (blk_lt hbm) (own_ne H.tri hbm (by simp))).trans hbm
  have hne : gm ≠ g := by
    intro e
    subst e
    rw [hblk7] at hgm
    cases hgm
  have hrow7 : w7.ownsRow B 23 4 V l.length (cellsP l) := H.row.kept hg (own_apart H.tri H.row (by decide))
  have hmap7 : MapIx w7 gm l := World.ownsMap.kept H.map hg (own_ne H.tri hbm (by simp))
  refine ⟨⟨heap_setCell_same w7 g 4 _ _ C' hblk7, hrow7.kept hs (.inr (Ne.symm (own_ne hrow7 hblk7 (netNeP · _)))), World.ownsMap.kept hmap7 hs (by simpa using hne), ?_, H.bg⟩, ?_⟩
  · have e : cellsT (L ++ [t]) = cellsT L ++ [.int .i64 t.a, .int .i64 t.b, .int .i64 t.c] := by simp [cellsT, tric]
    rw [e, List.length_append]
    exact hr.kept hs (.inr (Ne.symm (own_ne hr hblk7 (netNeT · _))))
  · exact ⟨hg.os, hg.tape, hg.output, by simpa using hg.size, fun k hk h1 h2 => (heap_setCell_other w7 ⟨g, 4, none⟩ k C' h1).trans (hg.block k hk h2)⟩
theorem grown_lowC {B : Nat} {w w1 w2 : World} {b : Nat} (h : Below B w w1) (hg : w1.grownBy w2 (some b)) (hB : B ≤ w1.heap.size) (hb : B ≤ b) : Below B w w2 :=
  h.grown hg hB (fun k hk => by cases hk; exact hb)
/-- Three numbers in order. -/
def triOf (x y z : Int) : Tri := ⟨(sortI [x, y, z])[0]!, (sortI [x, y, z])[1]!, (sortI [x, y, z])[2]!⟩
theorem put3 (x y z : Int) (c0 c1 c2 : Value) : putI (sortI [x, y, z]) #[c0, c1, c2] = #[.int .i64 (triOf x y z).a, .int .i64 (triOf x y z).b, .int .i64 (triOf x y z).c] := by
  have hl : (sortI [x, y, z]).length = 3 := sortI_length _
  apply Array.ext_getElem?
  intro i
  by_cases h : i < 3
  · rw [putI_get _ _ i (by omega) (by simpa using h)]
    rcases (show i = 0 ∨ i = 1 ∨ i = 2 by omega) with rfl | rfl | rfl <;> rfl
  · rw [Array.getElem?_eq_none (by rw [putI_size]; simp; omega), Array.getElem?_eq_none (by simp; omega)]
theorem infoT : (Tryd.prog.info? 54).map (fun i => (i.zero, i.size, i.bytes)) = some (some (.agg #[.int .i64 0, .int .i64 0, .int .i64 0]), 3, 24) := by kernel_rfl
def kk (K : Nat → Int) (k j : Nat) : Int := if j < k then K j else 0
set_option maxRecDepth 100000 in
set_option maxHeartbeats 4000000 in
theorem cell_any (B : Nat) (w : World) (h n g gm : Nat) (l : List Pl) (V C : Value) (L : List Tri) (f : Int) (qx qy qz : Nat → Int) (hv : ∀ j, j < 3 → validB f (qx j) (qy j) (qz j) = true) (hN : NetC B w h n g gm l V C L) (hT : TabOk w) (hl : Fine l) (hL : L.length ≤ 100000) :
    Calls Tryd.prog 66 #[.pointer (some ⟨g, 0, none⟩), .agg #[.int .i64 f, .int .i64 (qx 0), .int .i64 (qy 0), .int .i64 (qz 0), .int .i64 f, .int .i64 (qx 1), .int .i64 (qy 1), .int .i64 (qz 1), .int .i64 f, .int .i64 (qx 2), .int .i64 (qy 2), .int .i64 (qz 2)]] w fun e w' =>
      e = .returned (.tuple #[]) ∧ ∃ C', NetC B w' h n g gm l V C' (L ++ [triOf (ix l (normPl f (qx 0) (qy 0) (qz 0)) : Nat) (ix l (normPl f (qx 1) (qy 1) (qz 1)) : Nat) (ix l (normPl f (qx 2) (qy 2) (qz 2)) : Nat)]) ∧ Chg w w' g C := by
  obtain ⟨K, hK⟩ : ∃ K : Nat → Int, ∀ j, K j = ((ix l (normPl f (qx j) (qy j) (qz j)) : Nat) : Int) := ⟨_, fun _ => rfl⟩
  rw [← hK 0, ← hK 1, ← hK 2]
  have HAT := Lib.hid (fun (j : Nat) (hj : j < 3) (W : World) (hTW : TabOk W) (hNW : NetR W h n g gm l) => at_any f (qx j) (qy j) (qz j) (hv j hj) W hTW h n g gm l hNW hl)
  have HAT2 : Hid (∀ j : Nat, j < 3 → ∀ W : World, TabOk W → NetR W h n g gm l → Calls Tryd.prog 44 #[.pointer (some ⟨g, 0, none⟩), .agg #[.int .i64 f, .int .i64 (qx j), .int .i64 (qy j), .int .i64 (qz j)]] W fun e w' => e = .returned (.int .i64 (K j)) ∧ Below W.heap.size W w') := Lib.hid (fun j hj W h1 h2 => by rw [hK j]; exact HAT.out j hj W h1 h2)
  have HIDX := Lib.hid (fun (k : Nat) (hk : k < 3) (W : World) => idx_at f qx qy qz k hk W)
  have HN := Lib.hid hN
  have HT := Lib.hid hT
  have hg0 := blk_lt hN.blk
  clear hv hN hT HAT hK
  go_enter Tryd.func66, Tryd.ntmps66
  go_wp2_with fail
  go_loopw [8] (fun s8 wr => ∃ k : Nat, k ≤ 3 ∧ s8 = .int .i64 k ∧ Below w.heap.size w wr ∧ wr.heap[w.heap.size + 1]? = some (.cells #[.int .i64 (kk K k 0), .int .i64 (kk K k 1), .int .i64 (kk K k 2)] 75 (0, 0))) (fun s8 _ => 3 - (intOf s8).toNat)
  case atStart => exact ⟨0, by omega, rfl, below_alloc (below_alloc (Below.refl _ _) _) _, by simpa [kk] using blk_new (w.alloc _) _⟩
  case round =>
    obtain ⟨k, hk, rfl, hb, hbk⟩ := hrel
    have HB := Lib.hid hb
    have HBK := Lib.hid hbk
    have hlk := blk_lt hbk
    clear hb hbk
    by_cases hk3 : k < 3
    · have hkI : (k : Int) < 3 := by omega
      have hidx := HIDX.out k hk3
      obtain ⟨w1, hw1⟩ : ∃ w1, w1 = wr.alloc (.cells #[.int .i64 f, .int .i64 (qx k), .int .i64 (qy k), .int .i64 (qz k)] 23) := ⟨_, rfl⟩
      have HB1 := Lib.hid (show Below w.heap.size w w1 by rw [hw1]; exact HB.out.alloc HB.out.size _)
      have HBK1 := Lib.hid (show w1.heap[w.heap.size + 1]? = some (.cells #[.int .i64 (kk K k 0), .int .i64 (kk K k 1), .int .i64 (kk K k 2)] 75 (0, 0)) by rw [hw1]; exact blk_old _ HBK.out)
      have HD1 := Lib.hid (show w1.heap[wr.heap.size]? = some (.cells #[.int .i64 f, .int .i64 (qx k), .int .i64 (qy k), .int .i64 (qz k)] 23 (0, 0)) by rw [hw1]; exact blk_new wr _)
      go_upto_region 5 with fail
      rw [← hw1]
      have d0 := blk_cell HD1.out 0 (.int .i64 f) rfl
      have d1 := blk_cell HD1.out 1 (.int .i64 (qx k)) rfl
      have d2 := blk_cell HD1.out 2 (.int .i64 (qy k)) rfl
      have d3 := blk_cell HD1.out 3 (.int .i64 (qz k)) rfl
      have hlD := blk_lt HD1.out
      clear hw1 hidx HB HBK
      go_wp2_with fail
      refine (HAT2.out k hk3 _ (HT.out.below HB1.out) (HN.out.below HB1.out).reads).mono ?_
      rintro e w2 ⟨rfl, hb2⟩
      have HB2 := Lib.hid (below_then HB1.out hb2 HB1.out.size)
      have hbk2 := blk_below hb2 HBK1.out (blk_lt HBK1.out)
      have HBK2 := Lib.hid hbk2
      have hl2 := blk_lt hbk2
      have f2 := blk_free hbk2 k
      have c2 : w2.cell? ⟨w.heap.size + 1, k, none⟩ = some (.int .i64 (kk K k k)) := blk_cell hbk2 k _ (by rcases (show k = 0 ∨ k = 1 ∨ k = 2 by omega) with rfl | rfl | rfl <;> rfl)
      clear hb2 hbk2 d0 d1 d2 d3 hlD HB1 HBK1 HD1
      go_wp2_with fail
      go_roundw
      case rel => exact ⟨k + 1, by omega, by go_num, Below.setCell HB2.out (by exact Nat.le_succ _) _, by
        have := heap_setCell_same w2 (w.heap.size + 1) k _ _ (.int .i64 (K k)) HBK2.out
        rw [this]
        rcases (show k = 0 ∨ k = 1 ∨ k = 2 by omega) with rfl | rfl | rfl <;> simp [kk]⟩
      case measure => simp [intOf]; omega
    · obtain rfl : k = 3 := by omega
      have hk0 : kk K 3 0 = K 0 := rfl
      have hk1 : kk K 3 1 = K 1 := rfl
      have hk2 : kk K 3 2 = K 2 := rfl
      rw [hk0, hk1, hk2] at HBK
      have HBK' := HBK
      clear hk0 hk1 hk2
      go_wp2_with fail
      refine (sortI_blk [K 0, K 1, K 2] (w.heap.size + 1) 3 _ 75 _ HBK.out (fun i hi => ?_) (by simp)).mono ?_
      · rcases (show i = 0 ∨ i = 1 ∨ i = 2 by simp at hi; omega) with rfl | rfl | rfl <;> rfl
      rintro e w3 ⟨rfl, hb3, hg3⟩
      rw [put3] at hb3
      have HB3 := Lib.hid (grown_lowC HB.out hg3 HB.out.size (Nat.le_succ _))
      obtain ⟨t, htr⟩ : ∃ t, t = triOf (K 0) (K 1) (K 2) := ⟨_, rfl⟩
      rw [← htr] at hb3
      have HTR := Lib.hid htr
      clear htr
      have k0 := blk_cell hb3 0 (.int .i64 t.a) rfl
      have k1 := blk_cell hb3 1 (.int .i64 t.b) rfl
      have k2 := blk_cell hb3 2 (.int .i64 t.c) rfl
      have hl3 := blk_lt hb3
      have hN3 := HN.out.below HB3.out
      have hc4 := blk_cell hN3.blk 4 C rfl
      have hlg := blk_lt hN3.blk
      have HN3 := Lib.hid hN3
      obtain ⟨A, cp, hC⟩ := own_slice hN3.tri
      subst hC
      obtain ⟨i0, hi, hz0, hz1, hz2⟩ := info_parts infoT
      have HI := Lib.hid hi
      have HZ0 := Lib.hid hz0
      have HZ1 := Lib.hid hz1
      have HZ2 := Lib.hid hz2
      clear hi hz0 hz1 hz2 hN3 hb3 hg3 HB HBK HBK'
      go_wp2_with fail
      go_region_law ((refine step_append_lies _ (by rfl) _ _ 48 (by rfl) B 54 i0 _ 3 24 Tryd.underlying48 HI.out HZ0.out HZ1.out HZ2.out rfl (by decide) _ L.length (cellsT L) (by rfl) (by exact HN3.out.tri.alloc _) ⟨w3.heap.size, 0, none⟩ 1 1 [.int .i64 t.a, .int .i64 t.b, .int .i64 t.c] (by rfl) rfl (by exact World.news_of_block (heap_alloc_new w3 (.cells #[.int .i64 t.a, .int .i64 t.b, .int .i64 t.c] 54))) (by simp [Value.oneCell']) (by omega) (by simp only [maxLen]; omega) (by omega) (by have := HN3.out.bg; simp; omega) _ rfl ?_; intro g7 cap7 w7 hown7 hgrow7 hat7 hlt7; have HG37 := Lib.hid (grown_via hgrow7); have hb7 := (HG37.out.block g hlg (own_ne HN3.out.tri HN3.out.blk (netNeT · _))).trans HN3.out.blk; have s4 := blk_cell hb7 4 (.slice A L.length cp) rfl; have sf := blk_free hb7 4; have hl7 := blk_lt hb7; have HO7 := Lib.hid hown7; clear hgrow7 hown7 hat7 hb7))
      all_goals
        have HP := Lib.hid (NetC.pushed (t := t) HN3.out HG37.out HO7.out)
        clear k0 k1 k2 hc4 s4 sf
        go_wp2_with fail
        go_end0
        rw [← HTR.out]
        refine ⟨rfl, _, HP.out.1, ?_⟩
        exact Chg.of_new HB3.out HP.out.2
end Go.Proofs.YtcoddcdiimpndaaDoor
