/-
  The walks of mesh's cell and cells: the cells are listed.
-/
import Derived.Test.YtcoddcdiimpndaaGreatDoorM07
import Derived.Test.YtcoddcdiimpndaaGreatDoorM10
import Derived.Test.YtcoddcdiimpndaaGreatDoorM11
set_option linter.unusedVariables false
set_option linter.unusedSimpArgs false
namespace Go.Proofs.YtcoddcdiimpndaaGreatDoor
open Go.RowKit
/-- w' is w with new blocks, but for block g and the row C. -/
structure Chg (w w' : World) (g : Nat) (C : Value) : Prop where
  os : w'.os = w.os
  tape : w'.tape = w.tape
  output : w'.output = w.output
  size : w.heap.size ≤ w'.heap.size
  block : ∀ k, k < w.heap.size → k ≠ g → some k ≠ C.ownBlock → w'.heap[k]? = w.heap[k]?
theorem Chg.below {w w' : World} {g B : Nat} {C : Value} (h : Chg w w' g C) (hg : B ≤ g) (hC : ∀ k, C.ownBlock = some k → B ≤ k) (hB : B ≤ w.heap.size) : Below B w w' :=
  ⟨h.os, h.tape, h.output, h.size, fun k hk => h.block k (by omega) (by omega) (fun e => by have := hC k e.symm; omega)⟩
theorem chg_of_below {w w' : World} (h : Below w.heap.size w w') (g : Nat) (C : Value) : Chg w w' g C := ⟨h.os, h.tape, h.output, h.size, fun k hk _ _ => h.block k hk⟩
theorem Chg.of_new {w w1 w2 : World} {g : Nat} {C : Value} (h : Below w.heap.size w w1) (k : Chg w1 w2 g C) : Chg w w2 g C :=
  ⟨k.os.trans h.os, k.tape.trans h.tape, k.output.trans h.output, Nat.le_trans h.size k.size, fun b hb h1 h2 => (k.block b (Nat.lt_of_lt_of_le hb h.size) h1 h2).trans (h.block b hb)⟩
/-- A grid whose cells are being listed. -/
structure NetC (B : Nat) (w : World) (h n : Nat) (g gm : Nat) (l : List Pl) (V C : Value) (L : List Tri) : Prop where
  blk : w.heap[g]? = some (.cells #[.int .i64 n, .int .i64 h, V, .map (some gm), C, .slice none 0 0, .slice none 0 0] 85 (0, 0))
  row : w.ownsRow B 32 4 V l.length (cellsP l)
  map : MapIx w gm l
  tri : w.ownsRow B 34 3 C L.length (cellsT L)
  bg : B ≤ g
theorem NetC.reads {B : Nat} {w : World} {h n g gm : Nat} {l : List Pl} {V C : Value} {L : List Tri} (H : NetC B w h n g gm l V C L) : NetR w h n g gm l :=
  ⟨blk_lt H.blk, blk_cell H.blk 0 _ rfl, blk_cell H.blk 1 _ rfl, blk_cell H.blk 3 _ rfl, H.map⟩
theorem NetC.below {B : Nat} {w w1 : World} {h n g gm : Nat} {l : List Pl} {V C : Value} {L : List Tri} (H : NetC B w h n g gm l V C L) (hb : Below w.heap.size w w1) : NetC B w1 h n g gm l V C L :=
  ⟨blk_below hb H.blk (blk_lt H.blk), own_below H.row hb, H.map.below hb, own_below H.tri hb, H.bg⟩
theorem netNeT (cur : Array Value) (cs : Array Value) : Obj.cells cs 85 (0, 0) ≠ .cells cur 34 (0, 0) := by
  intro h
  injection h with _ h2
  exact absurd h2 (by decide)
theorem plNeT (cur : Array Value) (cs : Array Value) : Obj.cells cs 32 (0, 0) ≠ .cells cur 34 (0, 0) := by
  intro h
  injection h with _ h2
  exact absurd h2 (by decide)
theorem own_apart {w : World} {base base' : Nat} {e e' : TypeId} {size size' n n' : Nat} {v v' : Value} {xs xs' : List Value} (h : w.ownsRow base e size v n xs) (h' : w.ownsRow base' e' size' v' n' xs') (hne : e ≠ e') : v'.ownBlock = none ∨ v'.ownBlock ≠ v.ownBlock := by
  cases hv' : v'.ownBlock with
  | none => exact .inl rfl
  | some k =>
    right
    intro e1
    obtain ⟨c1, h1⟩ := own_blk h' k hv'
    obtain ⟨c2, h2⟩ := own_blk h k e1.symm
    rw [h1] at h2
    injection h2 with h2
    injection h2 with _ h3
    exact hne h3.symm
/-- Behind the append of a cell, and the store of the new row. -/
theorem NetC.pushed {B : Nat} {w w7 : World} {h n g gm : Nat} {l : List Pl} {V C C' : Value} {L : List Tri} {t : Tri} (H : NetC B w h n g gm l V C L) (hg : w.grownBy w7 C.ownBlock)
    (hr : w7.ownsRow B 34 3 C' (L.length + 1) (cellsT L ++ [.int .i64 t.a, .int .i64 t.b, .int .i64 t.c])) : NetC B (w7.setCell ⟨g, 4, none⟩ C') h n g gm l V C' (L ++ [t]) ∧ Chg w (w7.setCell ⟨g, 4, none⟩ C') g C := by
  have hblk7 : w7.heap[g]? = _ := (hg.block g (blk_lt H.blk) (own_ne H.tri H.blk (netNeT · _))).trans H.blk
  have hs := setCell_grown w7 ⟨g, 4, none⟩ C'
  have hm0 := H.map
  obtain ⟨es, clock, hbm, _⟩ := hm0
  have hgm : w7.heap[gm]? = some (.map es clock) := (hg.block gm (blk_lt hbm) (own_ne H.tri hbm (by simp))).trans hbm
  have hne : gm ≠ g := by
    intro e
    subst e
    rw [hblk7] at hgm
    cases hgm
  have hrow7 : w7.ownsRow B 32 4 V l.length (cellsP l) := H.row.kept hg (own_apart H.tri H.row (by decide))
  have hmap7 : MapIx w7 gm l := World.ownsMap.kept H.map hg (own_ne H.tri hbm (by simp))
  refine ⟨⟨heap_setCell_same w7 g 4 _ _ C' hblk7, hrow7.kept hs (.inr (Ne.symm (own_ne hrow7 hblk7 (netNeP · _)))), World.ownsMap.kept hmap7 hs (by simpa using hne), ?_, H.bg⟩, ?_⟩
  · have e : cellsT (L ++ [t]) = cellsT L ++ [.int .i64 t.a, .int .i64 t.b, .int .i64 t.c] := by simp [cellsT, tric]
    rw [e, List.length_append]
    exact hr.kept hs (.inr (Ne.symm (own_ne hr hblk7 (netNeT · _))))
  · exact ⟨hg.os, hg.tape, hg.output, by simpa using hg.size, fun k hk h1 h2 => (heap_setCell_other w7 ⟨g, 4, none⟩ k C' h1).trans (hg.block k hk h2)⟩
theorem grown_lowC {B : Nat} {w w1 w2 : World} {b : Nat} (h : Below B w w1) (hg : w1.grownBy w2 (some b)) (hB : B ≤ w1.heap.size) (hb : B ≤ b) : Below B w w2 :=
  h.grown hg hB (fun k hk => by cases hk; exact hb)
/-- Three numbers in order. -/
def triOf (x y z : Int) : Tri := ⟨(sortI [x, y, z])[0]!, (sortI [x, y, z])[1]!, (sortI [x, y, z])[2]!⟩
theorem put3 (x y z : Int) (c0 c1 c2 : Value) : putI (sortI [x, y, z]) #[c0, c1, c2] = #[.int .i64 (triOf x y z).a, .int .i64 (triOf x y z).b, .int .i64 (triOf x y z).c] := by
  have hl : (sortI [x, y, z]).length = 3 := sortI_length _
  apply Array.ext_getElem?
  intro i
  by_cases h : i < 3
  · rw [putI_get _ _ i (by omega) (by simpa using h)]
    rcases (show i = 0 ∨ i = 1 ∨ i = 2 by omega) with rfl | rfl | rfl <;> rfl
  · rw [Array.getElem?_eq_none (by rw [putI_size]; simp; omega), Array.getElem?_eq_none (by simp; omega)]
theorem infoT : (Tryz.prog.info? 34).map (fun i => (i.zero, i.size, i.bytes)) = some (some (.agg #[.int .i64 0, .int .i64 0, .int .i64 0]), 3, 24) := by kernel_rfl
def kk (K : Nat → Int) (k j : Nat) : Int := if j < k then K j else 0
set_option maxRecDepth 100000 in
set_option maxHeartbeats 4000000 in
theorem cell_any (B : Nat) (w : World) (h n g gm : Nat) (l : List Pl) (V C : Value) (L : List Tri) (f : Int) (qx qy qz : Nat → Int) (hv : ∀ j, j < 3 → validB f (qx j) (qy j) (qz j) = true) (hN : NetC B w h n g gm l V C L) (hT : TabOk w) (hl : Fine l) (hL : L.length ≤ 100000) :
    Calls Tryz.prog 117 #[.pointer (some ⟨g, 0, none⟩), .agg #[.int .i64 f, .int .i64 (qx 0), .int .i64 (qy 0), .int .i64 (qz 0), .int .i64 f, .int .i64 (qx 1), .int .i64 (qy 1), .int .i64 (qz 1), .int .i64 f, .int .i64 (qx 2), .int .i64 (qy 2), .int .i64 (qz 2)]] w fun e w' =>
      e = .returned (.tuple #[]) ∧ ∃ C', NetC B w' h n g gm l V C' (L ++ [triOf (ix l (normPl f (qx 0) (qy 0) (qz 0)) : Nat) (ix l (normPl f (qx 1) (qy 1) (qz 1)) : Nat) (ix l (normPl f (qx 2) (qy 2) (qz 2)) : Nat)]) ∧ Chg w w' g C := by
  obtain ⟨K, hK⟩ : ∃ K : Nat → Int, ∀ j, K j = ((ix l (normPl f (qx j) (qy j) (qz j)) : Nat) : Int) := ⟨_, fun _ => rfl⟩
  rw [← hK 0, ← hK 1, ← hK 2]
  have HAT := Lib.hid (fun (j : Nat) (hj : j < 3) (W : World) (hTW : TabOk W) (hNW : NetR W h n g gm l) => at_any f (qx j) (qy j) (qz j) (hv j hj) W hTW h n g gm l hNW hl)
  have HAT2 : Hid (∀ j : Nat, j < 3 → ∀ W : World, TabOk W → NetR W h n g gm l → Calls Tryz.prog 100 #[.pointer (some ⟨g, 0, none⟩), .agg #[.int .i64 f, .int .i64 (qx j), .int .i64 (qy j), .int .i64 (qz j)]] W fun e w' => e = .returned (.int .i64 (K j)) ∧ Below W.heap.size W w') := Lib.hid (fun j hj W h1 h2 => by rw [hK j]; exact HAT.out j hj W h1 h2)
  have HIDX := Lib.hid (fun (k : Nat) (hk : k < 3) (W : World) => idx_at f qx qy qz k hk W)
  have HN := Lib.hid hN
  have HT := Lib.hid hT
  have hg0 := blk_lt hN.blk
  clear hv hN hT HAT hK
  go_enter Tryz.func117, Tryz.ntmps117
  go_wp2_with fail
  go_loopw [8] (fun s8 wr => ∃ k : Nat, k ≤ 3 ∧ s8 = .int .i64 k ∧ Below w.heap.size w wr ∧ wr.heap[w.heap.size + 1]? = some (.cells #[.int .i64 (kk K k 0), .int .i64 (kk K k 1), .int .i64 (kk K k 2)] 97 (0, 0))) (fun s8 _ => 3 - (intOf s8).toNat)
  case atStart => exact ⟨0, by omega, rfl, below_alloc (below_alloc (Below.refl _ _) _) _, by simpa [kk] using blk_new (w.alloc _) _⟩
  case round =>
    obtain ⟨k, hk, rfl, hb, hbk⟩ := hrel
    have HB := Lib.hid hb
    have HBK := Lib.hid hbk
    have hlk := blk_lt hbk
    clear hb hbk
    by_cases hk3 : k < 3
    · have hkI : (k : Int) < 3 := by omega
      have hidx := HIDX.out k hk3
      obtain ⟨w1, hw1⟩ : ∃ w1, w1 = wr.alloc (.cells #[.int .i64 f, .int .i64 (qx k), .int .i64 (qy k), .int .i64 (qz k)] 32) := ⟨_, rfl⟩
      have HB1 := Lib.hid (show Below w.heap.size w w1 by rw [hw1]; exact HB.out.alloc HB.out.size _)
      have HBK1 := Lib.hid (show w1.heap[w.heap.size + 1]? = some (.cells #[.int .i64 (kk K k 0), .int .i64 (kk K k 1), .int .i64 (kk K k 2)] 97 (0, 0)) by rw [hw1]; exact blk_old _ HBK.out)
      have HD1 := Lib.hid (show w1.heap[wr.heap.size]? = some (.cells #[.int .i64 f, .int .i64 (qx k), .int .i64 (qy k), .int .i64 (qz k)] 32 (0, 0)) by rw [hw1]; exact blk_new wr _)
      go_upto_region 5 with fail
      rw [← hw1]
      have d0 := blk_cell HD1.out 0 (.int .i64 f) rfl
      have d1 := blk_cell HD1.out 1 (.int .i64 (qx k)) rfl
      have d2 := blk_cell HD1.out 2 (.int .i64 (qy k)) rfl
      have d3 := blk_cell HD1.out 3 (.int .i64 (qz k)) rfl
      have hlD := blk_lt HD1.out
      clear hw1 hidx HB HBK
      go_wp2_with fail
      refine (HAT2.out k hk3 _ (HT.out.below HB1.out) (HN.out.below HB1.out).reads).mono ?_
      rintro e w2 ⟨rfl, hb2⟩
      have HB2 := Lib.hid (below_then HB1.out hb2 HB1.out.size)
      have hbk2 := blk_below hb2 HBK1.out (blk_lt HBK1.out)
      have HBK2 := Lib.hid hbk2
      have hl2 := blk_lt hbk2
      have f2 := blk_free hbk2 k
      have c2 : w2.cell? ⟨w.heap.size + 1, k, none⟩ = some (.int .i64 (kk K k k)) := blk_cell hbk2 k _ (by rcases (show k = 0 ∨ k = 1 ∨ k = 2 by omega) with rfl | rfl | rfl <;> rfl)
      clear hb2 hbk2 d0 d1 d2 d3 hlD HB1 HBK1 HD1
      go_wp2_with fail
      go_roundw
      case rel => exact ⟨k + 1, by omega, by go_num, Below.setCell HB2.out (by exact Nat.le_succ _) _, by
        have := heap_setCell_same w2 (w.heap.size + 1) k _ _ (.int .i64 (K k)) HBK2.out
        rw [this]
        rcases (show k = 0 ∨ k = 1 ∨ k = 2 by omega) with rfl | rfl | rfl <;> simp [kk]⟩
      case measure => simp [intOf]; omega
    · obtain rfl : k = 3 := by omega
      have hk0 : kk K 3 0 = K 0 := rfl
      have hk1 : kk K 3 1 = K 1 := rfl
      have hk2 : kk K 3 2 = K 2 := rfl
      rw [hk0, hk1, hk2] at HBK
      have HBK' := HBK
      clear hk0 hk1 hk2
      go_wp2_with fail
      refine (sortI_blk [K 0, K 1, K 2] (w.heap.size + 1) 3 _ 97 _ HBK.out (fun i hi => ?_) (by simp)).mono ?_
      · rcases (show i = 0 ∨ i = 1 ∨ i = 2 by simp at hi; omega) with rfl | rfl | rfl <;> rfl
      rintro e w3 ⟨rfl, hb3, hg3⟩
      rw [put3] at hb3
      have HB3 := Lib.hid (grown_lowC HB.out hg3 HB.out.size (Nat.le_succ _))
      obtain ⟨t, htr⟩ : ∃ t, t = triOf (K 0) (K 1) (K 2) := ⟨_, rfl⟩
      rw [← htr] at hb3
      have HTR := Lib.hid htr
      clear htr
      have k0 := blk_cell hb3 0 (.int .i64 t.a) rfl
      have k1 := blk_cell hb3 1 (.int .i64 t.b) rfl
      have k2 := blk_cell hb3 2 (.int .i64 t.c) rfl
      have hl3 := blk_lt hb3
      have hN3 := HN.out.below HB3.out
      have hc4 := blk_cell hN3.blk 4 C rfl
      have hlg := blk_lt hN3.blk
      have HN3 := Lib.hid hN3
      obtain ⟨A, cp, hC⟩ := own_slice hN3.tri
      subst hC
      obtain ⟨i0, hi, hz0, hz1, hz2⟩ := info_parts infoT
      have HI := Lib.hid hi
      have HZ0 := Lib.hid hz0
      have HZ1 := Lib.hid hz1
      have HZ2 := Lib.hid hz2
      clear hi hz0 hz1 hz2 hN3 hb3 hg3 HB HBK HBK'
      go_wp2_with fail
      go_region_law ((refine step_append_lies _ (by rfl) _ _ 28 (by rfl) B 34 i0 _ 3 24 Tryz.underlying28 HI.out HZ0.out HZ1.out HZ2.out rfl (by decide) _ L.length (cellsT L) (by rfl) (by exact HN3.out.tri.alloc _) ⟨w3.heap.size, 0, none⟩ 1 1 [.int .i64 t.a, .int .i64 t.b, .int .i64 t.c] (by rfl) rfl (by exact World.news_of_block (heap_alloc_new w3 (.cells #[.int .i64 t.a, .int .i64 t.b, .int .i64 t.c] 34))) (by simp [Value.oneCell']) (by omega) (by simp only [maxLen]; omega) (by omega) (by have := HN3.out.bg; simp; omega) _ rfl ?_; intro g7 cap7 w7 hown7 hgrow7 hat7 hlt7; have HG37 := Lib.hid (grown_via hgrow7); have hb7 := (HG37.out.block g hlg (own_ne HN3.out.tri HN3.out.blk (netNeT · _))).trans HN3.out.blk; have s4 := blk_cell hb7 4 (.slice A L.length cp) rfl; have sf := blk_free hb7 4; have hl7 := blk_lt hb7; have HO7 := Lib.hid hown7; clear hgrow7 hown7 hat7 hb7))
      all_goals
        have HP := Lib.hid (NetC.pushed (t := t) HN3.out HG37.out HO7.out)
        clear k0 k1 k2 hc4 s4 sf
        go_wp2_with fail
        go_end0
        rw [← HTR.out]
        refine ⟨rfl, _, HP.out.1, ?_⟩
        exact Chg.of_new HB3.out HP.out.2
end Go.Proofs.YtcoddcdiimpndaaGreatDoor
