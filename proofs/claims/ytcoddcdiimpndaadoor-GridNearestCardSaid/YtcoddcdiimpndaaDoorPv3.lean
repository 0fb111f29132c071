/-
  Laws on a grid in memory whose nodes are being listed.
-/
import Derived.Test.YtcoddcdiimpndaaDoorPw2
import Derived.Test.YtcoddcdiimpndaaDoorPv2
set_option linter.unusedVariables false
set_option linter.unusedSimpArgs false
namespace Go.Proofs.YtcoddcdiimpndaaDoor
open Go.RowKit
attribute [local go_sem high] eqgP
theorem infoPl : (Tryd.prog.info? 23).map (fun i => (i.zero, i.size, i.bytes)) = some (some (.agg #[.int .i64 0, .int .i64 0, .int .i64 0, .int .i64 0]), 4, 32) := by kernel_rfl
/-- A grid's nodes lie behind g. -/
structure NetP (B : Nat) (w : World) (h n : Nat) (g gm : Nat) (l : List Pl) (V : Value) : Prop where
  blk : w.heap[g]? = some (.cells #[.int .i64 n, .int .i64 h, V, .map (some gm), .slice none 0 0, .slice none 0 0, .slice none 0 0] 73 (0, 0))
  row : w.ownsRow B 23 4 V l.length (cellsP l)
  map : MapIx w gm l
theorem NetP.below {B h n g gm : Nat} {w w1 : World} {l : List Pl} {V : Value} (H : NetP B w h n g gm l V) (hb : Below w.heap.size w w1) : NetP B w1 h n g gm l V :=
  ⟨blk_below hb H.blk (blk_lt H.blk), own_below H.row hb, H.map.below hb⟩

theorem own_blk {w : World} {base : Nat} {e : TypeId} {size n : Nat} {v : Value} {xs : List Value} (h : w.ownsRow base e size v n xs) (k : Nat) (hk : v.ownBlock = some k) : ∃ cur, w.heap[k]? = some (.cells cur e (0, 0)) := by
  rcases h.2 with ⟨rfl, _⟩ | ⟨g, cap, cur, rfl, _, hh, _⟩
  · simp [Value.ownBlock] at hk
  · obtain rfl : g = k := by simpa [Value.ownBlock] using hk
    exact ⟨cur, hh⟩
/-- A block of another kind is no owned row's. -/
theorem own_ne {w : World} {base : Nat} {e : TypeId} {size n : Nat} {v : Value} {xs : List Value} (h : w.ownsRow base e size v n xs) {k : Nat} {o : Obj} (hk : w.heap[k]? = some o) (ho : ∀ cur, o ≠ .cells cur e (0, 0)) : some k ≠ v.ownBlock := by
  intro he
  obtain ⟨cur, hc⟩ := own_blk h k he.symm
  rw [hk] at hc
  exact ho cur (Option.some.inj hc)
theorem own_slice {w : World} {base n : Nat} {e : TypeId} {size : Nat} {v : Value} {xs : List Value} (h : w.ownsRow base e size v n xs) : ∃ A c, v = .slice A n c := by
  rcases h.2 with ⟨rfl, rfl⟩ | ⟨g, cap, cur, rfl, _⟩
  · exact ⟨none, 0, rfl⟩
  · exact ⟨_, cap, rfl⟩
theorem setCell_grown (w : World) (p : Addr) (u : Value) : w.grownBy (w.setCell p u) (some p.block) :=
  ⟨rfl, rfl, rfl, by simp, fun k _ hk => heap_setCell_other w p k u (fun e => hk (by rw [e]))⟩
theorem netNeP (cur : Array Value) (cs : Array Value) : Obj.cells cs 73 (0, 0) ≠ .cells cur 23 (0, 0) := by
  intro h
  injection h with _ h2
  exact absurd h2 (by decide)
section
variable {B h n g gm : Nat} {w5 w6 w7 : World} {l : List Pl} {V V' : Value} {p : Pl}
/-- Behind the map's store: the rest is as it was. -/
theorem NetP.mapped (H : NetP B w5 h n g gm l V) (hg : w5.grownBy w6 (some gm)) (hm : MapIx w6 gm (l ++ [p])) : w6.heap[g]? = some (.cells #[.int .i64 n, .int .i64 h, V, .map (some gm), .slice none 0 0, .slice none 0 0, .slice none 0 0] 73 (0, 0)) ∧ w6.ownsRow B 23 4 V l.length (cellsP l) := by
  obtain ⟨es, clock, hb, _⟩ := H.map
  refine ⟨(hg.block g (blk_lt H.blk) ?_).trans H.blk, H.row.kept hg (.inr (Ne.symm (own_ne H.row hb (by simp))))⟩
  intro e
  have e := Option.some.inj e
  subst e
  rw [H.blk] at hb
  cases hb
/-- Behind the append: the grid's own block is as it was. -/
theorem NetP.grown (hb : w6.heap[g]? = some (.cells #[.int .i64 n, .int .i64 h, V, .map (some gm), .slice none 0 0, .slice none 0 0, .slice none 0 0] 73 (0, 0))) (hr : w6.ownsRow B 23 4 V l.length (cellsP l)) (hg : w6.grownBy w7 V.ownBlock) :
    w7.heap[g]? = some (.cells #[.int .i64 n, .int .i64 h, V, .map (some gm), .slice none 0 0, .slice none 0 0, .slice none 0 0] 73 (0, 0)) :=
  (hg.block g (blk_lt hb) (own_ne hr hb (netNeP · _))).trans hb
theorem NetP.pushed (hb : w6.heap[g]? = some (.cells #[.int .i64 n, .int .i64 h, V, .map (some gm), .slice none 0 0, .slice none 0 0, .slice none 0 0] 73 (0, 0))) (hr : w6.ownsRow B 23 4 V l.length (cellsP l)) (hm : MapIx w6 gm (l ++ [p])) (hg : w6.grownBy w7 V.ownBlock)
    (hr7 : w7.ownsRow B 23 4 V' (l.length + 1) (cellsP l ++ [.int .i64 p.f, .int .i64 p.a, .int .i64 p.b, .int .i64 p.c])) : NetP B (w7.setCell ⟨g, 2, none⟩ V') h n g gm (l ++ [p]) V' := by
  have hb7 := NetP.grown hb hr hg
  have hs := setCell_grown w7 ⟨g, 2, none⟩ V'
  have hm0 := hm
  obtain ⟨es, clock, hbm, _⟩ := hm0
  have hgm : w7.heap[gm]? = some (.map es clock) := (hg.block gm (blk_lt hbm) (own_ne hr hbm (by simp))).trans hbm
  have hne : gm ≠ g := by
    intro e
    subst e
    rw [hb7] at hgm
    cases hgm
  refine ⟨heap_setCell_same w7 g 2 _ _ V' hb7, ?_, ?_⟩
  · rw [cellsP_snoc, List.length_append]
    exact hr7.kept hs (.inr (Ne.symm (own_ne hr7 hb7 (netNeP · _))))
  · have h1 : MapIx w7 gm (l ++ [p]) := World.ownsMap.kept hm hg (own_ne hr hbm (by simp))
    exact World.ownsMap.kept h1 hs (by simpa using hne)
end

theorem grown_via {w w1 : World} {o : Obj} {row : Option Nat} (h : (w.alloc o).drew.grownBy w1 row) : w.grownBy w1 row := by
  have h1 := World.grownBy_alloc w o row
  have hs : w.heap.size ≤ (w.alloc o).heap.size := h1.size
  exact ⟨h.os, h.tape, h.output, Nat.le_trans hs h.size, fun k hk hn => (h.block k (Nat.lt_of_lt_of_le hk hs) hn).trans (h1.block k hk hn)⟩
end Go.Proofs.YtcoddcdiimpndaaDoor
