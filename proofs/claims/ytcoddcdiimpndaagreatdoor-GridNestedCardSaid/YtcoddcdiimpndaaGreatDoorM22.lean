/-
  The state of a breadth search in memory: the hops known so far in one row, the queue in another.
-/
import Derived.Test.YtcoddcdiimpndaaGreatDoorM21
import Derived.Test.YtcoddcdiimpndaaGreatDoorM17
import Derived.Test.YtcoddcdiimpndaaGreatDoorM07
import Derived.Test.YtcoddcdiimpndaaGreatDoorM16
import Derived.Test.YtcoddcdiimpndaaGreatDoorM14
set_option linter.unusedVariables false
set_option linter.unusedSimpArgs false
namespace Go.Proofs.YtcoddcdiimpndaaGreatDoor
open Go.RowKit
section
variable {P : Program} {ops : Array Oper} {rest : List Oper} {o : Oper} {a : Act} {Q : Exit → Act → World → Prop}
/-- append(v, x): x is an element that has just been laid; where the row lies then. -/
theorem app_one_at {w0 W : World} (base : Nat) (hgd : o.guard = none) (s x : Operand) (t e : TypeId) (z : Value) (size bytes : Nat)
    (ho : o.op = .call { callee := .builtin .append, args := #[s, x], argTypes := #[t, t] })
    (ht : P.underlying t = some (.slice e)) (hinfo : (P.info? e).map (fun i => (i.zero, i.size, i.bytes)) = some (some z, size, bytes)) (hz : z.cells.size = size) (hs0 : 0 < size) (hb0 : 0 < bytes)
    (v : Value) (n : Nat) (xs cs : List Value) (hcs : cs.length = size) (h1 : ∀ u ∈ cs, u.oneCell' = true) (hs : a.eval s = v) (hx : a.eval x = .slice (some ⟨W.heap.size, 0, none⟩) 1 1)
    (HO : W.ownsRow base e size v n xs) (HB : Below base w0 W) (hbase : base ≤ W.heap.size) (hl : (n + 1) * bytes ≤ 140737488355328)
    (h : ∀ g cap w1, w1.ownsRow base e size (.slice (some ⟨g, 0, none⟩) (n + 1) cap) (n + 1) (xs ++ cs) → Below base w0 w1 → W.grownBy w1 v.ownBlock → (v.ownBlock = some g ∨ W.heap.size ≤ g) → wpList P ops Q rest (a.put o.dst (.slice (some ⟨g, 0, none⟩) (n + 1) cap)) w1) :
    wpList P ops Q (o :: rest) a (W.alloc (.cells cs.toArray e)) := by
  obtain ⟨i0, hi, hzz⟩ := Option.map_eq_some_iff.1 hinfo
  simp only [Prod.mk.injEq] at hzz
  obtain ⟨hz0, hz1, hz2⟩ := hzz
  have hlen : n + 1 ≤ 140737488355328 := Nat.le_trans (Nat.le_mul_of_pos_right _ hb0) hl
  refine wpList_append_lies (W.alloc (.cells cs.toArray e)) hgd s x t ho base e i0 z size bytes ht hi hz0 hz1 hz2 hz hs0 v n xs hs (HO.alloc _) ⟨W.heap.size, 0, none⟩ 1 1 cs hx (by omega)
    (by simpa using World.news_of_block (cs := cs.toArray) (t := e) (fr := (0, 0)) (heap_alloc_new W _)) h1 (by omega) (by simp only [maxLen]; omega) hl (by simp; omega) _ rfl ?_
  intro g cap w1 hown hg hat hlt
  have hrow : ∀ k, v.ownBlock = some k → base ≤ k := fun k hk => (HO.lt k hk).1
  exact h g cap w1 hown ((HB.alloc hbase _).grown hg (by simp; omega) hrow) (World.grownBy.trans (World.grownBy_alloc W _ _) hg) (hat.elim .inl (fun e => .inr (by rw [e]; simp)))
end
theorem alloc_belowR (w : World) (o : Obj) : Below w.heap.size w (w.alloc o) := (Below.refl _ _).alloc (Nat.le_refl _) _
theorem own_newR (w : World) (base : Nat) (e : TypeId) (size : Nat) (cs : List Value) (n : Nat) (hl : cs.length = n * size) (hb : base ≤ w.heap.size) (hn : n ≤ 1000000) : (w.alloc (.cells cs.toArray e)).ownsRow base e size (.slice (some ⟨w.heap.size, 0, none⟩) n n) n cs := own_new w base e size cs n hl hb hn
/-- The search's state S lies in memory: the hops in block gd, the queue in Vq. -/
structure BfsAt (B : Nat) (w wr : World) (gd N : Nat) (S : BS) (gq cap : Nat) : Prop where
  own : wr.ownsRow B 3 1 (.slice (some ⟨gq, 0, none⟩) S.2.length cap) S.2.length (cellsI S.2)
  ne : gq ≠ gd
  row : wr.rowIs gd 3 N (fun j => .int .i64 (S.1 j))
  below : Below B w wr
  bd : B ≤ gd
theorem BfsAt.drewN {B gd N gq cap : Nat} {w wr : World} {S : BS} (H : BfsAt B w wr gd N S gq cap) (q : Nat) : BfsAt B w (wr.drewN q) gd N S gq cap :=
  ⟨H.own, H.ne, H.row.drewN q, below_drewN H.below q, H.bd⟩
theorem cellsI_bang (L : List Int) (i : Nat) (h : i < L.length) : (cellsI L)[i]? = some (.int .i64 L[i]!) := cellsI_get L i h
/-- Behind a store of a number of hops. -/
theorem BfsAt.stored {B gd N gq cap : Nat} {w wr : World} {S : BS} (H : BfsAt B w wr gd N S gq cap) (k : Nat) (d : Int) : (wr.setCell ⟨gd, k, none⟩ (.int .i64 d)).ownsRow B 3 1 (.slice (some ⟨gq, 0, none⟩) S.2.length cap) S.2.length (cellsI S.2) ∧ Below B w (wr.setCell ⟨gd, k, none⟩ (.int .i64 d)) :=
  ⟨H.own.kept (setCell_grown wr ⟨gd, k, none⟩ _) (.inr (by show some gq ≠ some gd; simpa using H.ne)), H.below.setCell H.bd _⟩
/-- Behind the visit of a node that was not known. -/
theorem BfsAt.visited {B gd N gq cap g' cap' : Nat} {w wr w1 : World} {S : BS} (H : BfsAt B w wr gd N S gq cap) (k : Int) (d : Int) (hk0 : 0 ≤ k) (hk : S.1 k.toNat < 0)
    (h1 : w1.ownsRow B 3 1 (.slice (some ⟨g', 0, none⟩) (S.2.length + 1) cap') (S.2.length + 1) (cellsI S.2 ++ [.int .i64 k])) (h2 : Below B w w1)
    (h3 : (wr.setCell ⟨gd, k.toNat, none⟩ (.int .i64 (d + 1))).grownBy w1 (some gq)) (h4 : some gq = some g' ∨ (wr.setCell ⟨gd, k.toNat, none⟩ (.int .i64 (d + 1))).heap.size ≤ g') :
    BfsAt B w w1 gd N (visit d S k) g' cap' := by
  have e : visit d S k = (fun j => if j = k.toNat then d + 1 else S.1 j, S.2 ++ [k]) := by unfold visit; rw [if_pos hk]
  rw [e]
  have hlt := H.row.lt
  have hrow := H.row.set k.toNat (.int .i64 (d + 1))
  refine ⟨?_, ?_, ?_, h2, H.bd⟩
  · simp only [List.length_append, List.length_cons, List.length_nil]
    rw [← cellsI_snoc]
    exact h1
  · rcases h4 with h | h
    · injection h with h; rw [← h]; exact H.ne
    · have : (wr.setCell ⟨gd, k.toNat, none⟩ (.int .i64 (d + 1))).heap.size = wr.heap.size := size_setCells gd [_] k.toNat wr
      omega
  · refine (hrow.of_block (h3.block gd hrow.lt (by simpa using H.ne.symm))).congr fun i hi => ?_
    simp only
    split <;> rfl
theorem bfs_next (X : Nat → List Int) (a i : Nat) (h : i < (bfs X a i).2.length) : bfs X a (i + 1) = (X ((bfs X a i).2[i]!).toNat).foldl (visit ((bfs X a i).1 ((bfs X a i).2[i]!).toNat)) (bfs X a i) := by
  rw [bfs, if_pos h]; rfl
/-- What is known of the state inside a round. -/
theorem round_facts {N : Nat} {X : Nat → List Int} {a i : Nat} (hX : ∀ i : Nat, i < N → ∀ v ∈ X i, 0 ≤ v ∧ v < (N : Int)) (ha : a < N) (hi : ∀ j, j ≤ i → j < (bfs X a j).2.length) :
    ∃ u : Nat, u < N ∧ (bfs X a i).2[i]! = (u : Int) ∧ ∀ k, k ≤ (X u).length → InvD N X a i ((bfs X a i).1 u) (((X u).take k).foldl (visit ((bfs X a i).1 u)) (bfs X a i)) ∧ (((X u).take k).foldl (visit ((bfs X a i).1 u)) (bfs X a i)).2[i]! = (u : Int) := by
  obtain ⟨H, ht, _⟩ := bfs_inv hX ha i (fun j hj => hi j (by omega))
  have hil := hi i (Nat.le_refl _)
  have hm : (bfs X a i).2[i]! ∈ (bfs X a i).2 := by rw [getElem!_pos _ i hil]; exact List.getElem_mem hil
  have hb := H.lt _ hm
  obtain ⟨u, hu⟩ := Int.eq_ofNat_of_zero_le hb.1
  refine ⟨u, by omega, hu, fun k hk => ?_⟩
  have hD := H.toD hil (ht hil)
  rw [hu] at hD
  simp only [Int.toNat_natCast] at hD
  obtain ⟨h1, _, _, h4⟩ := visits_inv ((X u).take k) (bfs X a i) hD (fun v hv => by
    rw [hu]
    simp only [Int.toNat_natCast]
    have hv' := List.mem_of_mem_take hv
    exact ⟨hv', hX u (by omega) v hv'⟩)
  exact ⟨h1, h4.trans hu⟩
end Go.Proofs.YtcoddcdiimpndaaGreatDoor
