/-
  Laws on rows that a call owns: carried over later worlds, appended to by one element.
-/
import Derived.Test.YtcoddcdiimpndaaDoorPw0
import Derived.Test.YtcoddcdiimpndaaDoorPa2
import Derived.OwnWalk
import Derived.Deep.AppendLies
import Derived.Laws.OwnMore
set_option linter.unusedVariables false
set_option linter.unusedSimpArgs false
namespace Go.Proofs.YtcoddcdiimpndaaDoor
open Go.RowKit

theorem grown_below {w w1 : World} (h : Below w.heap.size w w1) (row : Option Nat) : w.grownBy w1 row := ⟨h.os, h.tape, h.output, h.size, fun i hi _ => h.block i hi⟩
theorem own_below {w w1 : World} {base : Nat} {e : TypeId} {size n : Nat} {v : Value} {xs : List Value} (h : w.ownsRow base e size v n xs) (hb : Below w.heap.size w w1) : w1.ownsRow base e size v n xs :=
  h.kept (grown_below hb none) (by cases v.ownBlock <;> simp)
theorem own_mono {w : World} {base base' : Nat} {e : TypeId} {size n : Nat} {v : Value} {xs : List Value} (h : w.ownsRow base e size v n xs) (hb : base' ≤ base) : w.ownsRow base' e size v n xs := by
  refine ⟨h.1, ?_⟩
  rcases h.2 with h0 | ⟨g, cap, cur, h1, h2, h3⟩
  · exact .inl h0
  · exact .inr ⟨g, cap, cur, h1, Nat.le_trans hb h2, h3⟩
theorem own_len {w : World} {base : Nat} {e : TypeId} {size n : Nat} {v : Value} {xs : List Value} (h : w.ownsRow base e size v n xs) : xs.length = n * size := h.1
/-- Its cells, in a world in which nothing of what was there has turned. -/
theorem own_cell {w : World} {base : Nat} {e : TypeId} {size n cap g : Nat} {xs : List Value} (h : w.ownsRow base e size (.slice (some ⟨g, 0, none⟩) n cap) n xs) (j : Nat) (u : Value) (hu : xs[j]? = some u) : w.cell? ⟨g, j, none⟩ = some u := by
  have := h.cells (g := g) rfl j u hu
  have ha : (⟨g, 0, none⟩ : Addr).add j = ⟨g, j, none⟩ := by unfold Addr.add; split <;> simp_all
  rwa [ha] at this

section
variable {P : Program} {ops : Array Oper} {rest : List Oper} {o : Oper} {a : Act} {Q : Exit → Act → World → Prop}
/-- append(v, x): x is an element that has just been laid. -/
theorem app_one {w0 W : World} (base : Nat) (hgd : o.guard = none) (s x : Operand) (t e : TypeId) (z : Value) (size bytes : Nat)
    (ho : o.op = .call { callee := .builtin .append, args := #[s, x], argTypes := #[t, t] })
    (ht : P.underlying t = some (.slice e)) (hinfo : (P.info? e).map (fun i => (i.zero, i.size, i.bytes)) = some (some z, size, bytes)) (hz : z.cells.size = size) (hs0 : 0 < size) (hb0 : 0 < bytes)
    (v : Value) (n : Nat) (xs cs : List Value) (hcs : cs.length = size) (h1 : ∀ u ∈ cs, u.oneCell' = true) (hs : a.eval s = v) (hx : a.eval x = .slice (some ⟨W.heap.size, 0, none⟩) 1 1)
    (HO : W.ownsRow base e size v n xs) (HB : Below base w0 W) (hbase : base ≤ W.heap.size) (hl : (n + 1) * bytes ≤ 140737488355328)
    (h : ∀ g cap w1, w1.ownsRow base e size (.slice (some ⟨g, 0, none⟩) (n + 1) cap) (n + 1) (xs ++ cs) → Below base w0 w1 → W.grownBy w1 v.ownBlock → g < w1.heap.size → wpList P ops Q rest (a.put o.dst (.slice (some ⟨g, 0, none⟩) (n + 1) cap)) w1) :
    wpList P ops Q (o :: rest) a (W.alloc (.cells cs.toArray e)) := by
  obtain ⟨i0, hi, hzz⟩ := Option.map_eq_some_iff.1 hinfo
  simp only [Prod.mk.injEq] at hzz
  obtain ⟨hz0, hz1, hz2⟩ := hzz
  have hlen : n + 1 ≤ 140737488355328 := Nat.le_trans (Nat.le_mul_of_pos_right _ hb0) hl
  refine wpList_append_lies (W.alloc (.cells cs.toArray e)) hgd s x t ho base e i0 z size bytes ht hi hz0 hz1 hz2 hz hs0 v n xs hs (HO.alloc _) ⟨W.heap.size, 0, none⟩ 1 1 cs hx (by omega)
    (by simpa using World.news_of_block (cs := cs.toArray) (t := e) (fr := (0, 0)) (heap_alloc_new W _)) h1 (by omega) (by simp only [maxLen]; omega) hl (by simp; omega) _ rfl ?_
  intro g cap w1 hown hg _ hlt
  have hrow : ∀ k, v.ownBlock = some k → base ≤ k := fun k hk => (HO.lt k hk).1
  exact h g cap w1 hown ((HB.alloc hbase _).grown hg (by simp; omega) hrow) (World.grownBy.trans (World.grownBy_alloc W _ _) hg) hlt
end

def plc (p : Pl) : List Value := [.int .i64 p.f, .int .i64 p.a, .int .i64 p.b, .int .i64 p.c]
def cellsP (l : List Pl) : List Value := l.flatMap plc
theorem cellsP_snoc (l : List Pl) (p : Pl) : cellsP (l ++ [p]) = cellsP l ++ [.int .i64 p.f, .int .i64 p.a, .int .i64 p.b, .int .i64 p.c] := by simp [cellsP, plc]
theorem cellsP_length (l : List Pl) : (cellsP l).length = l.length * 4 := by
  induction l with
  | nil => rfl
  | cons p l ih => simp [cellsP, plc] at ih ⊢; omega
theorem cellsP_at (l : List Pl) (i : Nat) (p : Pl) (h : l[i]? = some p) : (cellsP l)[i * 4]? = some (.int .i64 p.f) ∧ (cellsP l)[i * 4 + 1]? = some (.int .i64 p.a) ∧ (cellsP l)[i * 4 + 2]? = some (.int .i64 p.b) ∧ (cellsP l)[i * 4 + 3]? = some (.int .i64 p.c) := by
  induction l generalizing i with
  | nil => simp at h
  | cons q l ih =>
    have e : cellsP (q :: l) = .int .i64 q.f :: .int .i64 q.a :: .int .i64 q.b :: .int .i64 q.c :: cellsP l := rfl
    rw [e]
    cases i with
    | zero => simp at h; subst h; simp
    | succ i =>
      have := ih i (by simpa using h)
      rw [show (i + 1) * 4 = i * 4 + 4 from by omega]
      simpa using this
end Go.Proofs.YtcoddcdiimpndaaDoor
