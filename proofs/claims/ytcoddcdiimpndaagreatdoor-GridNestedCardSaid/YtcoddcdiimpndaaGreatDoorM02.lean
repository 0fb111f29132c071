/-
  Laws on rows that a call owns: carried over later worlds, appended to by one element.
  '==' of structs of whole numbers, as one Bool.
  A map keyed by places, as the program makes it: the nodes' indices.
  Laws on a grid in memory whose nodes are being listed.
  A grid in memory, as the functions that only read it see it.
  Whole rows stored into blocks.
-/
import Derived.Test.YtcoddcdiimpndaaGreatDoorM01
import Derived.OwnWalk
import Derived.Deep.AppendLies
import Derived.Laws.OwnMore
import Derived.Test.YtcoddcdiimpndaaGreatDoorProg
import Derived.WalkKit
import Derived.Laws.StructEq
import Derived.KernelRfl
import Derived.Maps.Own
import Derived.Maps.OwnOps
import Derived.Maps.OwnSet
import Derived.Maps.Views
import Derived.DeepKeys4
import Derived.ProofKit
import Derived.Deep.MidRow
set_option linter.unusedVariables false
set_option linter.unusedSimpArgs false
namespace Go.Proofs.YtcoddcdiimpndaaGreatDoor
open Go.RowKit

theorem grown_below {w w1 : World} (h : Below w.heap.size w w1) (row : Option Nat) : w.grownBy w1 row := ⟨h.os, h.tape, h.output, h.size, fun i hi _ => h.block i hi⟩
theorem own_below {w w1 : World} {base : Nat} {e : TypeId} {size n : Nat} {v : Value} {xs : List Value} (h : w.ownsRow base e size v n xs) (hb : Below w.heap.size w w1) : w1.ownsRow base e size v n xs :=
  h.kept (grown_below hb none) (by cases v.ownBlock <;> simp)
theorem own_mono {w : World} {base base' : Nat} {e : TypeId} {size n : Nat} {v : Value} {xs : List Value} (h : w.ownsRow base e size v n xs) (hb : base' ≤ base) : w.ownsRow base' e size v n xs := by
  refine ⟨h.1, ?_⟩
  rcases h.2 with h0 | ⟨g, cap, cur, h1, h2, h3⟩
  · exact .inl h0
  · exact .inr ⟨g, cap, cur, h1, Nat.le_trans hb h2, h3⟩
theorem own_len {w : World} {base : Nat} {e : TypeId} {size n : Nat} {v : Value} {xs : List Value} (h : w.ownsRow base e size v n xs) : xs.length = n * size := h.1
/-- Its cells, in a world in which nothing of what was there has turned. -/
theorem own_cell {w : World} {base : Nat} {e : TypeId} {size n cap g : Nat} {xs : List Value} (h : w.ownsRow base e size (.slice (some ⟨g, 0, none⟩) n cap) n xs) (j : Nat) (u : Value) (hu : xs[j]? = some u) : w.cell? ⟨g, j, none⟩ = some u := by
  have := h.cells (g := g) rfl j u hu
  have ha : (⟨g, 0, none⟩ : Addr).add j = ⟨g, j, none⟩ := by unfold Addr.add; split <;> simp_all
  rwa [ha] at this

section
variable {P : Program} {ops : Array Oper} {rest : List Oper} {o : Oper} {a : Act} {Q : Exit → Act → World → Prop}
/-- append(v, x): x is an element that has just been laid. -/
theorem app_one {w0 W : World} (base : Nat) (hgd : o.guard = none) (s x : Operand) (t e : TypeId) (z : Value) (size bytes : Nat)
    (ho : o.op = .call { callee := .builtin .append, args := #[s, x], argTypes := #[t, t] })
    (ht : P.underlying t = some (.slice e)) (hinfo : (P.info? e).map (fun i => (i.zero, i.size, i.bytes)) = some (some z, size, bytes)) (hz : z.cells.size = size) (hs0 : 0 < size) (hb0 : 0 < bytes)
    (v : Value) (n : Nat) (xs cs : List Value) (hcs : cs.length = size) (h1 : ∀ u ∈ cs, u.oneCell' = true) (hs : a.eval s = v) (hx : a.eval x = .slice (some ⟨W.heap.size, 0, none⟩) 1 1)
    (HO : W.ownsRow base e size v n xs) (HB : Below base w0 W) (hbase : base ≤ W.heap.size) (hl : (n + 1) * bytes ≤ 140737488355328)
    (h : ∀ g cap w1, w1.ownsRow base e size (.slice (some ⟨g, 0, none⟩) (n + 1) cap) (n + 1) (xs ++ cs) → Below base w0 w1 → W.grownBy w1 v.ownBlock → g < w1.heap.size → wpList P ops Q rest (a.put o.dst (.slice (some ⟨g, 0, none⟩) (n + 1) cap)) w1) :
    wpList P ops Q (o :: rest) a (W.alloc (.cells cs.toArray e)) := by
  obtain ⟨i0, hi, hzz⟩ := Option.map_eq_some_iff.1 hinfo
  simp only [Prod.mk.injEq] at hzz
  obtain ⟨hz0, hz1, hz2⟩ := hzz
  have hlen : n + 1 ≤ 140737488355328 := Nat.le_trans (Nat.le_mul_of_pos_right _ hb0) hl
  refine wpList_append_lies (W.alloc (.cells cs.toArray e)) hgd s x t ho base e i0 z size bytes ht hi hz0 hz1 hz2 hz hs0 v n xs hs (HO.alloc _) ⟨W.heap.size, 0, none⟩ 1 1 cs hx (by omega)
    (by simpa using World.news_of_block (cs := cs.toArray) (t := e) (fr := (0, 0)) (heap_alloc_new W _)) h1 (by omega) (by simp only [maxLen]; omega) hl (by simp; omega) _ rfl ?_
  intro g cap w1 hown hg _ hlt
  have hrow : ∀ k, v.ownBlock = some k → base ≤ k := fun k hk => (HO.lt k hk).1
  exact h g cap w1 hown ((HB.alloc hbase _).grown hg (by simp; omega) hrow) (World.grownBy.trans (World.grownBy_alloc W _ _) hg) hlt
end

def plc (p : Pl) : List Value := [.int .i64 p.f, .int .i64 p.a, .int .i64 p.b, .int .i64 p.c]
def cellsP (l : List Pl) : List Value := l.flatMap plc
theorem cellsP_snoc (l : List Pl) (p : Pl) : cellsP (l ++ [p]) = cellsP l ++ [.int .i64 p.f, .int .i64 p.a, .int .i64 p.b, .int .i64 p.c] := by simp [cellsP, plc]
theorem cellsP_length (l : List Pl) : (cellsP l).length = l.length * 4 := by
  induction l with
  | nil => rfl
  | cons p l ih => simp [cellsP, plc] at ih ⊢; omega
theorem cellsP_at (l : List Pl) (i : Nat) (p : Pl) (h : l[i]? = some p) : (cellsP l)[i * 4]? = some (.int .i64 p.f) ∧ (cellsP l)[i * 4 + 1]? = some (.int .i64 p.a) ∧ (cellsP l)[i * 4 + 2]? = some (.int .i64 p.b) ∧ (cellsP l)[i * 4 + 3]? = some (.int .i64 p.c) := by
  induction l generalizing i with
  | nil => simp at h
  | cons q l ih =>
    have e : cellsP (q :: l) = .int .i64 q.f :: .int .i64 q.a :: .int .i64 q.b :: .int .i64 q.c :: cellsP l := rfl
    rw [e]
    cases i with
    | zero => simp at h; subst h; simp
    | succ i =>
      have := ih i (by simpa using h)
      rw [show (i + 1) * 4 = i * 4 + 4 from by omega]
      simpa using this
end Go.Proofs.YtcoddcdiimpndaaGreatDoor
set_option linter.unusedVariables false
set_option linter.unusedSimpArgs false
namespace Go.Proofs.YtcoddcdiimpndaaGreatDoor
open Go.RowKit
section
variable {P : Program} {d : Nat} {xs ys : Array Value} {f : Field} {fs : List Field} {a b : Value} {r s : Bool} {w : World}
theorem eqf_last (hn : (f.name == "_") = false) (ha : (part f.type xs f.offset).run P w = .ok a w) (hb : (part f.type ys f.offset).run P w = .ok b w) (he : (Op.equalIn d f.type a b).run P w = .ok r w) : (Op.eqFields d xs ys [f]).run P w = .ok r w := by
  have hn' : f.name ≠ "_" := by simpa using hn
  simp only [Op.eqFields, if_pos hn', Sem.run_bind, ha, hb, he, Result.andThen_ok]
  cases r <;> simp
theorem eqf_cons (hn : (f.name == "_") = false) (ha : (part f.type xs f.offset).run P w = .ok a w) (hb : (part f.type ys f.offset).run P w = .ok b w) (he : (Op.equalIn d f.type a b).run P w = .ok r w) (hr : (Op.eqFields d xs ys fs).run P w = .ok s w) : (Op.eqFields d xs ys (f :: fs)).run P w = .ok (r && s) w := by
  have hn' : f.name ≠ "_" := by simpa using hn
  rw [Op.eqFields]
  simp only [if_pos hn', Sem.run_bind, ha, hb, he, Result.andThen_ok]
  cases r
  · simp
  · simpa using hr
theorem eqA_of {t : TypeId} {fs : Array Field} (hu : P.underlying t = some (.struct fs)) (hp : P.stoodInHeld t = false) (h : (Op.eqFields d xs ys fs.toList).run P w = .ok r w) : (Op.equalIn (d + 1) t (.agg xs) (.agg ys)).run P w = .ok r w := by
  have hf : P.fieldsOf t = fs := by simp [Program.fieldsOf, hu]
  rw [run_equalIn_struct (P := P) w d t xs ys (by rw [hf]; exact hu) hp, hf]
  exact h
end
theorem eqInP (d : Nat) (w : World) (x0 x1 x2 x3 y0 y1 y2 y3 : Int) :
    (Op.equalIn (d + 2) 32 (.agg #[.int .i64 x0, .int .i64 x1, .int .i64 x2, .int .i64 x3]) (.agg #[.int .i64 y0, .int .i64 y1, .int .i64 y2, .int .i64 y3])).run Tryz.prog w = .ok (x0 == y0 && (x1 == y1 && (x2 == y2 && (x3 == y3)))) w := by
  refine eqA_of Tryz.underlying32 (by kernel_rfl) ?_
  refine eqf_cons (by rfl) (by go_simp; rfl) (by go_simp; rfl) (by go_simp) ?_
  refine eqf_cons (by rfl) (by go_simp; rfl) (by go_simp; rfl) (by go_simp) ?_
  refine eqf_cons (by rfl) (by go_simp; rfl) (by go_simp; rfl) (by go_simp) ?_
  exact eqf_last (by rfl) (by go_simp; rfl) (by go_simp; rfl) (by go_simp)
theorem guardP : Tryz.prog.eqGuardType Tryz.prog.depth 32 = false := by kernel_rfl
theorem eqlP (w : World) (x0 x1 x2 x3 y0 y1 y2 y3 : Int) : (binOp .eql 32 (.agg #[.int .i64 x0, .int .i64 x1, .int .i64 x2, .int .i64 x3]) (.agg #[.int .i64 y0, .int .i64 y1, .int .i64 y2, .int .i64 y3])).run Tryz.prog w = .ok (.bool (x0 == y0 && (x1 == y1 && (x2 == y2 && (x3 == y3))))) w := by
  rw [run_eql_struct, show (10000 : Nat) = 9998 + 2 from rfl, eqInP]; rfl
theorem neqP (w : World) (x0 x1 x2 x3 y0 y1 y2 y3 : Int) : (binOp .neq 32 (.agg #[.int .i64 x0, .int .i64 x1, .int .i64 x2, .int .i64 x3]) (.agg #[.int .i64 y0, .int .i64 y1, .int .i64 y2, .int .i64 y3])).run Tryz.prog w = .ok (.bool (!(x0 == y0 && (x1 == y1 && (x2 == y2 && (x3 == y3)))))) w := by
  rw [run_neq_struct, show (10000 : Nat) = 9998 + 2 from rfl, eqInP]; rfl
theorem eqgP (op : BinOp) (x y : Operand) (xs ys : Array Value) (w : World) : (eqGuard op 32 x y (.agg xs) (.agg ys)).run Tryz.prog w = .ok () w := run_eqGuard_agg w op 32 x y xs ys guardP
theorem eqInS (d : Nat) (w : World) (x0 x1 y0 y1 : Int) :
    (Op.equalIn (d + 2) 54 (.agg #[.int .i64 x0, .int .i64 x1]) (.agg #[.int .i64 y0, .int .i64 y1])).run Tryz.prog w = .ok (x0 == y0 && (x1 == y1)) w := by
  refine eqA_of Tryz.underlying54 (by kernel_rfl) ?_
  refine eqf_cons (by rfl) (by go_simp; rfl) (by go_simp; rfl) (by go_simp) ?_
  exact eqf_last (by rfl) (by go_simp; rfl) (by go_simp; rfl) (by go_simp)
theorem guardS : Tryz.prog.eqGuardType Tryz.prog.depth 54 = false := by kernel_rfl
theorem eqlS (w : World) (x0 x1 y0 y1 : Int) : (binOp .eql 54 (.agg #[.int .i64 x0, .int .i64 x1]) (.agg #[.int .i64 y0, .int .i64 y1])).run Tryz.prog w = .ok (.bool (x0 == y0 && (x1 == y1))) w := by
  rw [run_eql_struct, show (10000 : Nat) = 9998 + 2 from rfl, eqInS]; rfl
theorem neqS (w : World) (x0 x1 y0 y1 : Int) : (binOp .neq 54 (.agg #[.int .i64 x0, .int .i64 x1]) (.agg #[.int .i64 y0, .int .i64 y1])).run Tryz.prog w = .ok (.bool (!(x0 == y0 && (x1 == y1)))) w := by
  rw [run_neq_struct, show (10000 : Nat) = 9998 + 2 from rfl, eqInS]; rfl
theorem eqgS (op : BinOp) (x y : Operand) (xs ys : Array Value) (w : World) : (eqGuard op 54 x y (.agg xs) (.agg ys)).run Tryz.prog w = .ok () w := run_eqGuard_agg w op 54 x y xs ys guardS
end Go.Proofs.YtcoddcdiimpndaaGreatDoor
set_option linter.unusedVariables false
set_option linter.unusedSimpArgs false
namespace Go.Proofs.YtcoddcdiimpndaaGreatDoor
open Go.RowKit Go.Maps

theorem laidOutT : laidOutB Tryz.prog = true := by kernel_rfl
theorem keyLawP : Keyed Tryz.prog 32 := Keyed.of_law (deep_law_laid (m := 3) laidOutT (by omega) (of_decide_eq_true (by kernel_rfl)) (by kernel_rfl) (by kernel_rfl))
/-- How a place reads as a key. -/
def kl (p : Pl) : Lit := .string (keyBytes [.int .i64 p.f, .int .i64 p.a, .int .i64 p.b, .int .i64 p.c])
def pv (p : Pl) : Value := .agg #[.int .i64 p.f, .int .i64 p.a, .int .i64 p.b, .int .i64 p.c]
def wfP (p : Pl) : Prop := (Lit.int .i64 p.f).wf = true ∧ (Lit.int .i64 p.a).wf = true ∧ (Lit.int .i64 p.b).wf = true ∧ (Lit.int .i64 p.c).wf = true
theorem cellsP4 : Tryz.prog.cellsOf 32 = 4 := by kernel_rfl
theorem cells1 : Tryz.prog.cellsOf 3 = 1 := by kernel_rfl
theorem keyTypeP : Tryz.prog.keyType 32 = true := by kernel_rfl
theorem typesSize : ∃ d, Tryz.prog.types.size + 1 = d + 2 := ⟨Tryz.prog.types.size - 1, by
  have : 0 < Tryz.prog.types.size := of_decide_eq_true (by kernel_rfl)
  omega⟩
theorem keyP (p : Pl) (h : wfP p) : keyOf Tryz.prog 32 (pv p) = some (kl p) := by
  obtain ⟨h0, h1, h2, h3⟩ := h
  obtain ⟨f, a, b, c⟩ := p
  obtain ⟨d, hd⟩ := typesSize
  unfold keyOf
  rw [Tryz.underlying32]
  simp only [keyTypeP, pv, Value.formed, Tryz.underlying32, cellsP4, hd, Value.cells]
  simp [Program.keyLits, Tryz.underlying32, Tryz.underlying3, cellsP4, cells1, h0, h1, h2, h3, kl]
theorem pv_inj {p q : Pl} (h : pv p = pv q) : p = q := by
  obtain ⟨f, a, b, c⟩ := p
  obtain ⟨f', a', b', c'⟩ := q
  simp [pv] at h
  simp [h]
theorem kl_inj {p q : Pl} (hp : wfP p) (hq : wfP q) (h : kl p = kl q) : p = q := pv_inj (keyLawP.inj (keyP p hp) (by rw [h]; exact keyP q hq))
theorem kl_ne {p q : Pl} (hp : wfP p) (hq : wfP q) (h : p ≠ q) : kl p ≠ kl q := fun e => h (kl_inj hp hq e)
theorem kl_key (p : Pl) : WideAt.IsKeyLit (kl p) := trivial

/-- The map that holds the places of l with their indices. -/
def DnFrom (k : Nat) (l : List Pl) (m : DataW Unit) : DataW Unit := (l.zipIdx k).foldl (fun m x => m.put (kl x.1) (.lit (.int .i64 (x.2 : Nat)))) m
def Dn (l : List Pl) : DataW Unit := DnFrom 0 l (.map [])
theorem Dn_nil : Dn [] = .map [] := rfl
theorem Dn_snoc (l : List Pl) (p : Pl) : Dn (l ++ [p]) = (Dn l).put (kl p) (.lit (.int .i64 (l.length : Nat))) := by simp [Dn, DnFrom, List.zipIdx_append]
/-- The index of a place in l; 0 if it is not there. -/
def ix (l : List Pl) (p : Pl) : Nat := if p ∈ l then l.idxOf p else 0
theorem from_has (p : Pl) (hp : wfP p) : ∀ (l : List Pl) (k : Nat) (m : DataW Unit), IsMap m → (∀ q ∈ l, wfP q) → Maps.has (DnFrom k l m) (kl p) = (Maps.has m (kl p) || decide (p ∈ l)) := by
  intro l
  induction l with
  | nil => intro k m hm _; simp [DnFrom]
  | cons q l ih =>
    intro k m hm hq
    have e : DnFrom k (q :: l) m = DnFrom (k + 1) l (m.put (kl q) (.lit (.int .i64 (k : Nat)))) := rfl
    rw [e, ih _ _ (hm.put _ _) (fun r hr => hq r (List.mem_cons_of_mem _ hr))]
    by_cases h : p = q
    · subst h
      rw [has_put_same hm (kl_key p)]
      simp
    · rw [has_put_other (kl_ne hp (hq q (by simp)) h)]
      simp [h]
theorem from_at (p : Pl) (hp : wfP p) (z : DataW Unit) : ∀ (l : List Pl) (k : Nat) (m : DataW Unit), IsMap m → (∀ q ∈ l, wfP q) → l.Nodup → (DnFrom k l m).atKey (kl p) z = if p ∈ l then .lit (.int .i64 ((k + l.idxOf p : Nat) : Int)) else m.atKey (kl p) z := by
  intro l
  induction l with
  | nil => intro k m hm _ _; simp [DnFrom]
  | cons q l ih =>
    intro k m hm hq hnd
    have e : DnFrom k (q :: l) m = DnFrom (k + 1) l (m.put (kl q) (.lit (.int .i64 (k : Nat)))) := rfl
    obtain ⟨hn, hnd'⟩ := List.nodup_cons.1 hnd
    rw [e, ih _ _ (hm.put _ _) (fun r hr => hq r (List.mem_cons_of_mem _ hr)) hnd']
    by_cases h : p = q
    · subst h
      rw [if_neg hn, if_pos (by simp), atKey_put_same hm (kl_key p)]
      simp
    · rw [atKey_put_other (kl_ne hp (hq q (by simp)) h)]
      by_cases hm2 : p ∈ l
      · rw [if_pos hm2, if_pos (List.mem_cons_of_mem _ hm2), List.idxOf_cons, show (q == p) = false from beq_eq_false_iff_ne.2 (Ne.symm h)]
        rw [show k + 1 + l.idxOf p = k + (l.idxOf p + 1) from by omega]
        rfl
      · rw [if_neg hm2, if_neg (by simp [h, hm2])]
theorem Dn_has (l : List Pl) (hl : ∀ q ∈ l, wfP q) (p : Pl) (hp : wfP p) : Maps.has (Dn l) (kl p) = decide (p ∈ l) := by
  rw [Dn, from_has p hp l 0 _ isMap_empty hl]
  simp [has_eq]
theorem Dn_at (l : List Pl) (hl : ∀ q ∈ l, wfP q) (hnd : l.Nodup) (p : Pl) (hp : wfP p) : (Dn l).atKey (kl p) (.lit (.int .i64 0)) = .lit (.int .i64 (ix l p : Nat)) := by
  rw [Dn, from_at p hp _ l 0 _ isMap_empty hl hnd]
  unfold ix
  by_cases h : p ∈ l
  · rw [if_pos h, if_pos h]; simp
  · rw [if_neg h, if_neg h]; rfl

/-- Block b holds the map of l's indices. -/
def MapIx (w : World) (b : Nat) (l : List Pl) : Prop := w.ownsMap Tryz.prog 32 (plainElem Tryz.prog 3) b l.length (Dn l)
theorem MapIx.below {w w1 : World} {b : Nat} {l : List Pl} (h : MapIx w b l) (hb : Below w.heap.size w w1) : MapIx w1 b l := World.ownsMap.kept h (grown_below hb none) (by simp)
theorem zeroInt (w : World) : (zeroValue 3).run Tryz.prog w = .ok (.int .i64 0) w := by kernel_rfl
/-- What a look-up gives, in a world in which the map lies. -/
theorem MapIx.look {w : World} {b : Nat} {l : List Pl} (h : MapIx w b l) (hl : ∀ q ∈ l, wfP q) (hnd : l.Nodup) (p : Pl) (hp : wfP p) :
    (Instr.lookup 82 (.map (some b)) (.agg #[.int .i64 p.f, .int .i64 p.a, .int .i64 p.b, .int .i64 p.c]) false).run Tryz.prog w = .ok (.int .i64 (ix l p : Nat)) w := by
  obtain ⟨c, hr, hat, _⟩ := World.ownsMap.lookup_int h keyLawP Tryz.underlying82 Tryz.underlying3 (zeroInt w) (keyP p hp)
  rw [Dn_at l hl hnd p hp] at hat
  simp only [DataW.lit.injEq, Lit.int.injEq, true_and] at hat
  rw [hat]
  exact hr
theorem MapIx.look_ok {w : World} {b : Nat} {l : List Pl} (h : MapIx w b l) (hl : ∀ q ∈ l, wfP q) (hnd : l.Nodup) (p : Pl) (hp : wfP p) :
    (Instr.lookup 82 (.map (some b)) (.agg #[.int .i64 p.f, .int .i64 p.a, .int .i64 p.b, .int .i64 p.c]) true).run Tryz.prog w = .ok (.tuple #[.int .i64 (ix l p : Nat), .bool (decide (p ∈ l))]) w := by
  obtain ⟨v, ps, hr, hv⟩ := World.ownsMap.look_ok h keyLawP Tryz.underlying82 (zeroInt w) (plainElem_int Tryz.underlying3 (by decide)) (keyP p hp)
  obtain ⟨c, rfl, hc, _⟩ := plainElem_int_inv Tryz.underlying3 hv
  simp only [Prod.mk.injEq] at hc
  have hat := hc.1
  rw [Dn_at l hl hnd p hp] at hat
  simp only [DataW.lit.injEq, Lit.int.injEq, true_and] at hat
  rw [Dn_has l hl p hp] at hr
  rw [hat]
  exact hr
/-- A new node is entered. -/
theorem MapIx.put {w : World} {b : Nat} {l : List Pl} (h : MapIx w b l) (hlen : l.length < 1000000) (p : Pl) (hp : wfP p) :
    ∃ w', (Instr.mapUpdate 82 (.map (some b)) (.agg #[.int .i64 p.f, .int .i64 p.a, .int .i64 p.b, .int .i64 p.c]) (.int .i64 (l.length : Nat))).run Tryz.prog w = .ok () w' ∧ MapIx w' b (l ++ [p]) ∧ w.grownBy w' (some b) := by
  have hwf : (Lit.int .i64 (l.length : Nat)).wf = true := WalkArith.wf_i64 (by omega)
  obtain ⟨w', hr, ho, hg⟩ := World.ownsMap.update h keyLawP Tryz.underlying82 (by unfold maxLen; omega) (keyP p hp) (plainElem_int Tryz.underlying3 hwf)
  refine ⟨w', hr, ?_, hg⟩
  unfold MapIx
  rw [Dn_snoc, List.length_append]
  exact ho
end Go.Proofs.YtcoddcdiimpndaaGreatDoor
set_option linter.unusedVariables false
set_option linter.unusedSimpArgs false
namespace Go.Proofs.YtcoddcdiimpndaaGreatDoor
open Go.RowKit
attribute [local go_sem high] eqgP
theorem infoPl : (Tryz.prog.info? 32).map (fun i => (i.zero, i.size, i.bytes)) = some (some (.agg #[.int .i64 0, .int .i64 0, .int .i64 0, .int .i64 0]), 4, 32) := by kernel_rfl
/-- A grid's nodes lie behind g. -/
structure NetP (B : Nat) (w : World) (h n : Nat) (g gm : Nat) (l : List Pl) (V : Value) : Prop where
  blk : w.heap[g]? = some (.cells #[.int .i64 n, .int .i64 h, V, .map (some gm), .slice none 0 0, .slice none 0 0, .slice none 0 0] 85 (0, 0))
  row : w.ownsRow B 32 4 V l.length (cellsP l)
  map : MapIx w gm l
theorem NetP.below {B h n g gm : Nat} {w w1 : World} {l : List Pl} {V : Value} (H : NetP B w h n g gm l V) (hb : Below w.heap.size w w1) : NetP B w1 h n g gm l V :=
  ⟨blk_below hb H.blk (blk_lt H.blk), own_below H.row hb, H.map.below hb⟩

theorem own_blk {w : World} {base : Nat} {e : TypeId} {size n : Nat} {v : Value} {xs : List Value} (h : w.ownsRow base e size v n xs) (k : Nat) (hk : v.ownBlock = some k) : ∃ cur, w.heap[k]? = some (.cells cur e (0, 0)) := by
  rcases h.2 with ⟨rfl, _⟩ | ⟨g, cap, cur, rfl, _, hh, _⟩
  · simp [Value.ownBlock] at hk
  · obtain rfl : g = k := by simpa [Value.ownBlock] using hk
    exact ⟨cur, hh⟩
/-- A block of another kind is no owned row's. -/
theorem own_ne {w : World} {base : Nat} {e : TypeId} {size n : Nat} {v : Value} {xs : List Value} (h : w.ownsRow base e size v n xs) {k : Nat} {o : Obj} (hk : w.heap[k]? = some o) (ho : ∀ cur, o ≠ .cells cur e (0, 0)) : some k ≠ v.ownBlock := by
  intro he
  obtain ⟨cur, hc⟩ := own_blk h k he.symm
  rw [hk] at hc
  exact ho cur (Option.some.inj hc)
theorem own_slice {w : World} {base n : Nat} {e : TypeId} {size : Nat} {v : Value} {xs : List Value} (h : w.ownsRow base e size v n xs) : ∃ A c, v = .slice A n c := by
  rcases h.2 with ⟨rfl, rfl⟩ | ⟨g, cap, cur, rfl, _⟩
  · exact ⟨none, 0, rfl⟩
  · exact ⟨_, cap, rfl⟩
theorem setCell_grown (w : World) (p : Addr) (u : Value) : w.grownBy (w.setCell p u) (some p.block) :=
  ⟨rfl, rfl, rfl, by simp, fun k _ hk => heap_setCell_other w p k u (fun e => hk (by rw [e]))⟩
theorem netNeP (cur : Array Value) (cs : Array Value) : Obj.cells cs 85 (0, 0) ≠ .cells cur 32 (0, 0) := by
  intro h
  injection h with _ h2
  exact absurd h2 (by decide)
section
variable {B h n g gm : Nat} {w5 w6 w7 : World} {l : List Pl} {V V' : Value} {p : Pl}
/-- Behind the map's store: the rest is as it was. -/
theorem NetP.mapped (H : NetP B w5 h n g gm l V) (hg : w5.grownBy w6 (some gm)) (hm : MapIx w6 gm (l ++ [p])) : w6.heap[g]? = some (.cells #[.int .i64 n, .int .i64 h, V, .map (some gm), .slice none 0 0, .slice none 0 0, .slice none 0 0] 85 (0, 0)) ∧ w6.ownsRow B 32 4 V l.length (cellsP l) := by
  obtain ⟨es, clock, hb, _⟩ := H.map
  refine ⟨(hg.block g (blk_lt H.blk) ?_).trans H.blk, H.row.kept hg (.inr (Ne.symm (own_ne H.row hb (by simp))))⟩
  intro e
  have e := Option.some.inj e
  subst e
  rw [H.blk] at hb
  cases hb
/-- Behind the append: the grid's own block is as it was. -/
theorem NetP.grown (hb : w6.heap[g]? = some (.cells #[.int .i64 n, .int .i64 h, V, .map (some gm), .slice none 0 0, .slice none 0 0, .slice none 0 0] 85 (0, 0))) (hr : w6.ownsRow B 32 4 V l.length (cellsP l)) (hg : w6.grownBy w7 V.ownBlock) :
    w7.heap[g]? = some (.cells #[.int .i64 n, .int .i64 h, V, .map (some gm), .slice none 0 0, .slice none 0 0, .slice none 0 0] 85 (0, 0)) :=
  (hg.block g (blk_lt hb) (own_ne hr hb (netNeP · _))).trans hb
theorem NetP.pushed (hb : w6.heap[g]? = some (.cells #[.int .i64 n, .int .i64 h, V, .map (some gm), .slice none 0 0, .slice none 0 0, .slice none 0 0] 85 (0, 0))) (hr : w6.ownsRow B 32 4 V l.length (cellsP l)) (hm : MapIx w6 gm (l ++ [p])) (hg : w6.grownBy w7 V.ownBlock)
    (hr7 : w7.ownsRow B 32 4 V' (l.length + 1) (cellsP l ++ [.int .i64 p.f, .int .i64 p.a, .int .i64 p.b, .int .i64 p.c])) : NetP B (w7.setCell ⟨g, 2, none⟩ V') h n g gm (l ++ [p]) V' := by
  have hb7 := NetP.grown hb hr hg
  have hs := setCell_grown w7 ⟨g, 2, none⟩ V'
  have hm0 := hm
  obtain ⟨es, clock, hbm, _⟩ := hm0
  have hgm : w7.heap[gm]? = some (.map es clock) := (hg.block gm (blk_lt hbm) (own_ne hr hbm (by simp))).trans hbm
  have hne : gm ≠ g := by
    intro e
    subst e
    rw [hb7] at hgm
    cases hgm
  refine ⟨heap_setCell_same w7 g 2 _ _ V' hb7, ?_, ?_⟩
  · rw [cellsP_snoc, List.length_append]
    exact hr7.kept hs (.inr (Ne.symm (own_ne hr7 hb7 (netNeP · _))))
  · have h1 : MapIx w7 gm (l ++ [p]) := World.ownsMap.kept hm hg (own_ne hr hbm (by simp))
    exact World.ownsMap.kept h1 hs (by simpa using hne)
end

theorem grown_via {w w1 : World} {o : Obj} {row : Option Nat} (h : (w.alloc o).drew.grownBy w1 row) : w.grownBy w1 row := by
  have h1 := World.grownBy_alloc w o row
  have hs : w.heap.size ≤ (w.alloc o).heap.size := h1.size
  exact ⟨h.os, h.tape, h.output, Nat.le_trans hs h.size, fun k hk hn => (h.block k (Nat.lt_of_lt_of_le hk hs) hn).trans (h1.block k hk hn)⟩
end Go.Proofs.YtcoddcdiimpndaaGreatDoor
set_option linter.unusedVariables false
set_option linter.unusedSimpArgs false
namespace Go.Proofs.YtcoddcdiimpndaaGreatDoor
open Go.RowKit
def normPl (f a b c : Int) : Pl := ⟨nf f a b c, nc f a b c 0, nc f a b c 1, nc f a b c 2⟩
/-- Behind g lies a grid of frequency n whose nodes' indices are those of l. -/
structure NetR (w : World) (h n : Nat) (g gm : Nat) (l : List Pl) : Prop where
  lt : g < w.heap.size
  c0 : w.cell? ⟨g, 0, none⟩ = some (.int .i64 n)
  c1 : w.cell? ⟨g, 1, none⟩ = some (.int .i64 h)
  c3 : w.cell? ⟨g, 3, none⟩ = some (.map (some gm))
  map : MapIx w gm l
theorem NetR.below {h n g gm : Nat} {w w1 : World} {l : List Pl} (H : NetR w h n g gm l) (hb : Below w.heap.size w w1) : NetR w1 h n g gm l :=
  ⟨Nat.lt_of_lt_of_le H.lt hb.size, (hb.cell (p := ⟨g, 0, none⟩) H.lt).trans H.c0, (hb.cell (p := ⟨g, 1, none⟩) H.lt).trans H.c1, (hb.cell (p := ⟨g, 3, none⟩) H.lt).trans H.c3, H.map.below hb⟩
theorem NetP.reads {B h n g gm : Nat} {w : World} {l : List Pl} {V : Value} (H : NetP B w h n g gm l V) : NetR w h n g gm l :=
  ⟨blk_lt H.blk, blk_cell H.blk 0 _ rfl, blk_cell H.blk 1 _ rfl, blk_cell H.blk 3 _ rfl, H.map⟩
/-- What is asked of a list of nodes. -/
structure Fine (l : List Pl) : Prop where
  wf : ∀ q ∈ l, wfP q
  nodup : l.Nodup
theorem nc_bounds (f a b c : Int) (hv : validB f a b c = true) (i : Nat) : 0 ≤ nc f a b c i ∧ nc f a b c i ≤ 840 := by
  obtain ⟨_, _, h⟩ := (validB_iff ..).1 hv
  unfold nc wt
  split
  · omega
  split
  · omega
  split
  · omega
  · omega
theorem normPl_wf (f a b c : Int) (hv : validB f a b c = true) : wfP (normPl f a b c) := by
  obtain ⟨h1, _⟩ := nf_spec f a b c hv
  have h0 := nc_bounds f a b c hv 0
  have h2 := nc_bounds f a b c hv 1
  have h3 := nc_bounds f a b c hv 2
  exact ⟨WalkArith.wf_i64 (by simp only [normPl]; omega), WalkArith.wf_i64 (by simp only [normPl]; omega), WalkArith.wf_i64 (by simp only [normPl]; omega), WalkArith.wf_i64 (by simp only [normPl]; omega)⟩
end Go.Proofs.YtcoddcdiimpndaaGreatDoor
set_option linter.unusedVariables false
set_option linter.unusedSimpArgs false
namespace Go.Proofs.YtcoddcdiimpndaaGreatDoor
open Go.RowKit
theorem heap_setCells_other {b k : Nat} (h : k ≠ b) : ∀ (vs : List Value) (o : Nat) (w : World), (w.setCells b o vs).heap[k]? = w.heap[k]?
  | [], _, _ => rfl
  | v :: r, o, w => by
    rw [World.setCells, heap_setCells_other h r]
    exact heap_setCell_other w ⟨b, o, none⟩ k v h
theorem size_setCells (b : Nat) : ∀ (vs : List Value) (o : Nat) (w : World), (w.setCells b o vs).heap.size = w.heap.size
  | [], _, _ => rfl
  | v :: r, o, w => by
    rw [World.setCells, size_setCells b r]
    simp
theorem Below.setCells {B : Nat} {a : World} {b : Nat} (hb : B ≤ b) : ∀ (vs : List Value) (o : Nat) (w : World), Below B a w → Below B a (w.setCells b o vs)
  | [], _, _, h => h
  | v :: r, o, w, h => Below.setCells hb r (o + 1) _ (h.setCell hb v)
theorem there_of_blk {w : World} {b : Nat} {cs : Array Value} {t : TypeId} (h : w.heap[b]? = some (.cells cs t (0, 0))) : w.there b 0 cs.size := fun j hj => by
  rw [Nat.zero_add]
  exact ⟨by rw [blk_cell h j cs[j] (by simp [hj])]; rfl, blk_free h j⟩
theorem two_rows {w : World} {b9 b10 : Nat} {c9 c10 : Array Value} {t9 t10 : TypeId} (h9 : w.heap[b9]? = some (.cells c9 t9 (0, 0))) (h10 : w.heap[b10]? = some (.cells c10 t10 (0, 0))) (hne : b9 ≠ b10) (L9 L10 : List Value) (hl9 : L9.length = c9.size) (hl10 : L10.length = c10.size) :
    w.there b9 0 L9.length ∧ (w.setCells b9 0 L9).there b10 0 L10.length ∧ ((w.setCells b9 0 L9).setCells b10 0 L10).rangeAt b9 0 L9 ∧ ((w.setCells b9 0 L9).setCells b10 0 L10).rangeAt b10 0 L10 := by
  have t9 := there_of_blk h9
  have t10 := there_of_blk ((heap_setCells_other (Ne.symm hne) L9 0 w).trans h10)
  rw [← hl9] at t9
  rw [← hl10] at t10
  exact ⟨t9, t10, World.rangeAt_setCells_apart (World.rangeAt_setCells_same w b9 0 L9 t9) b10 0 L10 (.inl hne), World.rangeAt_setCells_same _ b10 0 L10 t10⟩
theorem range_cell {w : World} {b : Nat} {L : List Value} (h : w.rangeAt b 0 L) (j : Nat) (v : Value) (hv : L[j]? = some v) : w.cell? ⟨b, j, none⟩ = some v := by
  have := h j v hv
  rwa [Nat.zero_add] at this
end Go.Proofs.YtcoddcdiimpndaaGreatDoor
