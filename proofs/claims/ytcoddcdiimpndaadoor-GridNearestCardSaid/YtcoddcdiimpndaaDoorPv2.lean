/-
  A map keyed by places, as the program makes it: the nodes' indices.
-/
import Derived.Test.YtcoddcdiimpndaaDoorPv0
import Derived.Test.YtcoddcdiimpndaaDoorPv1
import Derived.Maps.Own
import Derived.Maps.OwnOps
import Derived.Maps.OwnSet
import Derived.Maps.Views
import Derived.DeepKeys4
import Derived.ProofKit
set_option linter.unusedVariables false
set_option linter.unusedSimpArgs false
namespace Go.Proofs.YtcoddcdiimpndaaDoor
open Go.RowKit Go.Maps

theorem laidOutT : laidOutB Tryd.prog = true := by kernel_rfl
theorem keyLawP : Keyed Tryd.prog 23 := Keyed.of_law (deep_law_laid (m := 3) laidOutT (by omega) (of_decide_eq_true (by kernel_rfl)) (by kernel_rfl) (by kernel_rfl))
/-- How a place reads as a key. -/
def kl (p : Pl) : Lit := .string (keyBytes [.int .i64 p.f, .int .i64 p.a, .int .i64 p.b, .int .i64 p.c])
def pv (p : Pl) : Value := .agg #[.int .i64 p.f, .int .i64 p.a, .int .i64 p.b, .int .i64 p.c]
def wfP (p : Pl) : Prop := (Lit.int .i64 p.f).wf = true ∧ (Lit.int .i64 p.a).wf = true ∧ (Lit.int .i64 p.b).wf = true ∧ (Lit.int .i64 p.c).wf = true
theorem cellsP4 : Tryd.prog.cellsOf 23 = 4 := by kernel_rfl
theorem cells1 : Tryd.prog.cellsOf 3 = 1 := by kernel_rfl
theorem keyTypeP : Tryd.prog.keyType 23 = true := by kernel_rfl
theorem typesSize : ∃ d, Tryd.prog.types.size + 1 = d + 2 := ⟨Tryd.prog.types.size - 1, by
  have : 0 < Tryd.prog.types.size := of_decide_eq_true (by kernel_rfl)
  omega⟩
theorem keyP (p : Pl) (h : wfP p) : keyOf Tryd.prog 23 (pv p) = some (kl p) := by
  obtain ⟨h0, h1, h2, h3⟩ := h
  obtain ⟨f, a, b, c⟩ := p
  obtain ⟨d, hd⟩ := typesSize
  unfold keyOf
  rw [Tryd.underlying23]
  simp only [keyTypeP, pv, Value.formed, Tryd.underlying23, cellsP4, hd, Value.cells]
  simp [Program.keyLits, Tryd.underlying23, Tryd.underlying3, cellsP4, cells1, h0, h1, h2, h3, kl]
theorem pv_inj {p q : Pl} (h : pv p = pv q) : p = q := by
  obtain ⟨f, a, b, c⟩ := p
  obtain ⟨f', a', b', c'⟩ := q
  simp [pv] at h
  simp [h]
theorem kl_inj {p q : Pl} (hp : wfP p) (hq : wfP q) (h : kl p = kl q) : p = q := pv_inj (keyLawP.inj (keyP p hp) (by rw [h]; exact keyP q hq))
theorem kl_ne {p q : Pl} (hp : wfP p) (hq : wfP q) (h : p ≠ q) : kl p ≠ kl q := fun e => h (kl_inj hp hq e)
theorem kl_key (p : Pl) : WideAt.IsKeyLit (kl p) := trivial

/-- The map that holds the places of l with their indices. -/
def DnFrom (k : Nat) (l : List Pl) (m : DataW Unit) : DataW Unit := (l.zipIdx k).foldl (fun m x => m.put (kl x.1) (.lit (.int .i64 (x.2 : Nat)))) m
def Dn (l : List Pl) : DataW Unit := DnFrom 0 l (.map [])
theorem Dn_nil : Dn [] = .map [] := rfl
theorem Dn_snoc (l : List Pl) (p : Pl) : Dn (l ++ [p]) = (Dn l).put (kl p) (.lit (.int .i64 (l.length : Nat))) := by simp [Dn, DnFrom, List.zipIdx_append]
/-- The index of a place in l; 0 if it is not there. -/
def ix (l : List Pl) (p : Pl) : Nat := if p ∈ l then l.idxOf p else 0
theorem from_has (p : Pl) (hp : wfP p) : ∀ (l : List Pl) (k : Nat) (m : DataW Unit), IsMap m → (∀ q ∈ l, wfP q) → Maps.has (DnFrom k l m) (kl p) = (Maps.has m (kl p) || decide (p ∈ l)) := by
  intro l
  induction l with
  | nil => intro k m hm _; simp [DnFrom]
  | cons q l ih =>
    intro k m hm hq
    have e : DnFrom k (q :: l) m = DnFrom (k + 1) l (m.put (kl q) (.lit (.int .i64 (k : Nat)))) := rfl
    rw [e, ih _ _ (hm.put _ _) (fun r hr => hq r (List.mem_cons_of_mem _ hr))]
    by_cases h : p = q
    · subst h
      rw [has_put_same hm (kl_key p)]
      simp
    · rw [has_put_other (kl_ne hp (hq q (by simp)) h)]
      simp [h]
theorem from_at (p : Pl) (hp : wfP p) (z : DataW Unit) : ∀ (l : List Pl) (k : Nat) (m : DataW Unit), IsMap m → (∀ q ∈ l, wfP q) → l.Nodup → (DnFrom k l m).atKey (kl p) z = if p ∈ l then .lit (.int .i64 ((k + l.idxOf p : Nat) : Int)) else m.atKey (kl p) z := by
  intro l
  induction l with
  | nil => intro k m hm _ _; simp [DnFrom]
  | cons q l ih =>
    intro k m hm hq hnd
    have e : DnFrom k (q :: l) m = DnFrom (k + 1) l (m.put (kl q) (.lit (.int .i64 (k : Nat)))) := rfl
    obtain ⟨hn, hnd'⟩ := List.nodup_cons.1 hnd
    rw [e, ih _ _ (hm.put _ _) (fun r hr => hq r (List.mem_cons_of_mem _ hr)) hnd']
    by_cases h : p = q
    · subst h
      rw [if_neg hn, if_pos (by simp), atKey_put_same hm (kl_key p)]
      simp
    · rw [atKey_put_other (kl_ne hp (hq q (by simp)) h)]
      by_cases hm2 : p ∈ l
      · rw [if_pos hm2, if_pos (List.mem_cons_of_mem _ hm2), List.idxOf_cons, show (q == p) = false from beq_eq_false_iff_ne.2 (Ne.symm h)]
        rw [show k + 1 + l.idxOf p = k + (l.idxOf p + 1) from by omega]
        rfl
      · rw [if_neg hm2, if_neg (by simp [h, hm2])]
theorem Dn_has (l : List Pl) (hl : ∀ q ∈ l, wfP q) (p : Pl) (hp : wfP p) : Maps.has (Dn l) (kl p) = decide (p ∈ l) := by
  rw [Dn, from_has p hp l 0 _ isMap_empty hl]
  simp [has_eq]
theorem Dn_at (l : List Pl) (hl : ∀ q ∈ l, wfP q) (hnd : l.Nodup) (p : Pl) (hp : wfP p) : (Dn l).atKey (kl p) (.lit (.int .i64 0)) = .lit (.int .i64 (ix l p : Nat)) := by
  rw [Dn, from_at p hp _ l 0 _ isMap_empty hl hnd]
  unfold ix
  by_cases h : p ∈ l
  · rw [if_pos h, if_pos h]; simp
  · rw [if_neg h, if_neg h]; rfl

/-- Block b holds the map of l's indices. -/
def MapIx (w : World) (b : Nat) (l : List Pl) : Prop := w.ownsMap Tryd.prog 23 (plainElem Tryd.prog 3) b l.length (Dn l)
theorem MapIx.below {w w1 : World} {b : Nat} {l : List Pl} (h : MapIx w b l) (hb : Below w.heap.size w w1) : MapIx w1 b l := World.ownsMap.kept h (grown_below hb none) (by simp)
theorem zeroInt (w : World) : (zeroValue 3).run Tryd.prog w = .ok (.int .i64 0) w := by kernel_rfl
/-- What a look-up gives, in a world in which the map lies. -/
theorem MapIx.look {w : World} {b : Nat} {l : List Pl} (h : MapIx w b l) (hl : ∀ q ∈ l, wfP q) (hnd : l.Nodup) (p : Pl) (hp : wfP p) :
    (Instr.lookup 70 (.map (some b)) (.agg #[.int .i64 p.f, .int .i64 p.a, .int .i64 p.b, .int .i64 p.c]) false).run Tryd.prog w = .ok (.int .i64 (ix l p : Nat)) w := by
  obtain ⟨c, hr, hat, _⟩ := World.ownsMap.lookup_int h keyLawP Tryd.underlying70 Tryd.underlying3 (zeroInt w) (keyP p hp)
  rw [Dn_at l hl hnd p hp] at hat
  simp only [DataW.lit.injEq, Lit.int.injEq, true_and] at hat
  rw [hat]
  exact hr
theorem MapIx.look_ok {w : World} {b : Nat} {l : List Pl} (h : MapIx w b l) (hl : ∀ q ∈ l, wfP q) (hnd : l.Nodup) (p : Pl) (hp : wfP p) :
    (Instr.lookup 70 (.map (some b)) (.agg #[.int .i64 p.f, .int .i64 p.a, .int .i64 p.b, .int .i64 p.c]) true).run Tryd.prog w = .ok (.tuple #[.int .i64 (ix l p : Nat), .bool (decide (p ∈ l))]) w := by
  obtain ⟨v, ps, hr, hv⟩ := World.ownsMap.look_ok h keyLawP Tryd.underlying70 (zeroInt w) (plainElem_int Tryd.underlying3 (by decide)) (keyP p hp)
  obtain ⟨c, rfl, hc, _⟩ := plainElem_int_inv Tryd.underlying3 hv
  simp only [Prod.mk.injEq] at hc
  have hat := hc.1
  rw [Dn_at l hl hnd p hp] at hat
  simp only [DataW.lit.injEq, Lit.int.injEq, true_and] at hat
  rw [Dn_has l hl p hp] at hr
  rw [hat]
  exact hr
/-- A new node is entered. -/
theorem MapIx.put {w : World} {b : Nat} {l : List Pl} (h : MapIx w b l) (hlen : l.length < 1000000) (p : Pl) (hp : wfP p) :
    ∃ w', (Instr.mapUpdate 70 (.map (some b)) (.agg #[.int .i64 p.f, .int .i64 p.a, .int .i64 p.b, .int .i64 p.c]) (.int .i64 (l.length : Nat))).run Tryd.prog w = .ok () w' ∧ MapIx w' b (l ++ [p]) ∧ w.grownBy w' (some b) := by
  have hwf : (Lit.int .i64 (l.length : Nat)).wf = true := WalkArith.wf_i64 (by omega)
  obtain ⟨w', hr, ho, hg⟩ := World.ownsMap.update h keyLawP Tryd.underlying70 (by unfold maxLen; omega) (keyP p hp) (plainElem_int Tryd.underlying3 hwf)
  refine ⟨w', hr, ?_, hg⟩
  unfold MapIx
  rw [Dn_snoc, List.length_append]
  exact ho
end Go.Proofs.YtcoddcdiimpndaaDoor
