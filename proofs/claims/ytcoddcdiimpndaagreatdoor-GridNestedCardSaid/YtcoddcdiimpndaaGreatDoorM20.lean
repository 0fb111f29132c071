/-
  The small grids are closed surfaces: each cell has three edges, each edge two cells, the degrees are five and six. Checked by the kernel on the literals.
-/
import Derived.Test.YtcoddcdiimpndaaGreatDoorM19
import Derived.KernelRfl
set_option linter.unusedVariables false
set_option linter.unusedSimpArgs false
namespace Go.Proofs.YtcoddcdiimpndaaGreatDoor
/-- Is e an edge of the cell c, as the law asks it? -/
def mt (c : Tri) (e : Ed) : Bool := (e.a == c.a && e.b == c.b) || ((e.a == c.a && e.b == c.c) || (e.a == c.b && e.b == c.c))
def mtN (c : N3) (e : N2) : Bool := cond (Nat.beq e.1 c.1) (cond (Nat.beq e.2 c.2.1) true (Nat.beq e.2 c.2.2)) (cond (Nat.beq e.1 c.2.1) (Nat.beq e.2 c.2.2) false)
theorem natBeq (a b : Nat) : Nat.beq a b = ((a : Int) == (b : Int)) := by
  rw [Bool.eq_iff_iff, Nat.beq_eq, beq_iff_eq]
  omega
theorem mt_eq (c : N3) (e : N2) (hc : c.1 < c.2.1) : mt (toT c) (toE e) = mtN c e := by
  rw [Bool.eq_iff_iff]
  unfold mt mtN toT toE
  simp only [Bool.cond_eq_ite, Bool.or_eq_true, Bool.and_eq_true, beq_iff_eq, Nat.beq_eq]
  split
  · split <;> simp <;> omega
  · split <;> simp <;> omega
theorem mtN_iff (c : N3) (e : N2) (hc : c.1 < c.2.1) : mtN c e = true ↔ (e.1 = c.1 ∧ e.2 = c.2.1) ∨ (e.1 = c.1 ∧ e.2 = c.2.2) ∨ (e.1 = c.2.1 ∧ e.2 = c.2.2) := by
  unfold mtN
  simp only [Bool.cond_eq_ite, Nat.beq_eq]
  split
  · split <;> simp <;> omega
  · split <;> simp <;> omega
/-- How many of the first ones; by rounds, as the law counts. -/
def cntTo {α : Type} (P : α → Bool) (E : Nat → α) : Nat → Nat
  | 0 => 0
  | j + 1 => if P (E j) then cntTo P E j + 1 else cntTo P E j
theorem cntTo_le {α : Type} (P : α → Bool) (E : Nat → α) : ∀ j, cntTo P E j ≤ j
  | 0 => Nat.le_refl _
  | j + 1 => by
    have := cntTo_le P E j
    simp only [cntTo]
    split <;> omega
theorem cntTo_list {α : Type} [Inhabited α] (P : α → Bool) (L : List α) : ∀ j, j ≤ L.length → cntTo P (fun i => L[i]!) j = (L.take j).countP P
  | 0, _ => by simp [cntTo]
  | j + 1, h => by
    have ih := cntTo_list P L j (by omega)
    rw [List.take_succ_eq_append_getElem (by omega), List.countP_append]
    simp only [cntTo, ih, getElem!_pos L j (by omega)]
    split
    · rename_i hp; simp [List.countP_cons, hp]
    · rename_i hp; simp [List.countP_cons, hp]
theorem cntTo_all {α : Type} [Inhabited α] (P : α → Bool) (L : List α) : cntTo P (fun i => L[i]!) L.length = L.countP P := by
  rw [cntTo_list P L _ (Nat.le_refl _), List.take_length]
/-- The degree of node i after k edges. -/
def degTo (E : Nat → Ed) : Nat → Nat → Nat
  | 0, _ => 0
  | k + 1, i => degTo E k i + (if (E k).a.toNat = i then 1 else 0) + (if (E k).b.toNat = i then 1 else 0)
def hasN (i : Nat) (e : N2) : Bool := cond (Nat.beq e.1 i) true (Nat.beq e.2 i)
theorem hasN_iff (i : Nat) (e : N2) : hasN i e = true ↔ e.1 = i ∨ e.2 = i := by
  unfold hasN
  simp only [Bool.cond_eq_ite, Nat.beq_eq]
  split <;> simp <;> omega
theorem degTo_list (L : List N2) (hL : ∀ e ∈ L, e.1 < e.2) (i : Nat) : ∀ k, k ≤ L.length → degTo (fun j => (L.map toE)[j]!) k i = (L.take k).countP (hasN i)
  | 0, _ => by simp [degTo]
  | k + 1, h => by
    have ih := degTo_list L hL i k (by omega)
    rw [List.take_succ_eq_append_getElem (by omega), List.countP_append]
    simp only [degTo, ih]
    have hlt := hL L[k] (List.getElem_mem _)
    have hg : (L.map toE)[k]! = toE L[k] := by rw [getElem!_pos _ k (by rw [List.length_map]; omega), List.getElem_map]
    simp only [hg, toE, Int.toNat_natCast, List.countP_cons, List.countP_nil, hasN_iff]
    split <;> split <;> split <;> omega
theorem degTo_le (E : Nat → Ed) (i : Nat) : ∀ k, degTo E k i ≤ 2 * k
  | 0 => by simp [degTo]
  | k + 1 => by
    have := degTo_le E i k
    simp only [degTo]
    split <;> split <;> omega
/-- Counting, and asking of all, by the list's own recursor: the kernel is quick at these. -/
noncomputable def cntR {α : Type} (P : α → Bool) (L : List α) : Nat := @List.rec α (fun _ => Nat) 0 (fun a _ ih => cond (P a) (Nat.succ ih) ih) L
noncomputable def allR {α : Type} (P : α → Bool) (L : List α) : Bool := @List.rec α (fun _ => Bool) true (fun a _ ih => cond (P a) ih false) L
theorem cntR_eq {α : Type} (P : α → Bool) : ∀ L : List α, cntR P L = L.countP P
  | [] => rfl
  | a :: L => by
    have ih := cntR_eq P L
    have e : cntR P (a :: L) = cond (P a) (Nat.succ (cntR P L)) (cntR P L) := rfl
    rw [e, ih, List.countP_cons]
    cases P a <;> simp
theorem allR_eq {α : Type} (P : α → Bool) : ∀ L : List α, allR P L = L.all P
  | [] => rfl
  | a :: L => by
    have ih := allR_eq P L
    have e : allR P (a :: L) = cond (P a) (allR P L) false := rfl
    rw [e, ih, List.all_cons]
    cases P a <;> simp
def chainN : List N2 → Bool
  | [] => true
  | [_] => true
  | p :: q :: l => (Nat.blt p.1 q.1 || (Nat.beq p.1 q.1 && Nat.blt p.2 q.2)) && chainN (q :: l)
theorem chainN_pw : ∀ l : List N2, chainN l = true → (l.map toE).Pairwise ltEd
  | [], _ => List.Pairwise.nil
  | [p], _ => by simp
  | p :: q :: l, h => by
    simp only [chainN, Bool.and_eq_true, Bool.or_eq_true, Nat.blt_eq, Nat.beq_eq] at h
    have ih := chainN_pw (q :: l) h.2
    have h1 : ltEd (toE p) (toE q) := by
      unfold ltEd toE
      simp only
      omega
    rw [List.map_cons]
    refine List.pairwise_cons.2 ⟨?_, ih⟩
    intro r hr
    rw [List.map_cons] at hr ih
    rcases List.mem_cons.1 hr with rfl | hr
    · exact h1
    · exact ltEd_tr _ _ _ h1 ((List.pairwise_cons.1 ih).1 r hr)
/-- What the kernel checks of a grid. -/
noncomputable def surfR (T : List N3) (E : List N2) (N : Nat) : Bool :=
  cond (chainN E) (cond (allR (fun t => cond (Nat.beq (cntR (mtN t) E) 3) (cond (Nat.blt t.1 t.2.1) (Nat.blt t.2.1 t.2.2) false) false) T) (cond (allR (fun e => cond (Nat.beq (cntR (fun t => mtN t e) T) 2) (Nat.blt e.1 e.2) false) E)
    (cond (allR (fun i => cond (Nat.beq (cntR (hasN i) E) 5) true (Nat.beq (cntR (hasN i) E) 6)) (List.range N)) (Nat.beq (cntR (fun i => Nat.beq (cntR (hasN i) E) 5) (List.range N)) 12) false) false) false) false
def surfN (T : List N3) (E : List N2) (N : Nat) : Bool :=
  chainN E && (T.all (fun t => Nat.beq (E.countP (mtN t)) 3 && (Nat.blt t.1 t.2.1 && Nat.blt t.2.1 t.2.2)) && (E.all (fun e => Nat.beq (T.countP (fun t => mtN t e)) 2 && Nat.blt e.1 e.2) &&
    ((List.range N).all (fun i => Nat.beq (E.countP (hasN i)) 5 || Nat.beq (E.countP (hasN i)) 6) && Nat.beq ((List.range N).countP (fun i => Nat.beq (E.countP (hasN i)) 5)) 12)))
theorem surfR_eq (T : List N3) (E : List N2) (N : Nat) : surfR T E N = surfN T E N := by
  unfold surfR surfN
  simp only [cntR_eq, allR_eq, Bool.cond_false_right, Bool.cond_true_left]
/-- The edges of the literal are those of the grid: three of them for each cell, in strict order. -/
theorem lit_edges {l : List Pl} {h n N : Nat} {T : List N3} {E : List N2} (hT : trisTo l h n 20 0 0 = T.map toT) (hs : surfN T E N = true) : edL l h n = E.map toE := by
  simp only [surfN, Bool.and_eq_true] at hs
  obtain ⟨h1, h2, h3, _⟩ := hs
  refine strict_ext ltEd_irr ltEd_tr (edL_facts l h n).1 (chainN_pw E h1) fun e => ?_
  rw [(edL_facts l h n).2 e, hT]
  constructor
  · rintro ⟨t, ht, he⟩
    obtain ⟨u, hu, rfl⟩ := List.mem_map.1 ht
    have h4 := List.all_eq_true.1 h2 u hu
    simp only [Bool.and_eq_true, Nat.beq_eq, Nat.blt_eq] at h4
    obtain ⟨h5, h6, h7⟩ := h4
    -- three different matches: each of the cell's edges must be among them
    have hnd : (E.filter (mtN u)).Nodup := by
      have hp := (chainN_pw E h1)
      have : E.Nodup := by
        refine (List.pairwise_map.1 hp).imp fun {a b} hab e => ?_
        subst e
        exact ltEd_irr _ hab
      exact this.filter _
    have hlen : (E.filter (mtN u)).length = 3 := by rw [← List.countP_eq_length_filter]; exact h5
    have hsub : ∀ x ∈ E.filter (mtN u), x ∈ [(u.1, u.2.1), (u.1, u.2.2), (u.2.1, u.2.2)] := by
      intro x hx
      have := (List.mem_filter.1 hx).2
      obtain ⟨x1, x2⟩ := x
      rw [mtN_iff _ _ h6] at this
      simp only at this
      simp only [List.mem_cons, Prod.mk.injEq, List.not_mem_nil, or_false]
      omega
    have hall : ∀ x ∈ [(u.1, u.2.1), (u.1, u.2.2), (u.2.1, u.2.2)], x ∈ E.filter (mtN u) := by
      intro x hx
      have key : ∀ (A B : List N2), A.Nodup → (∀ x ∈ A, x ∈ B) → B.length ≤ A.length → ∀ x ∈ B, x ∈ A := by
        intro A
        induction A with
        | nil => intro B _ _ hl x hx; simp at hl; subst hl; exact absurd hx (by simp)
        | cons a A ih =>
          intro B hA hAB hl x hx
          obtain ⟨g1, g2⟩ := List.nodup_cons.1 hA
          by_cases e : x = a
          · subst e; simp
          · have ha := hAB a (by simp)
            refine List.mem_cons_of_mem _ (ih (B.erase a) g2 (fun y hy => ?_) (by rw [List.length_erase_of_mem ha]; simp at hl; omega) x ?_)
            · have hya : y ≠ a := fun e => g1 (e ▸ hy)
              exact (List.mem_erase_of_ne hya).2 (hAB y (by simp [hy]))
            · exact (List.mem_erase_of_ne e).2 hx
      exact key _ _ hnd hsub (by rw [hlen]; simp) x hx
    rw [mem_eds] at he
    simp only [toT] at he
    have fin : ∀ p q : Nat, e.a = p → e.b = q → (p, q) ∈ [(u.1, u.2.1), (u.1, u.2.2), (u.2.1, u.2.2)] → e ∈ E.map toE := fun p q ha hb hm =>
      List.mem_map.2 ⟨(p, q), (List.mem_filter.1 (hall _ hm)).1, by cases e; simp only [toE] at *; simp [ha, hb]⟩
    rcases he with ⟨ha, hb⟩ | ⟨ha, hb⟩ | ⟨ha, hb⟩
    · exact fin _ _ ha hb (by simp)
    · exact fin _ _ ha hb (by simp)
    · exact fin _ _ ha hb (by simp)
  · intro he
    obtain ⟨p, hp, rfl⟩ := List.mem_map.1 he
    have h4 := List.all_eq_true.1 h3 p hp
    simp only [Bool.and_eq_true, Nat.beq_eq] at h4
    have hpos : 0 < T.countP (fun t => mtN t p) := by omega
    obtain ⟨t, ht, hm⟩ := List.countP_pos_iff.1 hpos
    refine ⟨toT t, List.mem_map.2 ⟨t, ht, rfl⟩, ?_⟩
    rw [mem_eds]
    have h7 := List.all_eq_true.1 h2 t ht
    simp only [Bool.and_eq_true, Nat.blt_eq] at h7
    rw [mtN_iff _ _ h7.2.1] at hm
    simp only [toE, toT]
    omega
/-- What the law asks of the lists. -/
structure Surf (l : List Pl) (h n : Nat) : Prop where
  cells : ∀ k, k < (triL l h n).length → cntTo (mt (triL l h n)[k]!) (fun i => (edL l h n)[i]!) (edL l h n).length = 3
  sides : ∀ i, i < (edL l h n).length → cntTo (fun c => mt c (edL l h n)[i]!) (fun i => (triL l h n)[i]!) (triL l h n).length = 2
  deg : ∀ i, i < l.length → degTo (fun i => (edL l h n)[i]!) (edL l h n).length i = 5 ∨ degTo (fun i => (edL l h n)[i]!) (edL l h n).length i = 6
  five : cntTo (fun d => d == 5) (fun i => degTo (fun i => (edL l h n)[i]!) (edL l h n).length i) l.length = 12
theorem surf_of {l : List Pl} {h n : Nat} {T : List N3} {E : List N2} (hT : trisTo l h n 20 0 0 = T.map toT) (hs : surfN T E l.length = true) : Surf l h n := by
  have hE := lit_edges hT hs
  simp only [surfN, Bool.and_eq_true] at hs
  obtain ⟨h1, h2, h3, h4, h5⟩ := hs
  have hlt : ∀ e ∈ E, e.1 < e.2 := fun e he => by
    have := List.all_eq_true.1 h3 e he
    simp only [Bool.and_eq_true, Nat.blt_eq] at this
    exact this.2
  have hperm : (triL l h n).Perm (T.map toT) := by unfold triL; rw [hT]; exact sortT_perm _
  have hmem : ∀ t ∈ triL l h n, ∃ u ∈ T, toT u = t := fun t ht => List.mem_map.1 (hperm.mem_iff.1 ht)
  have hdeg : ∀ i, degTo (fun i => (edL l h n)[i]!) (edL l h n).length i = E.countP (hasN i) := fun i => by
    rw [hE, degTo_list E hlt i _ (by simp)]
    rw [List.length_map, List.take_length]
  refine ⟨fun k hk => ?_, fun i hi => ?_, fun i hi => ?_, ?_⟩
  · rw [cntTo_all, getElem!_pos _ k hk]
    obtain ⟨u, hu, he⟩ := hmem _ (List.getElem_mem hk)
    rw [← he, hE, List.countP_map]
    have h6 := List.all_eq_true.1 h2 u hu
    simp only [Bool.and_eq_true, Nat.beq_eq] at h6
    rw [← h6.1]
    refine List.countP_congr fun x _ => ?_
    have h7 := h6.2
    simp only [Nat.blt_eq] at h7
    rw [Function.comp, mt_eq _ _ h7.1]
  · rw [cntTo_all, getElem!_pos _ i hi, hperm.countP_eq, List.countP_map]
    obtain ⟨e, he, hx⟩ := List.mem_map.1 (show (edL l h n)[i] ∈ E.map toE by rw [← hE]; exact List.getElem_mem hi)
    rw [← hx]
    have h6 := List.all_eq_true.1 h3 e he
    simp only [Bool.and_eq_true, Nat.beq_eq] at h6
    rw [← h6.1]
    refine List.countP_congr fun x hx => ?_
    have h7 := List.all_eq_true.1 h2 x hx
    simp only [Bool.and_eq_true, Nat.blt_eq] at h7
    rw [Function.comp, mt_eq _ _ h7.2.1]
  · rw [hdeg]
    have h6 := List.all_eq_true.1 h4 i (List.mem_range.2 hi)
    simpa [Nat.beq_eq] using h6
  · have hc : ∀ (N : Nat) (F : Nat → Nat), cntTo (fun d => d == 5) F N = (List.range N).countP (fun i => Nat.beq (F i) 5) := by
      intro N F
      induction N with
      | zero => rfl
      | succ N ih =>
        rw [List.range_succ, List.countP_append]
        simp only [cntTo, ih]
        by_cases hF : F N = 5
        · have e1 : Nat.beq (F N) 5 = true := by rw [Nat.beq_eq]; exact hF
          simp [List.countP_cons, hF]
        · have e1 : Nat.beq (F N) 5 = false := by rw [← Bool.not_eq_true, Nat.beq_eq]; exact hF
          simp [List.countP_cons, hF, e1]
    rw [hc]
    simp only [hdeg]
    exact Nat.eq_of_beq_eq_true h5
set_option maxRecDepth 100000 in
theorem surf1 : surfR tLit1 eLit1 (10 * (1 * 1) + 2) = true := by kernel_rfl
set_option maxRecDepth 100000 in
theorem surf2 : surfR tLit2 eLit2 (10 * (2 * 2) + 2) = true := by kernel_rfl
set_option maxRecDepth 100000 in
theorem surf3 : surfR tLit3 eLit3 (10 * (3 * 3) + 2) = true := by kernel_rfl
set_option maxRecDepth 100000 in
theorem surf4 : surfR tLit4 eLit4 (10 * (4 * 4) + 2) = true := by kernel_rfl
set_option maxRecDepth 100000 in
theorem surf5 : surfR tLit5 eLit5 (10 * (5 * 5) + 2) = true := by kernel_rfl
theorem surf_one {n h : Nat} (h1 : 1 ≤ n) (h8 : n ≤ 8) {T : List N3} {E : List N2} (hT : trisTo (nodes n) h n 20 0 0 = T.map toT) (hs : surfN T E (10 * (n * n) + 2) = true) : Surf (nodes n) h n ∧ (triL (nodes n) h n).length = T.length ∧ (edL (nodes n) h n).length = E.length := by
  rw [← nodes_count n h1 h8] at hs
  refine ⟨surf_of hT hs, ?_, by rw [lit_edges hT hs, List.length_map]⟩
  unfold triL
  rw [(sortT_perm _).length_eq, hT, List.length_map]
set_option maxRecDepth 100000 in
theorem surf_all (n : Nat) (h1 : 1 ≤ n) (h5 : n ≤ 5) : Surf (nodes n) (840 / n) n ∧ (triL (nodes n) (840 / n) n).length = 20 * (n * n) ∧ (edL (nodes n) (840 / n) n).length = 30 * (n * n) := by
  have l1 : tLit1.length = 20 * (1 * 1) ∧ eLit1.length = 30 * (1 * 1) := by decide +kernel
  have l2 : tLit2.length = 20 * (2 * 2) ∧ eLit2.length = 30 * (2 * 2) := by decide +kernel
  have l3 : tLit3.length = 20 * (3 * 3) ∧ eLit3.length = 30 * (3 * 3) := by decide +kernel
  have l4 : tLit4.length = 20 * (4 * 4) ∧ eLit4.length = 30 * (4 * 4) := by decide +kernel
  have l5 : tLit5.length = 20 * (5 * 5) ∧ eLit5.length = 30 * (5 * 5) := by decide +kernel
  rcases (show n = 1 ∨ n = 2 ∨ n = 3 ∨ n = 4 ∨ n = 5 by omega) with rfl | rfl | rfl | rfl | rfl
  · rw [← l1.1, ← l1.2]; exact surf_one (by omega) (by omega) tris_eq1 ((surfR_eq ..).symm.trans surf1)
  · rw [← l2.1, ← l2.2]; exact surf_one (by omega) (by omega) tris_eq2 ((surfR_eq ..).symm.trans surf2)
  · rw [← l3.1, ← l3.2]; exact surf_one (by omega) (by omega) tris_eq3 ((surfR_eq ..).symm.trans surf3)
  · rw [← l4.1, ← l4.2]; exact surf_one (by omega) (by omega) tris_eq4 ((surfR_eq ..).symm.trans surf4)
  · rw [← l5.1, ← l5.2]; exact surf_one (by omega) (by omega) tris_eq5 ((surfR_eq ..).symm.trans surf5)
end Go.Proofs.YtcoddcdiimpndaaGreatDoor
