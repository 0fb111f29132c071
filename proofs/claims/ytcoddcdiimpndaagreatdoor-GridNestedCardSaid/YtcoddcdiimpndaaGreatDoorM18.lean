/-
  The cells of a grid have three nodes each; its edges and neighbours are those of the cells; the reference's lists are the same.
-/
import Derived.Test.YtcoddcdiimpndaaGreatDoorM17
set_option linter.unusedVariables false
set_option linter.unusedSimpArgs false
namespace Go.Proofs.YtcoddcdiimpndaaGreatDoor
theorem idxOf_inj' {l : List Pl} {p q : Pl} (hp : p ∈ l) (hq : q ∈ l) (h : l.idxOf p = l.idxOf q) : p = q := by
  have h1 := List.getElem_idxOf (List.idxOf_lt_length_of_mem hp)
  have h2 := List.getElem_idxOf (List.idxOf_lt_length_of_mem hq)
  simp only [h] at h1
  exact h1.symm.trans h2
section
variable {n h : Nat}
theorem atN_mem (h1 : 1 ≤ n) (hq : 840 / n = h) (hh : n * h = 840) (f x y z : Int) (hv : validB f x y z = true) (dx : (h : Int) ∣ x) (dy : (h : Int) ∣ y) (dz : (h : Int) ∣ z) : normPl f x y z ∈ nodes n := grid_node n h h1 hq hh f x y z hv dx dy dz
theorem atN_inj (h1 : 1 ≤ n) (hq : 840 / n = h) (hh : n * h = 840) (f x y z x' y' z' : Int) (hv : validB f x y z = true) (dx : (h : Int) ∣ x) (dy : (h : Int) ∣ y) (dz : (h : Int) ∣ z)
    (hv' : validB f x' y' z' = true) (dx' : (h : Int) ∣ x') (dy' : (h : Int) ∣ y') (dz' : (h : Int) ∣ z') (he : atN (nodes n) f x y z = atN (nodes n) f x' y' z') : x = x' ∧ y = y' ∧ z = z' := by
  have m1 := atN_mem h1 hq hh f x y z hv dx dy dz
  have m2 := atN_mem h1 hq hh f x' y' z' hv' dx' dy' dz'
  unfold atN ix at he
  rw [if_pos m1, if_pos m2] at he
  have e := idxOf_inj' m1 m2 (by omega)
  unfold normPl at e
  injection e with e0 e1 e2 e3
  exact norm_inj f x y z x' y' z' hv hv' (by omega) (fun i hi => by
    rcases (show i = 0 ∨ i = 1 ∨ i = 2 by omega) with rfl | rfl | rfl
    · exact e1
    · exact e2
    · exact e3)
def okC (N : Nat) (t : Tri) : Prop := 0 ≤ t.a ∧ t.a < t.b ∧ t.b < t.c ∧ t.c < (N : Int)
theorem three_ne (h1 : 1 ≤ n) (hq : 840 / n = h) (hh : n * h = 840) (f a b c : Int) (hf : 0 ≤ f ∧ f < 20) (ha : 0 ≤ a) (hb : 0 ≤ b) (hc : 0 ≤ c) (hs : a + b + c + h = 840) (da : (h : Int) ∣ a) (db : (h : Int) ∣ b) (dc : (h : Int) ∣ c) :
    ∀ t ∈ cellsOfP (nodes n) h f a b c, t.a < t.b ∧ t.b < t.c := by
  have hpos : (0 : Int) < (h : Int) := by
    rcases Nat.eq_zero_or_pos h with e | e
    · subst e; omega
    · omega
  have v : ∀ x y z : Int, 0 ≤ x → 0 ≤ y → 0 ≤ z → x + y + z = 840 → validB f x y z = true := fun x y z h1 h2 h3 h4 => by rw [validB_iff]; omega
  have dh : (h : Int) ∣ (h : Int) := Int.dvd_refl _
  have dah := Int.dvd_add da dh
  have dbh := Int.dvd_add db dh
  have dch := Int.dvd_add dc dh
  have ne : ∀ x y z x' y' z' : Int, validB f x y z = true → (h : Int) ∣ x → (h : Int) ∣ y → (h : Int) ∣ z → validB f x' y' z' = true → (h : Int) ∣ x' → (h : Int) ∣ y' → (h : Int) ∣ z' → ¬ (x = x' ∧ y = y' ∧ z = z') → atN (nodes n) f x y z ≠ atN (nodes n) f x' y' z' :=
    fun x y z x' y' z' a1 a2 a3 a4 a5 a6 a7 a8 hn he => hn (atN_inj h1 hq hh f x y z x' y' z' a1 a2 a3 a4 a5 a6 a7 a8 he)
  intro t ht
  have k : t = upT (nodes n) h f a b c ∨ ((h : Int) ≤ c ∧ t = downT (nodes n) h f a b c) := by
    unfold cellsOfP at ht
    split at ht <;> simp at ht
    · rename_i hle
      rcases ht with e | e
      · exact .inl e
      · exact .inr ⟨hle, e⟩
    · exact .inl ht
  rcases k with rfl | ⟨hle, rfl⟩
  · have v1 := v (a + h) b c (by omega) (by omega) (by omega) (by omega)
    have v2 := v a (b + h) c (by omega) (by omega) (by omega) (by omega)
    have v3 := v a b (c + h) (by omega) (by omega) (by omega) (by omega)
    exact triOf_strict _ _ _ (ne _ _ _ _ _ _ v1 dah db dc v2 da dbh dc (by omega)) (ne _ _ _ _ _ _ v1 dah db dc v3 da db dch (by omega)) (ne _ _ _ _ _ _ v2 da dbh dc v3 da db dch (by omega))
  · have dcm : (h : Int) ∣ c + -(h : Int) := Int.dvd_add dc (Int.dvd_neg.2 dh)
    have dcm2 : (h : Int) ∣ c + -(h : Int) + h := Int.dvd_add dcm dh
    have v1 := v a (b + h) (c + -h + h) (by omega) (by omega) (by omega) (by omega)
    have v2 := v (a + h) b (c + -h + h) (by omega) (by omega) (by omega) (by omega)
    have v3 := v (a + h) (b + h) (c + -h) (by omega) (by omega) (by omega) (by omega)
    exact triOf_strict _ _ _ (ne _ _ _ _ _ _ v1 da dbh dcm2 v2 dah db dcm2 (by omega)) (ne _ _ _ _ _ _ v1 da dbh dcm2 v3 dah dbh dcm (by omega)) (ne _ _ _ _ _ _ v2 dah db dcm2 v3 dah dbh dcm (by omega))
theorem tris_form (l : List Pl) (h n : Nat) (t : Tri) (ht : t ∈ trisTo l h n 20 0 0) : ∃ f a b : Nat, f < 20 ∧ a + b < n ∧ t ∈ cellsOfP l h (f : Int) ((a : Int) * h) ((b : Int) * h) (((n : Int) - 1 - a - b) * h) := by
  unfold trisTo tAll tCol tRow at ht
  simp only [List.mem_append, List.mem_flatMap, List.mem_range] at ht
  rcases ht with (⟨f, hf, a, ha, b, hb, h1⟩ | ⟨a, ha, _⟩) | ⟨a, ha, _⟩
  · exact ⟨f, a, b, hf, by omega, h1⟩
  · omega
  · omega
theorem tris_ok (h1 : 1 ≤ n) (h8 : n ≤ 8) (hq : 840 / n = h) (hh : n * h = 840) : ∀ t ∈ trisTo (nodes n) h n 20 0 0, okC (nodes n).length t := by
  intro t ht
  obtain ⟨⟨p1, p2⟩, ⟨p3, p4⟩, p5, p6⟩ := trisTo_ok (nodes n) (nodes_len n h1 h8).1 h n 20 0 0 t ht
  obtain ⟨f, a, b, hf, hab, hc⟩ := tris_form _ _ _ _ ht
  have hd : ∀ k : Int, (h : Int) ∣ k * h := fun k => Int.dvd_mul_left _ _
  have hsum : (a : Int) * (h : Int) + (b : Int) * (h : Int) + ((n : Int) - 1 - a - b) * (h : Int) + h = 840 := by
    have e1 : (n : Int) * (h : Int) = 840 := by rw [← Int.natCast_mul, hh]; rfl
    rw [← e1, ← Int.add_mul, ← Int.add_mul, show (a : Int) + b + ((n : Int) - 1 - a - b) = n - 1 by omega, Int.sub_mul]
    omega
  have hp : ∀ k : Int, 0 ≤ k → 0 ≤ k * (h : Int) := fun k hk => Int.mul_nonneg hk (Int.natCast_nonneg h)
  obtain ⟨q1, q2⟩ := three_ne h1 hq hh f _ _ _ ⟨by omega, by omega⟩ (hp a (by omega)) (hp b (by omega)) (hp ((n : Int) - 1 - a - b) (by omega)) hsum (hd _) (hd _) (hd _) t hc
  exact ⟨p1, q1, q2, p6⟩
end
/-- Are i and v two nodes of one cell? -/
def adj (T : List Tri) (i v : Int) : Prop := ∃ t ∈ T, (i = t.a ∧ (v = t.b ∨ v = t.c)) ∨ (i = t.b ∧ (v = t.a ∨ v = t.c)) ∨ (i = t.c ∧ (v = t.a ∨ v = t.b))
theorem adj_symm {T : List Tri} {i v : Int} (h : adj T i v) : adj T v i := by
  obtain ⟨t, ht, h⟩ := h
  exact ⟨t, ht, by omega⟩
theorem mem_eds (t : Tri) (e : Ed) : e ∈ eds t ↔ (e.a = t.a ∧ e.b = t.b) ∨ (e.a = t.a ∧ e.b = t.c) ∨ (e.a = t.b ∧ e.b = t.c) := by
  cases e
  simp [eds]
theorem edL_facts (l : List Pl) (h n : Nat) : (edL l h n).Pairwise ltEd ∧ ∀ e, e ∈ edL l h n ↔ ∃ t ∈ trisTo l h n 20 0 0, e ∈ eds t := by
  obtain ⟨h1, h2⟩ := compE_sort (edR l h n)
  refine ⟨h1, fun e => (h2 e).trans ?_⟩
  unfold edR triL
  simp only [List.mem_flatMap, (sortT_perm _).mem_iff]
theorem edL_adj {l : List Pl} {h n : Nat} (hok : ∀ t ∈ trisTo l h n 20 0 0, okC l.length t) (i v : Int) : (⟨i, v⟩ : Ed) ∈ edL l h n ↔ adj (trisTo l h n 20 0 0) i v ∧ i < v := by
  rw [(edL_facts l h n).2]
  constructor
  · rintro ⟨t, ht, he⟩
    obtain ⟨_, q1, q2, _⟩ := hok t ht
    rw [mem_eds] at he
    simp only at he
    exact ⟨⟨t, ht, by omega⟩, by omega⟩
  · rintro ⟨⟨t, ht, he⟩, hlt⟩
    obtain ⟨_, q1, q2, _⟩ := hok t ht
    refine ⟨t, ht, ?_⟩
    rw [mem_eds]
    simp only
    omega
theorem mem_upd (X : Nat → List Int) (i : Nat) (x : Int) (j : Nat) (v : Int) : v ∈ upd X i x j ↔ v ∈ X j ∨ (j = i ∧ v = x) := by
  unfold upd
  split <;> simp_all
theorem nodup_upd (X : Nat → List Int) (i : Nat) (x : Int) (j : Nat) (h : (X j).Nodup) (hx : j = i → x ∉ X j) : (upd X i x j).Nodup := by
  unfold upd
  split
  · rename_i e
    exact List.nodup_append.2 ⟨h, by simp, fun a ha b hb e2 => by
      have : b = x := by simpa using hb
      subst this; subst e2
      exact hx e ha⟩
  · exact h
theorem nxR_facts : ∀ (m : Nat) (R : List Ed), R.length = m → R.Nodup → (∀ e ∈ R, 0 ≤ e.a ∧ e.a < e.b) → ∀ i : Nat, (nxR R i).Nodup ∧ ∀ v, v ∈ nxR R i ↔ (⟨i, v⟩ : Ed) ∈ R ∨ (⟨v, i⟩ : Ed) ∈ R := by
  intro m
  induction m with
  | zero =>
    intro R hR _ _ i
    obtain rfl := List.eq_nil_of_length_eq_zero hR
    simp [nxR]
  | succ m ih =>
    intro R hR hn hok i
    rcases List.eq_nil_or_concat R with e | ⟨Q, e, he⟩
    · subst e; simp at hR
    · have he' : R = Q ++ [e] := by simpa using he
      subst he'
      obtain ⟨hn1, _, hn2⟩ := List.nodup_append.1 hn
      have hne : e ∉ Q := fun h => hn2 e h e (by simp) rfl
      have hokQ : ∀ x ∈ Q, 0 ≤ x.a ∧ x.a < x.b := fun x hx => hok x (by simp [hx])
      have hoke := hok e (by simp)
      have IH := ih Q (by simp at hR; omega) hn1 hokQ
      obtain ⟨p, q⟩ := e
      simp only at hoke
      rw [nxR_snoc]
      unfold addE
      simp only
      have k1 : ∀ j : Nat, j = p.toNat → q ∉ nxR Q j := by
        intro j hj hq
        rcases ((IH j).2 q).1 hq with h | h
        · rw [show (j : Int) = p by omega] at h
          exact hne h
        · have := hokQ _ h
          simp only at this
          omega
      have k2 : ∀ j : Nat, j = q.toNat → p ∉ upd (nxR Q) p.toNat q j := by
        intro j hj hp
        rcases (mem_upd _ _ _ _ _).1 hp with h | ⟨h, _⟩
        · rcases ((IH j).2 p).1 h with h | h
          · have := hokQ _ h
            simp only at this
            omega
          · rw [show (j : Int) = q by omega] at h
            exact hne h
        · omega
      refine ⟨nodup_upd _ _ _ _ (nodup_upd _ _ _ _ (IH i).1 (k1 i)) (k2 i), fun v => ?_⟩
      rw [mem_upd, mem_upd, (IH i).2 v]
      simp only [List.mem_append, List.mem_singleton, Ed.mk.injEq]
      constructor
      · rintro (((h | h) | ⟨h, h'⟩) | ⟨h, h'⟩)
        · exact .inl (.inl h)
        · exact .inr (.inl h)
        · exact .inl (.inr ⟨by omega, h'⟩)
        · exact .inr (.inr ⟨h', by omega⟩)
      · rintro ((h | ⟨h, h'⟩) | (h | ⟨h, h'⟩))
        · exact .inl (.inl (.inl h))
        · exact .inl (.inr ⟨by omega, h'⟩)
        · exact .inl (.inl (.inr h))
        · exact .inr ⟨by omega, h⟩
theorem nxL_facts {l : List Pl} {h n : Nat} (hok : ∀ t ∈ trisTo l h n 20 0 0, okC l.length t) (i : Nat) : (nxL l h n i).Pairwise (· < ·) ∧ ∀ v, v ∈ nxL l h n i ↔ adj (trisTo l h n 20 0 0) i v := by
  have hE := edL_facts l h n
  have hnd : (edL l h n).Nodup := hE.1.imp fun {a b} h e => by subst e; exact ltEd_irr a h
  have hokE : ∀ e ∈ edL l h n, 0 ≤ e.a ∧ e.a < e.b := by
    intro e he
    obtain ⟨t, ht, h2⟩ := (hE.2 e).1 he
    obtain ⟨q0, q1, q2, _⟩ := hok t ht
    rw [mem_eds] at h2
    omega
  obtain ⟨h1, h2⟩ := nxR_facts _ (edL l h n) rfl hnd hokE i
  refine ⟨sortI_strict _ h1, fun v => ?_⟩
  unfold nxL
  rw [sortI_mem, h2, edL_adj hok, edL_adj hok]
  constructor
  · rintro (⟨h, _⟩ | ⟨h, _⟩)
    · exact h
    · exact adj_symm h
  · intro h
    obtain ⟨t, ht, h3⟩ := h
    have h4 : adj (trisTo l _ n 20 0 0) i v := ⟨t, ht, h3⟩
    obtain ⟨q0, q1, q2, _⟩ := hok t ht
    rcases (show (i : Int) < v ∨ v < i by omega) with g | g
    · exact .inl ⟨h4, g⟩
    · exact .inr ⟨adj_symm h4, g⟩
/-- A number put into a strictly ascending list, once. -/
def insU : List Int → Int → List Int
  | [], v => [v]
  | x :: L, v => if x < v then x :: insU L v else if x = v then x :: L else v :: x :: L
theorem mem_insU : ∀ (L : List Int) (v x : Int), x ∈ insU L v ↔ x ∈ L ∨ x = v
  | [], v, x => by simp [insU]
  | y :: L, v, x => by
    simp only [insU]
    split
    · simp [mem_insU L v x, or_assoc]
    · split
      · rename_i e
        subst e
        simp only [List.mem_cons]
        constructor
        · exact .inl
        · rintro (h | h)
          · exact h
          · exact .inl h
      · simp only [List.mem_cons]
        constructor
        · rintro (h | h)
          · exact .inr h
          · exact .inl h
        · rintro (h | h)
          · exact .inr h
          · exact .inl h
theorem strict_insU : ∀ (L : List Int) (v : Int), L.Pairwise (· < ·) → (insU L v).Pairwise (· < ·)
  | [], v, _ => by simp [insU]
  | y :: L, v, h => by
    obtain ⟨h1, h2⟩ := List.pairwise_cons.1 h
    simp only [insU]
    split
    · rename_i hlt
      refine List.pairwise_cons.2 ⟨fun x hx => ?_, strict_insU L v h2⟩
      rcases (mem_insU L v x).1 hx with h3 | h3
      · exact h1 x h3
      · omega
    · split
      · exact h
      · refine List.pairwise_cons.2 ⟨fun x hx => ?_, h⟩
        rcases List.mem_cons.1 hx with h3 | h3
        · omega
        · have := h1 x h3
          omega
theorem insU_at : ∀ (L : List Int) (v : Int) (k : Nat), k ≤ L.length → (∀ i, i < k → L[i]! < v) → (k < L.length → ¬ L[k]! < v) → insU L v = if k < L.length ∧ L[k]! = v then L else L.take k ++ v :: L.drop k
  | [], v, k, h, _, _ => by simp [insU]
  | y :: L, v, 0, _, _, h2 => by
    have := h2 (by simp)
    simp at this
    simp only [insU, if_neg (show ¬ y < v by omega)]
    simp
  | y :: L, v, k + 1, hk, h1, h2 => by
    have h0 := h1 0 (by omega)
    simp at h0
    have ih := insU_at L v k (by simpa using hk) (fun i hi => by simpa using h1 (i + 1) (by omega)) (fun h => by simpa using h2 (by simpa using h))
    simp only [insU, if_pos h0, ih]
    simp only [List.length_cons, Nat.add_lt_add_iff_right, List.getElem!_cons_succ, List.take_succ_cons, List.drop_succ_cons, List.cons_append]
    split <;> rfl
def addU (X : Nat → List Int) (p q : Int) : Nat → List Int := fun j => if j = p.toNat then insU (X j) q else X j
def prs (t : Tri) : List (Int × Int) := [(t.a, t.b), (t.a, t.c), (t.b, t.c), (t.b, t.a), (t.c, t.a), (t.c, t.b)]
def addP (X : Nat → List Int) (L : List (Int × Int)) : Nat → List Int := L.foldl (fun X p => addU X p.1 p.2) X
def arR (T : List Tri) : Nat → List Int := T.foldl (fun X t => addP X (prs t)) (fun _ => [])
theorem mem_addU (X : Nat → List Int) (p q : Int) (j : Nat) (v : Int) : v ∈ addU X p q j ↔ v ∈ X j ∨ (j = p.toNat ∧ v = q) := by
  unfold addU
  split
  · rename_i h; rw [mem_insU]; simp [h]
  · rename_i h; simp [h]
theorem strict_addU (X : Nat → List Int) (p q : Int) (h : ∀ j, (X j).Pairwise (· < ·)) (j : Nat) : (addU X p q j).Pairwise (· < ·) := by
  unfold addU
  split
  · exact strict_insU _ _ (h j)
  · exact h j
theorem addP_facts : ∀ (L : List (Int × Int)) (X : Nat → List Int), (∀ j, (X j).Pairwise (· < ·)) → (∀ j, (addP X L j).Pairwise (· < ·)) ∧ ∀ j v, v ∈ addP X L j ↔ v ∈ X j ∨ ∃ p ∈ L, j = p.1.toNat ∧ v = p.2
  | [], X, h => ⟨h, fun j v => by simp [addP]⟩
  | p :: L, X, h => by
    obtain ⟨h1, h2⟩ := addP_facts L (addU X p.1 p.2) (strict_addU X p.1 p.2 h)
    refine ⟨h1, fun j v => (h2 j v).trans ?_⟩
    rw [mem_addU]
    simp only [List.mem_cons, exists_eq_or_imp, or_assoc]
theorem arR_facts : ∀ (T : List Tri) (X : Nat → List Int), (∀ j, (X j).Pairwise (· < ·)) → (∀ j, (T.foldl (fun X t => addP X (prs t)) X j).Pairwise (· < ·)) ∧ ∀ j v, v ∈ T.foldl (fun X t => addP X (prs t)) X j ↔ v ∈ X j ∨ ∃ t ∈ T, ∃ p ∈ prs t, j = p.1.toNat ∧ v = p.2
  | [], X, h => ⟨h, fun j v => by simp⟩
  | t :: T, X, h => by
    have h0 := addP_facts (prs t) X h
    obtain ⟨h1, h2⟩ := arR_facts T (addP X (prs t)) h0.1
    refine ⟨h1, fun j v => (h2 j v).trans ?_⟩
    rw [h0.2]
    simp only [List.mem_cons, exists_eq_or_imp, or_assoc]
theorem arR_snoc (T : List Tri) (t : Tri) : arR (T ++ [t]) = addP (arR T) (prs t) := by simp [arR]
theorem arR_mem {T : List Tri} {N : Nat} (hok : ∀ t ∈ T, okC N t) (i : Nat) : (arR T i).Pairwise (· < ·) ∧ ∀ v, v ∈ arR T i ↔ adj T i v := by
  obtain ⟨h1, h2⟩ := arR_facts T (fun _ => []) (fun _ => List.Pairwise.nil)
  refine ⟨h1 i, fun v => (h2 i v).trans ?_⟩
  simp only [List.not_mem_nil, false_or]
  constructor
  · rintro ⟨t, ht, p, hp, e1, e2⟩
    obtain ⟨q0, q1, q2, _⟩ := hok t ht
    refine ⟨t, ht, ?_⟩
    simp only [prs, List.mem_cons, List.not_mem_nil, or_false] at hp
    rcases hp with rfl | rfl | rfl | rfl | rfl | rfl <;> simp only at e1 e2 <;> omega
  · rintro ⟨t, ht, h⟩
    obtain ⟨q0, q1, q2, _⟩ := hok t ht
    refine ⟨t, ht, ((i : Int), v), ?_, by simp, rfl⟩
    simp only [prs, List.mem_cons, List.not_mem_nil, or_false, Prod.mk.injEq]
    omega
theorem arR_nxL {l : List Pl} {h n : Nat} (hok : ∀ t ∈ trisTo l h n 20 0 0, okC l.length t) (i : Nat) : arR (triL l h n) i = nxL l h n i := by
  have hok2 : ∀ t ∈ triL l h n, okC l.length t := fun t ht => hok t ((sortT_perm _).mem_iff.1 ht)
  obtain ⟨h1, h2⟩ := arR_mem hok2 i
  obtain ⟨h3, h4⟩ := nxL_facts hok i
  refine strict_ext (fun x => Int.lt_irrefl x) (fun x y z => Int.lt_trans) h1 h3 fun x => ?_
  rw [h2, h4]
  exact ⟨fun ⟨t, ht, h⟩ => ⟨t, (sortT_perm _).mem_iff.1 ht, h⟩, fun ⟨t, ht, h⟩ => ⟨t, (sortT_perm _).mem_iff.2 ht, h⟩⟩
/-- The edges that the rows give, node by node. -/
def edRow (X : Nat → List Int) (a k : Nat) : List Ed := (((X a).take k).filter (fun b => decide ((a : Int) < b))).map fun b => ⟨a, b⟩
def edAll (X : Nat → List Int) (m : Nat) : List Ed := (List.range m).flatMap fun a => edRow X a (X a).length
theorem edAll_succ (X : Nat → List Int) (m : Nat) : edAll X (m + 1) = edAll X m ++ edRow X m (X m).length := by simp [edAll, List.range_succ]
theorem edRow_mem (X : Nat → List Int) (a : Nat) (e : Ed) : e ∈ edRow X a (X a).length ↔ e.a = a ∧ e.b ∈ X a ∧ e.a < e.b := by
  simp only [edRow, List.take_length, List.mem_map, List.mem_filter, decide_eq_true_eq]
  constructor
  · rintro ⟨b, ⟨h1, h2⟩, rfl⟩
    exact ⟨rfl, h1, h2⟩
  · rintro ⟨h1, h2, h3⟩
    exact ⟨e.b, ⟨h2, by omega⟩, ed_ext h1.symm rfl⟩
theorem edRow_strict (X : Nat → List Int) (a k : Nat) (h : (X a).Pairwise (· < ·)) : (edRow X a k).Pairwise ltEd := by
  unfold edRow
  refine List.pairwise_map.2 (((h.sublist (List.take_sublist _ _)).filter _).imp fun {x y} hxy => ?_)
  exact .inr ⟨rfl, hxy⟩
theorem edAll_strict (X : Nat → List Int) (h : ∀ j, (X j).Pairwise (· < ·)) : ∀ m, (edAll X m).Pairwise ltEd ∧ ∀ e, e ∈ edAll X m ↔ ∃ a : Nat, a < m ∧ e.a = a ∧ e.b ∈ X a ∧ e.a < e.b
  | 0 => ⟨List.Pairwise.nil, fun e => by simp [edAll]⟩
  | m + 1 => by
    obtain ⟨h1, h2⟩ := edAll_strict X h m
    rw [edAll_succ]
    refine ⟨List.pairwise_append.2 ⟨h1, edRow_strict X m _ (h m), fun x hx y hy => ?_⟩, fun e => ?_⟩
    · obtain ⟨a, ha, e1, _⟩ := (h2 x).1 hx
      obtain ⟨e2, _⟩ := (edRow_mem X m y).1 hy
      unfold ltEd
      omega
    · rw [List.mem_append, h2, edRow_mem]
      constructor
      · rintro (⟨a, ha, h3⟩ | h3)
        · exact ⟨a, by omega, h3⟩
        · exact ⟨m, by omega, h3⟩
      · rintro ⟨a, ha, h3⟩
        rcases Nat.lt_or_ge a m with g | g
        · exact .inl ⟨a, g, h3⟩
        · obtain rfl : a = m := by omega
          exact .inr h3
theorem edAll_edL {l : List Pl} {h n : Nat} (hok : ∀ t ∈ trisTo l h n 20 0 0, okC l.length t) : edAll (nxL l h n) l.length = edL l h n := by
  obtain ⟨h1, h2⟩ := edAll_strict (nxL l h n) (fun j => (nxL_facts hok j).1) l.length
  refine strict_ext ltEd_irr ltEd_tr h1 (edL_facts l h n).1 fun e => ?_
  rw [h2]
  obtain ⟨i, v⟩ := e
  rw [edL_adj hok]
  simp only
  constructor
  · rintro ⟨a, ha, rfl, h3, h4⟩
    exact ⟨((nxL_facts hok a).2 v).1 h3, h4⟩
  · rintro ⟨h3, h4⟩
    have hb : 0 ≤ i ∧ i < (l.length : Int) := by
      obtain ⟨t, ht, hc⟩ := h3
      obtain ⟨q0, q1, q2, q3⟩ := hok t ht
      omega
    obtain ⟨a, rfl⟩ := Int.eq_ofNat_of_zero_le hb.1
    exact ⟨a, by omega, rfl, ((nxL_facts hok a).2 v).2 h3, h4⟩
/-- Two lists in order, one a permutation of the other. -/
theorem le_ext {α : Type} {le : α → α → Prop} (anti : ∀ x y, le x y → le y x → x = y) : ∀ {A B : List α}, A.Pairwise le → B.Pairwise le → A.Perm B → A = B
  | [], B, _, _, h => h.nil_eq
  | a :: A, B, hA, hB, h => by
    cases B with
    | nil => exact absurd h.eq_nil (by simp)
    | cons b B =>
      obtain ⟨a1, a2⟩ := List.pairwise_cons.1 hA
      obtain ⟨b1, b2⟩ := List.pairwise_cons.1 hB
      have e : a = b := by
        rcases List.mem_cons.1 (h.mem_iff.1 (List.mem_cons_self (a := a) (l := A))) with e | h1
        · exact e
        rcases List.mem_cons.1 (h.mem_iff.2 (List.mem_cons_self (a := b) (l := B))) with e | h2
        · exact e.symm
        · exact anti _ _ (a1 b h2) (b1 a h1)
      subst e
      rw [le_ext anti a2 b2 h.cons_inv]
def leT (x y : Tri) : Prop := ltOf cmpT y x = false
theorem sortT_le (L : List Tri) : (sortT L).Pairwise leT := by
  have := List.pairwise_mergeSort (le := fun x y => !ltOf cmpT y x) (fun x y z h1 h2 => by
    simp only [Bool.not_eq_true', ltT_no] at *; omega) (fun x y => by
    cases h : ltOf cmpT y x
    · simp
    · have := (ltT_iff y x).1 h
      have h3 : ltOf cmpT x y = false := (ltT_no x y).2 (by omega)
      simp [h3]) L
  refine this.imp fun {x y} h => ?_
  have h2 : ltOf cmpT y x = false := by simpa only [Bool.not_eq_true'] using h
  exact h2
theorem sortT_ins (M : List Tri) (x : Tri) (k : Nat) (hk : k ≤ (sortT M).length) (h1 : ∀ i, k ≤ i → i < (sortT M).length → ltOf cmpT x (sortT M)[i]! = true) (h2 : 0 < k → ltOf cmpT x (sortT M)[k - 1]! = false) :
    (sortT M).take k ++ x :: (sortT M).drop k = sortT (M ++ [x]) := by
  have hs := sortT_le M
  refine le_ext (fun x y a b => antiT x y b a) ?_ (sortT_le _) ?_
  · refine List.pairwise_append.2 ⟨hs.sublist (List.take_sublist _ _), List.pairwise_cons.2 ⟨fun y hy => ?_, hs.sublist (List.drop_sublist _ _)⟩, fun y hy z hz => ?_⟩
    · obtain ⟨j, hj, rfl⟩ := List.getElem_of_mem hy
      rw [List.length_drop] at hj
      rw [List.getElem_drop]
      have := h1 (k + j) (by omega) (by omega)
      rw [getElem!_pos _ _ (by omega), ltT_iff] at this
      show ltOf cmpT _ _ = false
      rw [ltT_no]
      omega
    · obtain ⟨i, hi, rfl⟩ := List.getElem_of_mem hy
      rw [List.length_take] at hi
      rw [List.getElem_take]
      have g0 : ∀ j (hj : j < (sortT M).length), i ≤ j → leT (sortT M)[i] (sortT M)[j] := fun j hj hij => by
        rcases Nat.lt_or_ge i j with h | h
        · exact List.pairwise_iff_getElem.1 hs i j (by omega) hj h
        · obtain rfl : i = j := by omega
          unfold leT; rw [ltT_no]; omega
      rcases List.mem_cons.1 hz with rfl | hz
      · have g1 := g0 (k - 1) (by omega) (by omega)
        have g2 := h2 (by omega)
        rw [getElem!_pos _ _ (by omega)] at g2
        unfold leT at *
        rw [ltT_no] at *
        omega
      · obtain ⟨j, hj, rfl⟩ := List.getElem_of_mem hz
        rw [List.length_drop] at hj
        rw [List.getElem_drop]
        exact g0 _ _ (by omega)
  · refine List.Perm.trans ?_ (sortT_perm (M ++ [x])).symm
    refine List.perm_middle.trans ?_
    rw [List.take_append_drop]
    exact ((sortT_perm M).cons x).trans (List.perm_append_comm (l₁ := [x]))
end Go.Proofs.YtcoddcdiimpndaaGreatDoor
