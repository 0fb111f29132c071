/-
  The search by breadth that both programs do: what it computes is the distance. Plain mathematics.
  Laws on parts of rows, and on inserting one element into a row by two appends; lists of shares.
-/
import Derived.Test.YtcoddcdiimpndaaGreatDoorM17
import Derived.Test.YtcoddcdiimpndaaGreatDoorM03
import Derived.Test.YtcoddcdiimpndaaGreatDoorM13
import Derived.ArgAppend
import Derived.Laws.AppendOwnNone
set_option linter.unusedVariables false
set_option linter.unusedSimpArgs false
namespace Go.Proofs.YtcoddcdiimpndaaGreatDoor
/-- What is known of the hops, and the queue. -/
abbrev BS := (Nat → Int) × List Int
def visit (d : Int) (S : BS) (k : Int) : BS := if S.1 k.toNat < 0 then (fun j => if j = k.toNat then d + 1 else S.1 j, S.2 ++ [k]) else S
def rnd (X : Nat → List Int) (S : BS) (i : Nat) : BS := (X (S.2[i]!).toNat).foldl (visit (S.1 (S.2[i]!).toNat)) S
def bfs (X : Nat → List Int) (a : Nat) : Nat → BS
  | 0 => (fun j => if j = a then 0 else -1, [(a : Int)])
  | i + 1 => if i < (bfs X a i).2.length then rnd X (bfs X a i) i else bfs X a i
/-- A way of m steps. -/
inductive Wk (X : Nat → List Int) (a : Int) : Int → Nat → Prop
  | zero : Wk X a a 0
  | step {u v : Int} {m : Nat} : Wk X a u m → v ∈ X u.toNat → Wk X a v (m + 1)
theorem pigeon : ∀ (N : Nat) (L : List Nat), L.Nodup → (∀ x ∈ L, x < N) → L.length ≤ N
  | 0, L, _, h => by
    cases L with
    | nil => simp
    | cons x L => exact absurd (h x (by simp)) (by omega)
  | N + 1, L, hn, h => by
    by_cases hm : N ∈ L
    · have ih := pigeon N (L.erase N) (hn.erase N) (fun x hx => by
        have h1 := (hn.mem_erase_iff).1 hx
        have h2 := h x h1.2
        have h3 := h1.1
        omega)
      rw [List.length_erase_of_mem hm] at ih
      have : 0 < L.length := List.length_pos_of_mem hm
      omega
    · have ih := pigeon N L hn (fun x hx => by
        have h1 := h x hx
        have h2 : x ≠ N := fun e => hm (e ▸ hx)
        omega)
      omega
theorem toNat_inj {x y : Int} (hx : 0 ≤ x) (hy : 0 ≤ y) (h : x.toNat = y.toNat) : x = y := by omega
structure Inv (N : Nat) (X : Nat → List Int) (a : Nat) (i : Nat) (S : BS) : Prop where
  nd : S.2.Nodup
  lt : ∀ k ∈ S.2, 0 ≤ k ∧ k < (N : Int)
  vis : ∀ j : Nat, 0 ≤ S.1 j ↔ (j : Int) ∈ S.2
  neg : ∀ j : Nat, -1 ≤ S.1 j
  zero : S.1 a = 0
  wk : ∀ k ∈ S.2, Wk X a k (S.1 k.toNat).toNat
  mono : ∀ p q : Nat, p ≤ q → q < S.2.length → S.1 (S.2[p]!).toNat ≤ S.1 (S.2[q]!).toNat
  bound : ∀ p : Nat, p < S.2.length → S.1 (S.2[p]!).toNat ≤ p
  done : ∀ p : Nat, p < i → p < S.2.length → ∀ v ∈ X (S.2[p]!).toNat, 0 ≤ S.1 v.toNat ∧ S.1 v.toNat ≤ S.1 (S.2[p]!).toNat + 1
theorem Inv.len {N : Nat} {X : Nat → List Int} {a i : Nat} {S : BS} (H : Inv N X a i S) : S.2.length ≤ N := by
  have h := pigeon N (S.2.map Int.toNat) (by
    refine List.Pairwise.map _ (fun x y hxy => ?_) (List.Pairwise.and_mem.1 H.nd)
    intro e
    exact hxy.2.2 (toNat_inj (H.lt x hxy.1).1 (H.lt y hxy.2.1).1 e)) (fun x hx => by
    obtain ⟨k, hk, rfl⟩ := List.mem_map.1 hx
    have := H.lt k hk
    omega)
  simpa using h
theorem get_app (L : List Int) (k : Int) (p : Nat) (h : p < L.length) : (L ++ [k])[p]! = L[p]! := by
  rw [getElem!_pos _ p (by simp; omega), getElem!_pos _ p h, List.getElem_append_left h]
theorem get_last (L : List Int) (k : Int) : (L ++ [k])[L.length]! = k := by
  rw [getElem!_pos _ _ (by simp)]
  simp
theorem visit_keep (d : Int) (S : BS) (k : Int) (j : Nat) (h : 0 ≤ S.1 j) : (visit d S k).1 j = S.1 j := by
  unfold visit
  split
  · rename_i hc
    simp only
    split
    · rename_i e; subst e; omega
    · rfl
  · rfl
theorem visit_pre (d : Int) (S : BS) (k : Int) (p : Nat) (h : p < S.2.length) : (visit d S k).2[p]! = S.2[p]! ∧ p < (visit d S k).2.length := by
  unfold visit
  split
  · exact ⟨get_app _ _ _ h, by simp; omega⟩
  · exact ⟨rfl, h⟩
theorem visit_len (d : Int) (S : BS) (k : Int) : S.2.length ≤ (visit d S k).2.length := by
  unfold visit
  split <;> simp
/-- While the neighbours of the i-th one are looked at. -/
structure InvD (N : Nat) (X : Nat → List Int) (a i : Nat) (d : Int) (S : BS) : Prop extends Inv N X a i S where
  il : i < S.2.length
  di : S.1 (S.2[i]!).toNat = d
  top : ∀ p : Nat, p < S.2.length → S.1 (S.2[p]!).toNat ≤ d + 1
theorem visit_inv {N : Nat} {X : Nat → List Int} {a i : Nat} {d : Int} {S : BS} (H : InvD N X a i d S) (k : Int) (hk : k ∈ X (S.2[i]!).toNat) (hk0 : 0 ≤ k ∧ k < (N : Int)) :
    InvD N X a i d (visit d S k) ∧ 0 ≤ (visit d S k).1 k.toNat ∧ (visit d S k).1 k.toNat ≤ d + 1 := by
  have hmem : ∀ p, p < S.2.length → S.2[p]! ∈ S.2 := fun p hp => by rw [getElem!_pos _ p hp]; exact List.getElem_mem hp
  have hk1 : ((k.toNat : Nat) : Int) = k := by omega
  have hd0 : 0 ≤ d := by
    rw [← H.di]
    have h1 := hmem i H.il
    have h2 := H.lt _ h1
    exact (H.vis _).2 (by rw [show (((S.2[i]!).toNat : Nat) : Int) = S.2[i]! by omega]; exact h1)
  by_cases hc : S.1 k.toNat < 0
  · have e : visit d S k = (fun j => if j = k.toNat then d + 1 else S.1 j, S.2 ++ [k]) := by unfold visit; rw [if_pos hc]
    have hnm : k ∉ S.2 := fun h => by
      have := (H.vis k.toNat).2 (by rw [hk1]; exact h)
      omega
    have hne : ∀ x ∈ S.2, x.toNat ≠ k.toNat := fun x hx e => hnm (toNat_inj (H.lt x hx).1 hk0.1 e ▸ hx)
    have hold : ∀ x ∈ S.2, (visit d S k).1 x.toNat = S.1 x.toNat := fun x hx => by rw [e]; simp only; rw [if_neg (hne x hx)]
    have hnew : (visit d S k).1 k.toNat = d + 1 := by rw [e]; simp
    have hget : ∀ p, p < S.2.length → (visit d S k).2[p]! = S.2[p]! := fun p hp => (visit_pre d S k p hp).1
    have hlen : (visit d S k).2.length = S.2.length + 1 := by rw [e]; simp
    have hlast : (visit d S k).2[S.2.length]! = k := by rw [e]; exact get_last _ _
    have hval : ∀ p, p < S.2.length → (visit d S k).1 ((visit d S k).2[p]!).toNat = S.1 (S.2[p]!).toNat := fun p hp => by rw [hget p hp, hold _ (hmem p hp)]
    have hdb : d + 1 ≤ (S.2.length : Int) := by
      have := H.bound i H.il
      have := H.il
      rw [H.di] at *
      omega
    refine ⟨⟨⟨?_, ?_, ?_, ?_, ?_, ?_, ?_, ?_, ?_⟩, ?_, ?_, ?_⟩, by omega, by omega⟩
    · rw [e]
      exact List.nodup_append.2 ⟨H.nd, by simp, fun x hx y hy e2 => by
        have : y = k := by simpa using hy
        subst this; subst e2
        exact hnm hx⟩
    · rw [e]
      intro x hx
      rcases List.mem_append.1 hx with h | h
      · exact H.lt x h
      · obtain rfl : x = k := by simpa using h
        exact hk0
    · intro j
      rw [e]
      simp only [List.mem_append, List.mem_singleton]
      split
      · rename_i hj
        constructor
        · intro _; right; omega
        · intro _; omega
      · rename_i hj
        rw [H.vis j]
        constructor
        · exact .inl
        · rintro (h | h)
          · exact h
          · omega
    · intro j
      rw [e]
      simp only
      split
      · omega
      · exact H.neg j
    · rw [visit_keep d S k a (by rw [H.zero]; exact Int.le_refl _)]; exact H.zero
    · intro x hx
      rw [e] at hx
      rcases List.mem_append.1 hx with h | h
      · rw [hold x h]; exact H.wk x h
      · obtain rfl : x = k := by simpa using h
        rw [hnew]
        have h1 := H.wk _ (hmem i H.il)
        rw [H.di] at h1
        rw [show (d + 1).toNat = d.toNat + 1 by omega]
        exact Wk.step h1 hk
    · intro p q hpq hq
      rw [hlen] at hq
      rcases Nat.lt_or_ge q S.2.length with h | h
      · rw [hval p (by omega), hval q h]; exact H.mono p q hpq h
      · obtain rfl : q = S.2.length := by omega
        rw [hlast, hnew]
        rcases Nat.lt_or_ge p S.2.length with h' | h'
        · rw [hval p h']; exact H.top p h'
        · obtain rfl : p = S.2.length := by omega
          rw [hlast, hnew]; exact Int.le_refl _
    · intro p hp
      rw [hlen] at hp
      rcases Nat.lt_or_ge p S.2.length with h | h
      · rw [hval p h]; exact H.bound p h
      · obtain rfl : p = S.2.length := by omega
        rw [hlast, hnew]; exact hdb
    · intro p hp _ v hv
      have hpl : p < S.2.length := by have := H.il; omega
      rw [hval p hpl]
      rw [hget p hpl] at hv
      have h1 := H.done p hp hpl v hv
      rw [visit_keep d S k v.toNat h1.1]
      exact h1
    · rw [hlen]; have := H.il; omega
    · rw [hval i H.il]; exact H.di
    · intro p hp
      rw [hlen] at hp
      rcases Nat.lt_or_ge p S.2.length with h | h
      · rw [hval p h]; exact H.top p h
      · obtain rfl : p = S.2.length := by omega
        rw [hlast, hnew]; exact Int.le_refl _
  · have e : visit d S k = S := by unfold visit; rw [if_neg hc]
    rw [e]
    refine ⟨H, by omega, ?_⟩
    have h1 : k ∈ S.2 := by
      have := (H.vis k.toNat).1 (by omega)
      rwa [hk1] at this
    obtain ⟨p, hp, hpe⟩ := List.getElem_of_mem h1
    have := H.top p hp
    rw [getElem!_pos _ p hp, hpe] at this
    exact this
/-- Behind some of the neighbours. -/
theorem visits_inv {N : Nat} {X : Nat → List Int} {a i : Nat} {d : Int} : ∀ (L : List Int) (S : BS), InvD N X a i d S → (∀ k ∈ L, k ∈ X (S.2[i]!).toNat ∧ 0 ≤ k ∧ k < (N : Int)) →
    InvD N X a i d (L.foldl (visit d) S) ∧ (∀ k ∈ L, 0 ≤ (L.foldl (visit d) S).1 k.toNat ∧ (L.foldl (visit d) S).1 k.toNat ≤ d + 1) ∧ (∀ j, 0 ≤ S.1 j → (L.foldl (visit d) S).1 j = S.1 j) ∧ (L.foldl (visit d) S).2[i]! = S.2[i]!
  | [], S, H, _ => ⟨H, by simp, fun _ _ => rfl, rfl⟩
  | k :: L, S, H, h => by
    obtain ⟨h0, h0'⟩ := h k (by simp)
    obtain ⟨H1, h1, h2⟩ := visit_inv H k h0 h0'
    have hi := (visit_pre d S k i H.il).1
    obtain ⟨H2, h3, h4, h5⟩ := visits_inv L (visit d S k) H1 (fun x hx => by rw [hi]; exact h x (by simp [hx]))
    refine ⟨H2, fun x hx => ?_, fun j hj => ?_, h5.trans hi⟩
    · simp only [List.foldl_cons]
      rcases List.mem_cons.1 hx with rfl | hx
      · rw [h4 _ h1]; exact ⟨h1, h2⟩
      · exact h3 x hx
    · simp only [List.foldl_cons]
      rw [h4 j (by rw [visit_keep d S k j hj]; exact hj), visit_keep d S k j hj]
theorem Inv.toD {N : Nat} {X : Nat → List Int} {a i : Nat} {S : BS} (H : Inv N X a i S) (hi : i < S.2.length) (ht : ∀ p : Nat, p < S.2.length → S.1 (S.2[p]!).toNat ≤ S.1 (S.2[i]!).toNat + 1) : InvD N X a i (S.1 (S.2[i]!).toNat) S := ⟨H, hi, rfl, ht⟩
def Top (i : Nat) (S : BS) : Prop := i < S.2.length → ∀ p : Nat, p < S.2.length → S.1 (S.2[p]!).toNat ≤ S.1 (S.2[i]!).toNat + 1
theorem rnd_inv {N : Nat} {X : Nat → List Int} {a i : Nat} {S : BS} (hX : ∀ i : Nat, i < N → ∀ v ∈ X i, 0 ≤ v ∧ v < (N : Int)) (H : Inv N X a i S) (hi : i < S.2.length) (ht : Top i S) : Inv N X a (i + 1) (rnd X S i) ∧ Top (i + 1) (rnd X S i) ∧ i + 1 ≤ (rnd X S i).2.length := by
  have hm : S.2[i]! ∈ S.2 := by rw [getElem!_pos _ i hi]; exact List.getElem_mem hi
  have hb := H.lt _ hm
  obtain ⟨H1, h1, h2, h3⟩ := visits_inv (X (S.2[i]!).toNat) S (H.toD hi (ht hi)) (fun k hk => ⟨hk, hX _ (by omega) k hk⟩)
  change InvD N X a i _ (rnd X S i) at H1
  change ∀ k : Int, k ∈ _ → 0 ≤ (rnd X S i).1 k.toNat ∧ (rnd X S i).1 k.toNat ≤ _ at h1
  change (rnd X S i).2[i]! = _ at h3
  refine ⟨⟨H1.nd, H1.lt, H1.vis, H1.neg, H1.zero, H1.wk, H1.mono, H1.bound, fun p hp hpl v hv => ?_⟩, fun hi1 p hp => ?_, H1.il⟩
  · rcases Nat.lt_or_ge p i with h | h
    · exact H1.done p h hpl v hv
    · obtain rfl : p = i := by omega
      rw [H1.di]
      rw [h3] at hv
      exact h1 v hv
  · have g1 := H1.top p hp
    have g2 := H1.mono i (i + 1) (by omega) hi1
    rw [H1.di] at g2
    omega
theorem bfs_inv {N : Nat} {X : Nat → List Int} {a : Nat} (hX : ∀ i : Nat, i < N → ∀ v ∈ X i, 0 ≤ v ∧ v < (N : Int)) (ha : a < N) : ∀ i : Nat, (∀ j, j < i → j < (bfs X a j).2.length) → Inv N X a i (bfs X a i) ∧ Top i (bfs X a i) ∧ i ≤ (bfs X a i).2.length
  | 0, _ => by
    refine ⟨⟨by simp [bfs], fun k hk => ?_, fun j => ?_, fun j => ?_, by simp [bfs], fun k hk => ?_, fun p q h1 h2 => ?_, fun p hp => ?_, fun p hp => by omega⟩, fun h p hp => ?_, Nat.zero_le _⟩
    · obtain rfl : k = a := by simpa [bfs] using hk
      omega
    · simp only [bfs, List.mem_singleton]
      split <;> omega
    · simp only [bfs]
      split <;> omega
    · obtain rfl : k = a := by simpa [bfs] using hk
      simpa [bfs] using Wk.zero
    · have : q = 0 := by simp [bfs] at h2; omega
      subst this
      obtain rfl : p = 0 := by omega
      exact Int.le_refl _
    · have : p = 0 := by simp [bfs] at hp; omega
      subst this
      simp [bfs]
    · have : p = 0 := by simp [bfs] at hp; omega
      subst this
      omega
  | i + 1, h => by
    obtain ⟨h1, h2, h3⟩ := bfs_inv hX ha i (fun j hj => h j (by omega))
    have hi := h i (by omega)
    have e : bfs X a (i + 1) = rnd X (bfs X a i) i := by rw [bfs, if_pos hi]
    rw [e]
    exact rnd_inv hX h1 hi h2
theorem bfs_stay {X : Nat → List Int} {a m : Nat} (h : (bfs X a m).2.length = m) : ∀ k, bfs X a (m + k) = bfs X a m
  | 0 => rfl
  | k + 1 => by
    rw [show m + (k + 1) = (m + k) + 1 by omega, bfs, bfs_stay h k, if_neg (by omega)]
/-- The search has ended. -/
def Ends (X : Nat → List Int) (a m : Nat) : Prop := (bfs X a m).2.length = m ∧ ∀ j, j < m → j < (bfs X a j).2.length
theorem ends_le {N : Nat} {X : Nat → List Int} {a m : Nat} (hX : ∀ i : Nat, i < N → ∀ v ∈ X i, 0 ≤ v ∧ v < (N : Int)) (ha : a < N) (h : Ends X a m) : m ≤ N := by
  have := (bfs_inv hX ha m h.2).1.len
  rw [h.1] at this
  exact this
theorem ends_ex {N : Nat} {X : Nat → List Int} {a : Nat} (hX : ∀ i : Nat, i < N → ∀ v ∈ X i, 0 ≤ v ∧ v < (N : Int)) (ha : a < N) : ∃ m, Ends X a m := by
  suffices ∀ k i, (∀ j, j < i → j < (bfs X a j).2.length) → N < i + k → ∃ m, Ends X a m from this (N + 1) 0 (by omega) (by omega)
  intro k
  induction k with
  | zero =>
    intro i h hk
    obtain ⟨h1, _, h3⟩ := bfs_inv hX ha i h
    have := h1.len
    omega
  | succ k ih =>
    intro i h hk
    obtain ⟨h1, _, h3⟩ := bfs_inv hX ha i h
    by_cases e : (bfs X a i).2.length = i
    · exact ⟨i, e, h⟩
    · exact ih (i + 1) (fun j hj => by
        rcases Nat.lt_or_ge j i with g | g
        · exact h j g
        · obtain rfl : j = i := by omega
          omega) (by omega)
/-- The hops from a to b. -/
def hopD (X : Nat → List Int) (N a b : Nat) : Int := (bfs X a N).1 b
theorem ends_hop {N : Nat} {X : Nat → List Int} {a m : Nat} (hX : ∀ i : Nat, i < N → ∀ v ∈ X i, 0 ≤ v ∧ v < (N : Int)) (ha : a < N) (h : Ends X a m) : (bfs X a m).1 = hopD X N a := by
  have h1 := ends_le hX ha h
  have h2 := bfs_stay h.1 (N - m)
  rw [show m + (N - m) = N by omega] at h2
  funext b
  unfold hopD
  rw [h2]
theorem hop_facts {N : Nat} {X : Nat → List Int} {a : Nat} (hX : ∀ i : Nat, i < N → ∀ v ∈ X i, 0 ≤ v ∧ v < (N : Int)) (ha : a < N) :
    hopD X N a a = 0 ∧ (∀ b : Nat, -1 ≤ hopD X N a b ∧ hopD X N a b < (N : Int)) ∧ (∀ b : Nat, 0 ≤ hopD X N a b → Wk X a b (hopD X N a b).toNat) ∧ ∀ (b : Int) (m : Nat), Wk X a b m → 0 ≤ b ∧ b < (N : Int) ∧ 0 ≤ hopD X N a b.toNat ∧ hopD X N a b.toNat ≤ m := by
  obtain ⟨m, hm⟩ := ends_ex hX ha
  obtain ⟨H, _, _⟩ := bfs_inv hX ha m hm.2
  have e := ends_hop hX ha hm
  refine ⟨by rw [← e]; exact H.zero, fun b => ?_, fun b hb => ?_, fun b k hw => ?_⟩
  · rw [← e]
    refine ⟨H.neg b, ?_⟩
    rcases Int.lt_or_le ((bfs X a m).1 b) 0 with h | h
    · omega
    · have h1 := (H.vis b).1 h
      obtain ⟨p, hp, hpe⟩ := List.getElem_of_mem h1
      have h2 := H.bound p hp
      rw [getElem!_pos _ p hp, hpe] at h2
      have := H.len
      simp only [Int.toNat_natCast] at h2
      omega
  · rw [← e] at hb ⊢
    have := H.wk b ((H.vis b).1 hb)
    simpa using this
  · rw [← e]
    induction hw with
    | zero =>
      refine ⟨by omega, by omega, ?_, ?_⟩ <;> simp [H.zero]
    | step hw hv ih =>
      rename_i u v k
      obtain ⟨g0, g1, g2, g3⟩ := ih
      have hu : u ∈ (bfs X a m).2 := by
        have := (H.vis u.toNat).1 g2
        rwa [show ((u.toNat : Nat) : Int) = u by omega] at this
      obtain ⟨p, hp, hpe⟩ := List.getElem_of_mem hu
      have hd := H.done p (by rw [hm.1] at hp; exact hp) hp v (by rw [getElem!_pos _ p hp, hpe]; exact hv)
      rw [getElem!_pos _ p hp, hpe] at hd
      obtain ⟨k0, k1⟩ := hX u.toNat (by omega) v hv
      refine ⟨k0, k1, hd.1, by omega⟩
theorem Wk.trans {X : Nat → List Int} {a b c : Int} {m k : Nat} (h1 : Wk X a b m) (h2 : Wk X b c k) : Wk X a c (m + k) := by
  induction h2 with
  | zero => exact h1
  | step _ hv ih => exact Wk.step ih hv
theorem Wk.rev {X : Nat → List Int} (hs : ∀ u v : Int, v ∈ X u.toNat → u ∈ X v.toNat) {a b : Int} {m : Nat} (h : Wk X a b m) : Wk X b a m := by
  induction h with
  | zero => exact Wk.zero
  | step _ hv ih =>
    have := Wk.trans (Wk.step Wk.zero (hs _ _ hv)) ih
    rw [Nat.add_comm] at this
    exact this
end Go.Proofs.YtcoddcdiimpndaaGreatDoor
set_option linter.unusedVariables false
set_option linter.unusedSimpArgs false
namespace Go.Proofs.YtcoddcdiimpndaaGreatDoor
open Go.RowKit
section
variable {P : Program}
/-- A new block of n elements is a row of the call's own. -/
theorem own_new (w : World) (base : Nat) (e : TypeId) (size : Nat) (cs : List Value) (n : Nat) (hl : cs.length = n * size) (hb : base ≤ w.heap.size) (hn : n ≤ 1000000) : (w.alloc (.cells cs.toArray e)).ownsRow base e size (.slice (some ⟨w.heap.size, 0, none⟩) n n) n cs :=
  ⟨hl, .inr ⟨w.heap.size, n, cs.toArray, rfl, hb, blk_new w _, Nat.le_refl _, by unfold maxLen; omega, by simpa using hl, by rw [List.take_of_length_le (by rw [← hl]; simp)]⟩⟩
/-- x[k:] of a row that begins a block. -/
theorem sl_from (t e : TypeId) (size : Nat) (ht : P.underlying t = some (.slice e)) (he : ∀ W, (sizeOf e).run P W = .ok size W) (g n cap k : Nat) (hk : k ≤ n) (hc : n ≤ cap) : ∃ ad c, (∀ W, (Instr.slice t (.slice (some ⟨g, 0, none⟩) n cap) (some (.int .i64 k)) none none).run P W = .ok (.slice (some ad) (n - k) c) W) ∧ ad.block = g ∧ (k < n → ad = ⟨g, k * size, none⟩) := by
  have ht' : P.underlying t = some (.slice (P.elem t)) := by rw [ht]; simp [Program.elem, ht]
  have hel : P.elem t = e := by simp [Program.elem, ht]
  refine ⟨if cap = k then ⟨g, 0, none⟩ else ⟨g, k * size, none⟩, cap - k, fun W => ?_, ?_, ?_⟩
  · rw [run_slice_l W t (some ⟨g, 0, none⟩) n cap ht' .i64 k (by omega) (by omega), hel, he]
    simp only [Result.andThen_ok, sliced, Int.toNat_natCast]
    by_cases h : cap = k
    · rw [if_pos h, if_pos h]
    · rw [if_neg h, if_neg h]
      simp [Addr.add]
      exact fun h => h.symm
  · split <;> rfl
  · intro h
    rw [if_neg (by omega)]
/-- x[:k:k]. -/
theorem sl_full (t e : TypeId) (size : Nat) (ht : P.underlying t = some (.slice e)) (he : ∀ W, (sizeOf e).run P W = .ok size W) (g n cap k : Nat) (hk : k ≤ n) (hc : n ≤ cap) (W : World) : (Instr.slice t (.slice (some ⟨g, 0, none⟩) n cap) none (some (.int .i64 k)) (some (.int .i64 k))).run P W = .ok (.slice (some ⟨g, 0, none⟩) k k) W := by
  have ht' : P.underlying t = some (.slice (P.elem t)) := by rw [ht]; simp [Program.elem, ht]
  have hel : P.elem t = e := by simp [Program.elem, ht]
  rw [run_slice_hm W t (some ⟨g, 0, none⟩) n cap ht' .i64 .i64 k k (by omega) (by omega) (by omega), hel, he]
  simp only [Result.andThen_ok, sliced, Int.toNat_natCast]
  by_cases h : k = 0
  · subst h; simp
  · rw [if_neg h]; simp [Addr.add]
end
/-- Shares with one more, by node. -/
def ins : List Sh → Sh → List Sh
  | [], s => [s]
  | x :: l, s => if x.node < s.node then x :: ins l s else s :: x :: l
theorem ins_at : ∀ (L : List Sh) (s : Sh) (k : Nat), k ≤ L.length → (∀ i, i < k → (L[i]!).node < s.node) → (k < L.length → ¬ (L[k]!).node < s.node) → L.take k ++ s :: L.drop k = ins L s
  | [], s, k, _, _, _ => by simp [ins]
  | x :: l, s, 0, _, _, h2 => by
    have := h2 (by simp)
    simp only [ins]
    rw [if_neg (by simpa using this)]
    rfl
  | x :: l, s, k + 1, h0, h1, h2 => by
    have := h1 0 (by omega)
    simp only [ins]
    rw [if_pos (by simpa using this), List.take_succ_cons, List.drop_succ_cons, List.cons_append]
    rw [ins_at l s k (by simpa using h0) (fun i hi => by simpa using h1 (i + 1) (by omega)) (fun h => by simpa using h2 (by simpa using h))]
theorem ins_length (L : List Sh) (s : Sh) : (ins L s).length = L.length + 1 := by
  induction L with
  | nil => rfl
  | cons x l ih =>
    simp only [ins]
    split
    · simp [ih]
    · simp
def shareL (L : List Sh) (node weight : Int) : List Sh := if weight = 0 then L else ins L ⟨node, weight⟩
theorem shareL_length (L : List Sh) (a b : Int) : (shareL L a b).length ≤ L.length + 1 := by
  unfold shareL
  split
  · omega
  · rw [ins_length]; omega
theorem cellsS_append (a b : List Sh) : cellsS (a ++ b) = cellsS a ++ cellsS b := by simp [cellsS]
theorem cellsS_length (a : List Sh) : (cellsS a).length = a.length * 2 := flat_len shc 2 (fun _ => rfl) a
theorem cellsS_take (L : List Sh) (k : Nat) : cellsS (L.take k) = (cellsS L).take (k * 2) := by
  induction L generalizing k with
  | nil => simp [cellsS]
  | cons x l ih =>
    cases k with
    | zero => simp [cellsS]
    | succ k =>
      rw [List.take_succ_cons, show (k + 1) * 2 = k * 2 + 2 from by omega]
      have e : cellsS (x :: l) = .int .i64 x.node :: .int .i64 x.w :: cellsS l := rfl
      rw [e, List.take_succ_cons, List.take_succ_cons, ← ih k]
      rfl
theorem cellsS_drop (L : List Sh) (k : Nat) : cellsS (L.drop k) = (cellsS L).drop (k * 2) := by
  induction L generalizing k with
  | nil => simp [cellsS]
  | cons x l ih =>
    cases k with
    | zero => simp [cellsS]
    | succ k =>
      rw [List.drop_succ_cons, show (k + 1) * 2 = k * 2 + 2 from by omega]
      have e : cellsS (x :: l) = .int .i64 x.node :: .int .i64 x.w :: cellsS l := rfl
      rw [e, List.drop_succ_cons, List.drop_succ_cons, ← ih k]
theorem cellsS_one (L : List Sh) : ∀ u ∈ cellsS L, u.oneCell' = true := by
  intro u hu
  obtain ⟨s, _, hs⟩ := List.mem_flatMap.1 hu
  simp [shc] at hs
  rcases hs with rfl | rfl <;> rfl
end Go.Proofs.YtcoddcdiimpndaaGreatDoor
