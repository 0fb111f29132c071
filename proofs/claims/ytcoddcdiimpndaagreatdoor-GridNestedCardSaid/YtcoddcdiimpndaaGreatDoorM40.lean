/-
  The nodes of a frequency are nodes of twice the frequency; its neighbours are two hops apart there. Literals that the kernel checks.
-/
import Derived.Test.YtcoddcdiimpndaaGreatDoorM20
import Derived.Test.YtcoddcdiimpndaaGreatDoorM32
import Derived.Test.YtcoddcdiimpndaaGreatDoorM39
import Derived.Test.YtcoddcdiimpndaaGreatDoorM34
set_option linter.unusedVariables false
set_option linter.unusedSimpArgs false
namespace Go.Proofs.YtcoddcdiimpndaaGreatDoor
theorem wk_zero {X : Nat → List Int} {a b : Int} (h : Wk X a b 0) : b = a := by cases h; rfl
theorem wk_one {X : Nat → List Int} {a b : Int} (h : Wk X a b 1) : b ∈ X a.toNat := by
  cases h with
  | step h1 hv => rw [← wk_zero h1]; exact hv
theorem hop_two {N : Nat} {X : Nat → List Int} {a b c : Nat} (hX : ∀ i : Nat, i < N → ∀ v ∈ X i, 0 ≤ v ∧ v < (N : Int)) (ha : a < N) (h1 : (c : Int) ∈ X a) (h2 : (b : Int) ∈ X c) (h3 : a ≠ b) (h4 : (b : Int) ∉ X a) : hopD X N a b = 2 := by
  obtain ⟨_, _, g3, g4⟩ := hop_facts hX ha
  have w2 : Wk X a b 2 := Wk.step (Wk.step Wk.zero (by simpa using h1)) (by simpa using h2)
  obtain ⟨_, _, k0, k2⟩ := g4 _ _ w2
  simp only [Int.toNat_natCast] at k0 k2
  have hw := g3 b k0
  rcases (show hopD X N a b = 0 ∨ hopD X N a b = 1 ∨ hopD X N a b = 2 by omega) with e | e | e
  · rw [e] at hw
    have := wk_zero hw
    omega
  · rw [e] at hw
    have := wk_one hw
    simp only [Int.toNat_natCast] at this
    exact absurd this h4
  · exact e
theorem hop_one {N : Nat} {X : Nat → List Int} {a b : Nat} (hX : ∀ i : Nat, i < N → ∀ v ∈ X i, 0 ≤ v ∧ v < (N : Int)) (ha : a < N) (h1 : (b : Int) ∈ X a) (h3 : a ≠ b) : hopD X N a b = 1 := by
  obtain ⟨_, _, g3, g4⟩ := hop_facts hX ha
  have w2 : Wk X a b 1 := Wk.step Wk.zero (by simpa using h1)
  obtain ⟨_, _, k0, k2⟩ := g4 _ _ w2
  simp only [Int.toNat_natCast] at k0 k2
  have hw := g3 b k0
  rcases (show hopD X N a b = 0 ∨ hopD X N a b = 1 by omega) with e | e
  · rw [e] at hw
    have := wk_zero hw
    omega
  · exact e
def adjN (T : List N3) (i v : Nat) : Bool := T.any fun t => (Nat.beq i t.1 && (Nat.beq v t.2.1 || Nat.beq v t.2.2)) || ((Nat.beq i t.2.1 && (Nat.beq v t.1 || Nat.beq v t.2.2)) || (Nat.beq i t.2.2 && (Nat.beq v t.1 || Nat.beq v t.2.1)))
theorem adjN_iff (T : List N3) (i v : Nat) : adjN T i v = true ↔ adj (T.map toT) i v := by
  unfold adjN adj
  simp only [List.any_eq_true, List.mem_map, Bool.or_eq_true, Bool.and_eq_true, Nat.beq_eq]
  constructor
  · rintro ⟨t, ht, h⟩
    exact ⟨toT t, ⟨t, ht, rfl⟩, by simp only [toT]; omega⟩
  · rintro ⟨_, ⟨t, ht, rfl⟩, h⟩
    simp only [toT] at h
    exact ⟨t, ht, by omega⟩
def upOk (l l2 : List Pl) (up : List Nat) : Bool := (List.range l.length).all fun k => match l2[up.getD k 0]?, l[k]? with
  | some p, some q => plEq p q
  | _, _ => false
def midOk (E : List N2) (T2 : List N3) (up : List Nat) (mid : List Nat) : Bool := (List.range E.length).all fun i => let e := E.getD i (0, 0); let a := up.getD e.1 0; let b := up.getD e.2 0; let c := mid.getD i 0
  adjN T2 a c && (adjN T2 c b && (!adjN T2 a b && !Nat.beq a b))
def up1 : List Nat := [0, 2, 5, 6, 9, 12, 17, 20, 23, 26, 29, 38]
def mid1 : List Nat := [1, 3, 7, 16, 21, 4, 15, 18, 28, 8, 11, 14, 10, 19, 24, 13, 22, 27, 25, 30, 31, 35, 36, 32, 37, 33, 39, 34, 40, 41]
set_option maxRecDepth 100000 in
theorem up_ok1 : upOk (nodes 1) (nodes 2) up1 = true := by decide +kernel
set_option maxRecDepth 100000 in
theorem mid_ok1 : midOk eLit1 tLit2 up1 mid1 = true := by decide +kernel
def up2 : List Nat := [0, 2, 4, 9, 11, 14, 15, 17, 22, 25, 27, 32, 35, 37, 42, 46, 52, 54, 59, 62, 64, 69, 72, 74, 79, 82, 84, 89, 92, 94, 99, 105, 111, 117, 123, 129, 135, 137, 140, 145, 151, 157]
def mid2 : List Nat := [1, 5, 18, 51, 70, 3, 6, 7, 55, 58, 8, 45, 60, 91, 10, 12, 21, 23, 13, 50, 48, 24, 34, 44, 16, 19, 28, 61, 80, 20, 65, 68, 31, 33, 26, 29, 38, 71, 90, 30, 75, 78, 41, 43, 36, 39, 47, 81, 100, 40, 85, 88, 49, 95, 98, 53, 56, 101, 104, 57, 106, 127, 131, 125, 126, 63, 66, 107, 110, 67, 103, 112, 134, 102, 73, 76, 113, 116, 77, 109, 118, 143, 108, 83, 86, 119, 122, 87, 115, 124, 149, 114, 93, 96, 128, 97, 121, 130, 155, 120, 132, 133, 141, 142, 147, 148, 153, 154, 160, 159, 136, 138, 161, 139, 144, 146, 152, 158, 150, 156]
set_option maxRecDepth 100000 in
theorem up_ok2 : upOk (nodes 2) (nodes 4) up2 = true := by decide +kernel
set_option maxRecDepth 100000 in
theorem mid_ok2 : midOk eLit2 tLit4 up2 mid2 = true := by decide +kernel
def upN (n : Nat) (k : Nat) : Nat := if n = 1 then up1.getD k 0 else up2.getD k 0
theorem up_fact {l l2 : List Pl} {up : List Nat} (h : upOk l l2 up = true) (k : Nat) (hk : k < l.length) : up.getD k 0 < l2.length ∧ l2[up.getD k 0]! = l[k]! := by
  have h1 := List.all_eq_true.1 h k (List.mem_range.2 hk)
  split at h1
  · rename_i p q hp hq
    obtain ⟨h2, h3⟩ := List.getElem?_eq_some_iff.1 hp
    obtain ⟨h4, h5⟩ := List.getElem?_eq_some_iff.1 hq
    refine ⟨h2, ?_⟩
    rw [getElem!_pos l2 _ h2, getElem!_pos l k hk, h3, h5]
    exact plEq_eq h1
  · cases h1
theorem up_all (n k : Nat) (h1 : 1 ≤ n) (h2 : n ≤ 2) (hk : k < (nodes n).length) : upN n k < (nodes (2 * n)).length ∧ (nodes (2 * n))[upN n k]! = (nodes n)[k]! := by
  rcases (show n = 1 ∨ n = 2 by omega) with rfl | rfl
  · exact up_fact up_ok1 k hk
  · exact up_fact up_ok2 k hk
theorem node_idx (n m : Nat) (h1 : 1 ≤ n) (h8 : n ≤ 8) (hm : m < (nodes n).length) : gIdx n (nodes n)[m]!.f (nodes n)[m]!.a (nodes n)[m]!.b (nodes n)[m]!.c = m ∧ gIErr n (nodes n)[m]!.f (nodes n)[m]!.a (nodes n)[m]!.b (nodes n)[m]!.c = 0 := by
  have hin : (nodes n)[m]! ∈ nodes n := by rw [bang_eq _ m hm]; exact List.getElem_mem hm
  have hidx : ix (nodes n) (nodes n)[m]! = m := by
    unfold ix
    rw [if_pos hin, bang_eq _ m hm]
    exact idx_at_eq _ m (nodes_nodup n h1 h8) hm
  have hv := nodes_valid n h1 h8 _ hin
  obtain ⟨hi, _, _, _⟩ := node_parts n (840 / n) rfl hin
  have hnp := node_norm hi
  generalize (nodes n)[m]! = p at *
  have hfr : freqB n = true := by simp [freqB]; omega
  have hok : okB n p.f p.a p.b p.c = true := by simp [okB, hfr, hv]
  unfold gIdx gIErr
  rw [if_pos hok, if_pos hok, Int.toNat_natCast, hnp, if_pos hin, if_pos hin, hidx]
  exact ⟨rfl, rfl⟩
/-- A node of the coarse grid, in the fine one. -/
theorem nest_node (n k : Nat) (h1 : 1 ≤ n) (h2 : n ≤ 2) (hk : k < (nodes n).length) :
    gIdx (2 * (n : Int)) (nodes n)[k]!.f (nodes n)[k]!.a (nodes n)[k]!.b (nodes n)[k]!.c = upN n k ∧ gIErr (2 * (n : Int)) (nodes n)[k]!.f (nodes n)[k]!.a (nodes n)[k]!.b (nodes n)[k]!.c = 0 ∧
    gLoc (2 * (n : Int)) (nodes n)[k]!.f (nodes n)[k]!.a (nodes n)[k]!.b (nodes n)[k]!.c = [⟨upN n k, 840⟩] ∧ gErr (2 * (n : Int)) (nodes n)[k]!.f (nodes n)[k]!.a (nodes n)[k]!.b (nodes n)[k]!.c = 0 := by
  obtain ⟨hu, he⟩ := up_all n k h1 h2 hk
  have e2 : 2 * (n : Int) = ((2 * n : Nat) : Int) := by omega
  rw [← he, e2]
  obtain ⟨a1, a2⟩ := node_idx (2 * n) (upN n k) (by omega) (by omega) hu
  obtain ⟨b1, _, b3⟩ := node_loc (2 * n) (upN n k) (by omega) (by omega) hu
  exact ⟨a1, a2, b1, b3⟩
theorem mid_fact {l2 : List Pl} {h2 m : Nat} {E : List N2} {T2 : List N3} {up mid : List Nat} (hm : midOk E T2 up mid = true) (hT : trisTo l2 h2 m 20 0 0 = T2.map toT) (hok : ∀ t ∈ trisTo l2 h2 m 20 0 0, okC l2.length t) (hX : ∀ i : Nat, i < l2.length → ∀ v ∈ nxL l2 h2 m i, 0 ≤ v ∧ v < (l2.length : Int)) (e : N2) (he : e ∈ E) (ha : up.getD e.1 0 < l2.length) :
    hopD (nxL l2 h2 m) l2.length (up.getD e.1 0) (up.getD e.2 0) = 2 := by
  obtain ⟨i, hi, hie⟩ := List.getElem_of_mem he
  have h1 := List.all_eq_true.1 hm i (List.mem_range.2 hi)
  have hge : E.getD i (0, 0) = e := by rw [List.getD_eq_getElem?_getD, List.getElem?_eq_getElem hi, hie]; rfl
  simp only [hge, Bool.and_eq_true, Bool.not_eq_true'] at h1
  obtain ⟨g1, g2, g3, g4⟩ := h1
  have mem : ∀ x y : Nat, adjN T2 x y = true ↔ (y : Int) ∈ nxL l2 h2 m x := fun x y => by rw [(nxL_facts hok x).2, hT, adjN_iff]
  refine hop_two hX ha ((mem _ _).1 g1) ((mem _ _).1 g2) (fun e => ?_) (fun h => ?_)
  · rw [e] at g4
    have : Nat.beq (up.getD ‹N2›.2 0) (up.getD ‹N2›.2 0) = true := by rw [Nat.beq_eq]
    simp_all
  · rw [(mem _ _).2 h] at g3
    cases g3
/-- An edge of the coarse grid, in the fine one. -/
theorem nest_hop (n : Nat) (h1 : 1 ≤ n) (h2 : n ≤ 2) (e : Ed) (he : e ∈ edL (nodes n) (840 / n) n) : gHop (2 * (n : Int)) (upN n e.a.toNat) (upN n e.b.toNat) = 2 ∧ hErr (2 * (n : Int)) (upN n e.a.toNat) (upN n e.b.toNat) = 0 := by
  have hok := tris_ok h1 (by omega : n ≤ 8) rfl (nh n h1 (by omega))
  obtain ⟨t, ht, hte⟩ := ((edL_facts _ _ _).2 e).1 he
  obtain ⟨q0, q1, q2, q3⟩ := hok t ht
  rw [mem_eds] at hte
  have hea : e.a.toNat < (nodes n).length := by omega
  have heb : e.b.toNat < (nodes n).length := by omega
  obtain ⟨ua, _⟩ := up_all n _ h1 h2 hea
  obtain ⟨ub, _⟩ := up_all n _ h1 h2 heb
  have hX := (nx_ok (2 * n) (by omega) (by omega)).1
  have hok2 := tris_ok (show 1 ≤ 2 * n by omega) (show 2 * n ≤ 8 by omega) rfl (nh (2 * n) (by omega) (by omega))
  have key : hopD (nxL (nodes (2 * n)) (840 / (2 * n)) (2 * n)) (nodes (2 * n)).length (upN n e.a.toNat) (upN n e.b.toNat) = 2 := by
    rcases (show n = 1 ∨ n = 2 by omega) with rfl | rfl
    · have hE := lit_edges tris_eq1 (N := 10 * (1 * 1) + 2) ((surfR_eq ..).symm.trans surf1)
      rw [show 840 / 1 = 840 from rfl, hE] at he
      obtain ⟨p, hp, rfl⟩ := List.mem_map.1 he
      exact mid_fact mid_ok1 tris_eq2 hok2 (fun i _ => hX i) p hp ua
    · have hE := lit_edges tris_eq2 (N := 10 * (2 * 2) + 2) ((surfR_eq ..).symm.trans surf2)
      rw [show 840 / 2 = 420 from rfl, hE] at he
      obtain ⟨p, hp, rfl⟩ := List.mem_map.1 he
      exact mid_fact mid_ok2 tris_eq4 hok2 (fun i _ => hX i) p hp ua
  have e2 : 2 * (n : Int) = ((2 * n : Nat) : Int) := by omega
  have hfr : freqB ((2 * n : Nat) : Int) = true := by simp [freqB]; omega
  have hgc : gCount ((2 * n : Nat) : Int) = (nodes (2 * n)).length := by
    rw [nodes_count (2 * n) (by omega) (by omega)]
    unfold gCount
    rw [if_pos hfr]
    generalize 2 * n = r
    simp
  have hp : hpB ((2 * n : Nat) : Int) (upN n e.a.toNat) (upN n e.b.toNat) = true := by
    simp only [hpB, ndB, hfr, hgc, Bool.true_and, Bool.and_eq_true, decide_eq_true_eq]
    omega
  rw [e2]
  unfold gHop hErr
  rw [if_pos hp, if_pos hp]
  exact ⟨key, rfl⟩
end Go.Proofs.YtcoddcdiimpndaaGreatDoor
