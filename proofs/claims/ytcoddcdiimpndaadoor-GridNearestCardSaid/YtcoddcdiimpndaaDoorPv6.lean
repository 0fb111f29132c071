/-
  Rows of structs that a call owns, sorted by the shelf's sort; shares.
-/
import Derived.Test.YtcoddcdiimpndaaDoorPv5
import Derived.Test.YtcoddcdiimpndaaDoorSl0
set_option linter.unusedVariables false
set_option linter.unusedSimpArgs false
namespace Go.Proofs.YtcoddcdiimpndaaDoor
open Go.RowKit Go.Sort
section
variable {α : Type} [Inhabited α]
theorem flat_get (enc : α → List Value) (k : Nat) (hk : ∀ x, (enc x).length = k) : ∀ (l : List α) (t : Nat), t < l.length * k → (l.flatMap enc)[t]? = some ((enc (l[t / k]!))[t % k]!)
  | [], t, h => by simp at h
  | x :: l, t, h => by
    have k0 : 0 < k := by
      rcases Nat.eq_zero_or_pos k with e | e
      · subst e; simp at h
      · exact e
    rw [List.flatMap_cons]
    by_cases ht : t < k
    · rw [List.getElem?_append_left (by rw [hk]; exact ht), Nat.div_eq_of_lt ht, Nat.mod_eq_of_lt ht]
      have : t < (enc x).length := by rw [hk]; exact ht
      simp [this]
    · obtain ⟨u, rfl⟩ : ∃ u, t = u + k := ⟨t - k, by omega⟩
      rw [List.getElem?_append_right (by rw [hk]; omega), hk, Nat.add_sub_cancel, Nat.add_div_right _ k0, Nat.add_mod_right,
        flat_get enc k hk l u (by rw [List.length_cons, Nat.add_mul] at h; omega)]
      rfl
theorem get_arr {β : Type} [Inhabited β] (d : Array β) (i : Nat) : d.toList[i]! = d[i]! := by
  rw [List.getElem!_eq_getElem?_getD, Array.getElem?_toList, Array.getElem!_eq_getD, Array.getD_eq_getD_getElem?]
theorem flat_len {β : Type} (enc : β → List Value) (k : Nat) (hk : ∀ x, (enc x).length = k) : ∀ l : List β, (l.flatMap enc).length = l.length * k
  | [] => by simp
  | x :: l => by rw [List.flatMap_cons, List.length_append, hk, flat_len enc k hk l, List.length_cons, Nat.add_mul]; omega
theorem flatK_toList (enc : α → List Value) (k : Nat) (hk : ∀ x, (enc x).length = k) (d : Array α) : (flatK enc k d).toList = d.toList.flatMap enc := by
  apply List.ext_getElem?
  intro t
  by_cases ht : t < d.size * k
  · rw [flat_get enc k hk d.toList t (by simpa using ht)]
    have h1 := get_flatK enc k d t ht
    have h2 : t < (flatK enc k d).size := by simpa using ht
    rw [getElem!_pos _ t h2] at h1
    rw [Array.getElem?_toList, Array.getElem?_eq_getElem h2, h1, get_arr d]
  · rw [List.getElem?_eq_none (by simpa using Nat.le_of_not_lt ht), List.getElem?_eq_none]
    have : (d.toList.flatMap enc).length = d.size * k := by
      rw [flat_len enc k hk]
      simp
    omega
variable {w : World} {base g cap n : Nat} {e : TypeId} {k : Nat} {enc : α → List Value} {d d' : Array α}
theorem own_holds (hk : ∀ x, (enc x).length = k) (hn : n = d.size) (h : w.ownsRow base e k (.slice (some ⟨g, 0, none⟩) n cap) n (d.toList.flatMap enc)) : HoldsK enc k w g 0 d := by
  intro j hj
  rw [size_flatK] at hj
  subst hn
  rw [Nat.zero_add]
  refine ⟨?_, h.frozenAt j⟩
  rw [h.cellAt j hj, flat_get enc k hk d.toList j (by simpa using hj), get_flatK enc k d j hj, get_arr d]
  rfl
theorem setMany_all (F G : Array Value) (h : G.size = F.size) : setMany F 0 G.toList = G := by
  refine ext_get! (by simp [h]) fun t ht => ?_
  have ht' : t < F.size := by simpa using ht
  rw [get_setMany _ _ _ t ht', if_pos ⟨Nat.zero_le _, by simp; omega⟩, Nat.sub_zero, get_arr]
def setL : List Value → Nat → List Value → List Value
  | xs, _, [] => xs
  | xs, o, v :: r => setL (xs.set o v) (o + 1) r
theorem setL_all : ∀ (vs mid pre : List Value), mid.length = vs.length → setL (pre ++ mid) pre.length vs = pre ++ vs
  | [], mid, pre, h => by
    have : mid = [] := List.length_eq_zero_iff.1 h
    rw [this]; rfl
  | v :: r, mid, pre, h => by
    cases mid with
    | nil => simp at h
    | cons m mid =>
      have := setL_all r mid (pre ++ [v]) (by simpa using h)
      simp only [setL]
      rw [List.set_append_right _ _ (Nat.le_refl _)]
      simpa using this
theorem own_setCells : ∀ (vs xs : List Value) (o : Nat) (w : World), w.ownsRow base e k (.slice (some ⟨g, 0, none⟩) n cap) n xs → (w.setCells g o vs).ownsRow base e k (.slice (some ⟨g, 0, none⟩) n cap) n (setL xs o vs)
  | [], xs, o, w, h => h
  | v :: r, xs, o, w, h => own_setCells r (xs.set o v) (o + 1) _ (h.stored o v).1
theorem sortW_eq (hk : ∀ x, (enc x).length = k) (hn : n = d.size) (h : w.ownsRow base e k (.slice (some ⟨g, 0, none⟩) n cap) n (d.toList.flatMap enc)) (hs : d'.size = d.size) (m : Nat) (os : Array Obj) :
    Go.Proofs.sortWorldK enc k w g 0 m d' os = Sort.grow ((Sort.ahead w m).setCells g 0 (d'.toList.flatMap enc)) os := by
  unfold Go.Proofs.sortWorldK putRowK
  have h1 := setCells_putRow (Sort.ahead w m) g 0 (flatK enc k d').toList 0 (flatK enc k d) (by simp [hs])
  rw [setMany_all _ _ (by simp [hs]), putRow_self id (Sort.ahead w m) g 0 _ (own_holds hk hn h)] at h1
  rw [← h1, flatK_toList enc k hk]
theorem grown_grow (w : World) (os : Array Obj) (row : Option Nat) : w.grownBy (Sort.grow w os) row :=
  ⟨rfl, rfl, rfl, by simp [Sort.grow], fun i hi _ => by simp only [Sort.grow]; rw [Array.getElem?_append_left hi]⟩
theorem own_sorted (hk : ∀ x, (enc x).length = k) (hn : n = d.size) (h : w.ownsRow base e k (.slice (some ⟨g, 0, none⟩) n cap) n (d.toList.flatMap enc)) (hs : d'.size = d.size) (m : Nat) (os : Array Obj) :
    (Go.Proofs.sortWorldK enc k w g 0 m d' os).ownsRow base e k (.slice (some ⟨g, 0, none⟩) n cap) n (d'.toList.flatMap enc) ∧ Below base w (Go.Proofs.sortWorldK enc k w g 0 m d' os) := by
  rw [sortW_eq hk hn h hs]
  have hl := (h.lt g rfl)
  have hz : ∀ d : Array α, (d.toList.flatMap enc).length = d.size * k := fun d => by rw [flat_len enc k hk]; simp
  constructor
  · have h1 : (Sort.ahead w m).ownsRow base e k (.slice (some ⟨g, 0, none⟩) n cap) n (d.toList.flatMap enc) := h
    have h2 := own_setCells (d'.toList.flatMap enc) _ 0 _ h1
    have h3 := setL_all (d'.toList.flatMap enc) (d.toList.flatMap enc) [] (by rw [hz, hz, hs])
    simp only [List.nil_append, List.length_nil] at h3
    rw [h3] at h2
    exact h2.kept (grown_grow _ os none) (.inr (by simp [Value.ownBlock]))
  · have h1 : Below base w (Sort.ahead w m) := ⟨rfl, rfl, rfl, Nat.le_refl _, fun _ _ => rfl⟩
    have h2 := Below.setCells hl.1 (d'.toList.flatMap enc) 0 _ h1
    have h3 := grown_grow ((Sort.ahead w m).setCells g 0 (d'.toList.flatMap enc)) os none
    have h4 : base ≤ ((Sort.ahead w m).setCells g 0 (d'.toList.flatMap enc)).heap.size := by
      rw [size_setCells]
      exact Nat.le_trans hl.1 (Nat.le_of_lt hl.2)
    exact h2.grown h3 h4 (by simp)
end
/-- A share: a node and its weight. -/
structure Sh where
  node : Int
  w : Int
deriving DecidableEq, Inhabited
def shc (s : Sh) : List Value := [.int .i64 s.node, .int .i64 s.w]
def cellsS (l : List Sh) : List Value := l.flatMap shc
theorem cellsS_snoc (l : List Sh) (a b : Int) : cellsS (l ++ [⟨a, b⟩]) = cellsS l ++ [.int .i64 a, .int .i64 b] := by simp [cellsS, shc]
def cmpS (x y : Sh) : Int := IntKind.i64.wrap (x.node - y.node)
def sortS (l : List Sh) : List Sh := (Sort.insertionSort (ltOf cmpS) l.toArray 0 l.length).toList
def rawTo (l : List Pl) (f : Int) (qx qy qz W : Nat → Int) : Nat → List Sh
  | 0 => []
  | j + 1 => rawTo l f qx qy qz W j ++ if 0 < W j then [⟨(ix l (normPl f (qx j) (qy j) (qz j)) : Nat), W j⟩] else []
theorem rawTo_le (l : List Pl) (f : Int) (qx qy qz W : Nat → Int) : ∀ j, (rawTo l f qx qy qz W j).length ≤ j
  | 0 => Nat.le_refl _
  | j + 1 => by
    have := rawTo_le l f qx qy qz W j
    rw [rawTo, List.length_append]
    split <;> simp <;> omega
theorem infoSh : (Tryd.prog.info? 41).map (fun i => (i.zero, i.size, i.bytes)) = some (some (.agg #[.int .i64 0, .int .i64 0]), 2, 16) := by kernel_rfl
/-- The coordinate i of the corner j of a small triangle. -/
def qc (up : Bool) (h base : Int) (i j : Nat) : Int := base + if decide (i = j) == up then h else 0
/-- The weight of the corner j. -/
def lw (up : Bool) (X Y Z : Int) (j : Nat) : Int :=
  let v := if j = 0 then X else if j = 1 then Y else Z
  if up then v else 840 - v
/-- The shares of a place of face f with remainders. -/
def locS (l : List Pl) (h n : Nat) (f a b c : Int) : List Sh :=
  let X := a % (h : Int) * (n : Int); let Y := b % (h : Int) * (n : Int); let Z := c % (h : Int) * (n : Int)
  if X + Y + Z = 0 then [⟨(ix l (normPl f a b c) : Nat), 840⟩]
  else
    let up := decide (X + Y + Z = 840)
    sortS (rawTo l f (qc up h (a - a % (h : Int)) 0) (qc up h (b - b % (h : Int)) 1) (qc up h (c - c % (h : Int)) 2) (lw up X Y Z) 3)
end Go.Proofs.YtcoddcdiimpndaaDoor
