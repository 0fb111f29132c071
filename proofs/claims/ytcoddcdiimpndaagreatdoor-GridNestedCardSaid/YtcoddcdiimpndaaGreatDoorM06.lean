/-
  The sorts of cells, edges and numbers that a call owns.
-/
import Derived.Test.YtcoddcdiimpndaaGreatDoorM04
import Derived.Test.YtcoddcdiimpndaaGreatDoorM05
import Derived.Sort.LotA
set_option linter.unusedVariables false
set_option linter.unusedSimpArgs false
namespace Go.Proofs.YtcoddcdiimpndaaGreatDoor
open Go.RowKit Go.Sort
section
variable {α : Type} [Inhabited α] {w : World} {base g cap n : Nat} {e : TypeId} {k : Nat} {enc : α → List Value} {d d' : Array α}
theorem heap_setCells_ne {b k : Nat} (h : k ≠ b) (vs : List Value) (o : Nat) (w : World) : (w.setCells b o vs).heap[k]? = w.heap[k]? := heap_setCells_other h vs o w
theorem grown_setCells (b : Nat) : ∀ (vs : List Value) (o : Nat) (w W : World), w.grownBy W (some b) → w.grownBy (W.setCells b o vs) (some b)
  | [], _, _, _, h => h
  | v :: r, o, w, W, h => grown_setCells b r (o + 1) w (W.setCell ⟨b, o, none⟩ v) (World.grownBy.trans h (setCell_grown W ⟨b, o, none⟩ v))
theorem own_sortedG (hk : ∀ x, (enc x).length = k) (hn : n = d.size) (h : w.ownsRow base e k (.slice (some ⟨g, 0, none⟩) n cap) n (d.toList.flatMap enc)) (hs : d'.size = d.size) (m : Nat) (os : Array Obj) :
    (Go.Proofs.sortWorldK enc k w g 0 m d' os).ownsRow base e k (.slice (some ⟨g, 0, none⟩) n cap) n (d'.toList.flatMap enc) ∧ w.grownBy (Go.Proofs.sortWorldK enc k w g 0 m d' os) (some g) := by
  refine ⟨(own_sorted hk hn h hs m os).1, ?_⟩
  rw [sortW_eq hk hn h hs]
  have h1 : w.grownBy (Sort.ahead w m) (some g) := ⟨rfl, rfl, rfl, Nat.le_refl _, fun _ _ _ => rfl⟩
  exact World.grownBy.trans (grown_setCells g _ 0 w _ h1) (grown_grow _ os _)
end
/-- Lexicographic orders by a compare function: what the sort asks. -/
theorem cmpI_lt (x y : Int) : (cmpI x y < 0 ↔ x < y) ∧ (cmpI x y = 0 ↔ x = y) := by
  unfold cmpI
  split
  · omega
  · split <;> omega
theorem cmpE_lt (x y : Ed) : cmpE x y < 0 ↔ (x.a < y.a ∨ x.a = y.a ∧ x.b < y.b) := by
  unfold cmpE or2
  have h1 := cmpI_lt x.a y.a
  have h2 := cmpI_lt x.b y.b
  split
  · rename_i h; omega
  · rename_i h
    split <;> omega
theorem cmpT_lt (x y : Tri) : cmpT x y < 0 ↔ (x.a < y.a ∨ x.a = y.a ∧ (x.b < y.b ∨ x.b = y.b ∧ x.c < y.c)) := by
  unfold cmpT or3 or2
  have h1 := cmpI_lt x.a y.a
  have h2 := cmpI_lt x.b y.b
  have h3 := cmpI_lt x.c y.c
  split
  · rename_i h; omega
  · rename_i h
    split
    · rename_i h'; omega
    · split <;> omega
def ltT (x y : Tri) : Bool := ltOf cmpT x y
def ltE (x y : Ed) : Bool := ltOf cmpE x y
theorem ltE_iff (x y : Ed) : ltOf cmpE x y = true ↔ (x.a < y.a ∨ x.a = y.a ∧ x.b < y.b) := by simp [ltOf, cmpE_lt]
theorem ltT_iff (x y : Tri) : ltOf cmpT x y = true ↔ (x.a < y.a ∨ x.a = y.a ∧ (x.b < y.b ∨ x.b = y.b ∧ x.c < y.c)) := by simp [ltOf, cmpT_lt]
theorem ltE_no (x y : Ed) : ltOf cmpE x y = false ↔ ¬ (x.a < y.a ∨ x.a = y.a ∧ x.b < y.b) := by rw [← ltE_iff, Bool.not_eq_true]
theorem ltT_no (x y : Tri) : ltOf cmpT x y = false ↔ ¬ (x.a < y.a ∨ x.a = y.a ∧ (x.b < y.b ∨ x.b = y.b ∧ x.c < y.c)) := by rw [← ltT_iff, Bool.not_eq_true]
theorem swoE : SWO (ltOf cmpE) :=
  ⟨fun x => (ltE_no x x).2 (by omega), fun x y z h1 h2 => by rw [ltE_iff] at *; omega, fun x y z h1 h2 => by rw [ltE_no] at *; omega⟩
theorem swoT : SWO (ltOf cmpT) :=
  ⟨fun x => (ltT_no x x).2 (by omega), fun x y z h1 h2 => by rw [ltT_iff] at *; omega, fun x y z h1 h2 => by rw [ltT_no] at *; omega⟩
theorem antiE (x y : Ed) (h1 : ltOf cmpE x y = false) (h2 : ltOf cmpE y x = false) : x = y := by
  rw [ltE_no] at h1 h2
  cases x; cases y
  simp at *
  omega
theorem antiT (x y : Tri) (h1 : ltOf cmpT x y = false) (h2 : ltOf cmpT y x = false) : x = y := by
  rw [ltT_no] at h1 h2
  cases x; cases y
  simp at *
  omega
/-- The cells, the edges in order. -/
def sortT (L : List Tri) : List Tri := L.mergeSort (fun x y => !ltOf cmpT y x)
def sortE (L : List Ed) : List Ed := L.mergeSort (fun x y => !ltOf cmpE y x)
def sortI (L : List Int) : List Int := L.mergeSort (fun x y => decide (x ≤ y))
def cellsT (L : List Tri) : List Value := L.flatMap tric
def cellsE (L : List Ed) : List Value := L.flatMap edc
theorem sortT_any (L : List Tri) (base g cap : Nat) (w : World) (hL : L.length ≤ 1000000) (h : w.ownsRow base 34 3 (.slice (some ⟨g, 0, none⟩) L.length cap) L.length (cellsT L)) :
    Calls Tryz.prog 90 #[.slice (some ⟨g, 0, none⟩) L.length cap, .func (.func 91) #[] #[]] w fun e w' => e = .returned (.tuple #[]) ∧ w'.ownsRow base 34 3 (.slice (some ⟨g, 0, none⟩) L.length cap) L.length (cellsT (sortT L)) ∧ w.grownBy w' (some g) := by
  have hk : ∀ x, (tric x).length = 3 := fun _ => rfl
  have hrow : w.ownsRow base 34 3 (.slice (some ⟨g, 0, none⟩) L.length cap) L.length (L.toArray.toList.flatMap tric) := h
  have hH := own_holds hk (by simp) hrow
  have eg : ∀ args w, (callFunc 91 args).run Tryz.prog w = .ok (.enter 91 args) w := enters_of Tryz.func91 (by kernel_rfl) rfl
  have hc := AnyQ.slices_SortFunc Tryz.sortCell 3 Tryz.isAgg34 Tryz.sizeOf34 tric hk (fun x v hv => by simp [tric] at hv; rcases hv with rfl | rfl | rfl <;> rfl) cmpT swoT 91 #[] g 0 cap L.toArray w eg (fun _ _ _ _ x y => lessT_any x y _) hH (h.lt g rfl).2 (by simp; omega)
  refine hc.mono ?_
  rintro e w' ⟨rfl, d', m, os, hP, hS, rfl⟩
  have hu := sorted_unique_holds (lt := ltOf cmpT) swoT antiT L.toArray d' hP hS
  obtain ⟨h1, h2⟩ := own_sortedG hk (by simp) hrow hP.1 m os
  rw [hu] at h1
  exact ⟨rfl, h1, h2⟩
theorem sortE_any (L : List Ed) (base g cap : Nat) (w : World) (hL : L.length ≤ 1000000) (h : w.ownsRow base 39 2 (.slice (some ⟨g, 0, none⟩) L.length cap) L.length (cellsE L)) :
    Calls Tryz.prog 94 #[.slice (some ⟨g, 0, none⟩) L.length cap, .func (.func 95) #[] #[]] w fun e w' => e = .returned (.tuple #[]) ∧ w'.ownsRow base 39 2 (.slice (some ⟨g, 0, none⟩) L.length cap) L.length (cellsE (sortE L)) ∧ w.grownBy w' (some g) := by
  have hk : ∀ x, (edc x).length = 2 := fun _ => rfl
  have hrow : w.ownsRow base 39 2 (.slice (some ⟨g, 0, none⟩) L.length cap) L.length (L.toArray.toList.flatMap edc) := h
  have hH := own_holds hk (by simp) hrow
  have eg : ∀ args w, (callFunc 95 args).run Tryz.prog w = .ok (.enter 95 args) w := enters_of Tryz.func95 (by kernel_rfl) rfl
  have hc := AnyQ.slices_SortFunc Tryz.sortEdge 2 Tryz.isAgg39 Tryz.sizeOf39 edc hk (fun x v hv => by simp [edc] at hv; rcases hv with rfl | rfl <;> rfl) cmpE swoE 95 #[] g 0 cap L.toArray w eg (fun _ _ _ _ x y => lessE_any x y _) hH (h.lt g rfl).2 (by simp; omega)
  refine hc.mono ?_
  rintro e w' ⟨rfl, d', m, os, hP, hS, rfl⟩
  have hu := sorted_unique_holds (lt := ltOf cmpE) swoE antiE L.toArray d' hP hS
  obtain ⟨h1, h2⟩ := own_sortedG hk (by simp) hrow hP.1 m os
  rw [hu] at h1
  exact ⟨rfl, h1, h2⟩
end Go.Proofs.YtcoddcdiimpndaaGreatDoor
