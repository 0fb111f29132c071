/-
  A whole grid in memory: what Build keeps of it, phase by phase; the lists that it makes.
  Rows of rows: one row grows by one number; one row is sorted.
  The sort of one row of a row of rows.
  The cells, the edges and the neighbours of a grid as lists in order: plain laws, no walk.
  How many nodes a grid has.
-/
import Derived.Test.YtcoddcdiimpndaaGreatDoorM16
import Derived.Shelf.Slices.In.SortNone
import Derived.Test.YtcoddcdiimpndaaGreatDoorM13
set_option linter.unusedVariables false
set_option linter.unusedSimpArgs false
namespace Go.Proofs.YtcoddcdiimpndaaGreatDoor
open Go.RowKit
/-- The cells that are listed ahead of (f, a, b). -/
def tRow (l : List Pl) (h n f a b : Nat) : List Tri := (List.range b).flatMap fun (j : Nat) => cellsOfP l h (f : Int) ((a : Int) * h) ((j : Int) * h) (((n : Int) - 1 - a - j) * h)
def tCol (l : List Pl) (h n f a : Nat) : List Tri := (List.range a).flatMap fun i => tRow l h n f i (n - i)
def tAll (l : List Pl) (h n f : Nat) : List Tri := (List.range f).flatMap fun g => tCol l h n g n
def trisTo (l : List Pl) (h n f a b : Nat) : List Tri := tAll l h n f ++ tCol l h n f a ++ tRow l h n f a b
theorem trisTo_zero (l : List Pl) (h n : Nat) : trisTo l h n 0 0 0 = [] := rfl
theorem trisTo_b (l : List Pl) (h n f a b : Nat) : trisTo l h n f a (b + 1) = trisTo l h n f a b ++ cellsOfP l h (f : Int) ((a : Int) * h) ((b : Int) * h) (((n : Int) - 1 - a - b) * h) := by
  simp [trisTo, tRow, List.range_succ, List.flatMap_append]
theorem trisTo_a (l : List Pl) (h n f a : Nat) : trisTo l h n f (a + 1) 0 = trisTo l h n f a (n - a) := by
  simp [trisTo, tRow, tCol, List.range_succ, List.flatMap_append]
theorem trisTo_f (l : List Pl) (h n f : Nat) : trisTo l h n (f + 1) 0 0 = trisTo l h n f n 0 := by
  simp [trisTo, tRow, tCol, tAll, List.range_succ, List.flatMap_append]
theorem cellsOfP_len (l : List Pl) (h : Nat) (f a b c : Int) : (cellsOfP l h f a b c).length ≤ 2 := by
  unfold cellsOfP
  split <;> simp
/-- The cells, the edges, the neighbours of the nodes l. -/
def triL (l : List Pl) (h n : Nat) : List Tri := sortT (trisTo l h n 20 0 0)
def eds (t : Tri) : List Ed := [⟨t.a, t.b⟩, ⟨t.a, t.c⟩, ⟨t.b, t.c⟩]
def edR (l : List Pl) (h n : Nat) : List Ed := (triL l h n).flatMap eds
def edL (l : List Pl) (h n : Nat) : List Ed := compE (sortE (edR l h n))
def upd (X : Nat → List Int) (i : Nat) (v : Int) : Nat → List Int := fun j => if j = i then X j ++ [v] else X j
def addE (X : Nat → List Int) (e : Ed) : Nat → List Int := upd (upd X e.a.toNat e.b) e.b.toNat e.a
def nxR (R : List Ed) : Nat → List Int := R.foldl addE (fun _ => [])
def nxL (l : List Pl) (h n : Nat) (i : Nat) : List Int := sortI (nxR (edL l h n) i)
theorem nxR_snoc (R : List Ed) (e : Ed) : nxR (R ++ [e]) = addE (nxR R) e := by simp [nxR]
theorem upd_len (X : Nat → List Int) (i : Nat) (v : Int) (m : Nat) (h : ∀ j, (X j).length ≤ m) : ∀ j, (upd X i v j).length ≤ m + 1 := by
  intro j
  have := h j
  unfold upd
  split <;> simp <;> omega
theorem nxR_len (R : List Ed) : ∀ j, (nxR R j).length ≤ 2 * R.length := by
  have key : ∀ (R : List Ed) (X : Nat → List Int) (m : Nat), (∀ j, (X j).length ≤ m) → ∀ j, (R.foldl addE X j).length ≤ m + 2 * R.length := by
    intro R
    induction R with
    | nil => intro X m h j; simpa using h j
    | cons e R ih =>
      intro X m h j
      have := ih (addE X e) (m + 2) (fun j => by
        have h1 := upd_len X e.a.toNat e.b m h
        exact upd_len _ e.b.toNat e.a (m + 1) h1 j) j
      simp only [List.foldl_cons, List.length_cons]
      omega
  intro j
  have := key R (fun _ => []) 0 (fun _ => Nat.le_refl _) j
  simpa [nxR] using this
theorem sortT_perm (L : List Tri) : (sortT L).Perm L := List.mergeSort_perm _ _
theorem sortE_perm (L : List Ed) : (sortE L).Perm L := List.mergeSort_perm _ _
theorem sortI_perm (L : List Int) : (sortI L).Perm L := List.mergeSort_perm _ _
/-- The parts of a sorted triple are those that were sorted. -/
theorem triOf_mem (x y z : Int) (P : Int → Prop) (hx : P x) (hy : P y) (hz : P z) : P (triOf x y z).a ∧ P (triOf x y z).b ∧ P (triOf x y z).c := by
  have hl : (sortI [x, y, z]).length = 3 := sortI_length _
  have hm : ∀ u ∈ sortI [x, y, z], P u := fun u hu => by
    have := (sortI_perm [x, y, z]).mem_iff.1 hu
    simp at this
    rcases this with rfl | rfl | rfl <;> assumption
  have h : ∀ i, i < 3 → P (sortI [x, y, z])[i]! := fun i hi => by
    rw [getElem!_pos _ i (by omega)]
    exact hm _ (List.getElem_mem (by omega))
  exact ⟨h 0 (by omega), h 1 (by omega), h 2 (by omega)⟩
def okT (N : Nat) (t : Tri) : Prop := (0 ≤ t.a ∧ t.a < N) ∧ (0 ≤ t.b ∧ t.b < N) ∧ (0 ≤ t.c ∧ t.c < N)
def okE (N : Nat) (e : Ed) : Prop := (0 ≤ e.a ∧ e.a < N) ∧ (0 ≤ e.b ∧ e.b < N)
theorem atN_ok (l : List Pl) (hl : 0 < l.length) (f x y z : Int) : 0 ≤ atN l f x y z ∧ atN l f x y z < l.length := by
  unfold atN ix
  split
  · rename_i h
    have := List.idxOf_lt_length_of_mem h
    omega
  · omega
theorem trisTo_ok (l : List Pl) (hl : 0 < l.length) (h n f a b : Nat) : ∀ t ∈ trisTo l h n f a b, okT l.length t := by
  have hc : ∀ (f a b c : Int), ∀ t ∈ cellsOfP l h f a b c, okT l.length t := by
    intro f a b c t ht
    have k : t = upT l h f a b c ∨ t = downT l h f a b c := by
      unfold cellsOfP at ht
      split at ht <;> simp at ht
      · exact ht
      · exact .inl ht
    rcases k with rfl | rfl
    · exact triOf_mem _ _ _ (fun u => 0 ≤ u ∧ u < (l.length : Int)) (atN_ok l hl _ _ _ _) (atN_ok l hl _ _ _ _) (atN_ok l hl _ _ _ _)
    · exact triOf_mem _ _ _ (fun u => 0 ≤ u ∧ u < (l.length : Int)) (atN_ok l hl _ _ _ _) (atN_ok l hl _ _ _ _) (atN_ok l hl _ _ _ _)
  intro t ht
  unfold trisTo tAll tCol tRow at ht
  simp only [List.mem_append, List.mem_flatMap] at ht
  rcases ht with (⟨_, _, _, _, _, _, h1⟩ | ⟨_, _, _, _, h1⟩) | ⟨_, _, h1⟩ <;> exact hc _ _ _ _ t h1
theorem cmpTo_mem (E : Nat → Ed) : ∀ r, ∀ e ∈ cmpTo E r, ∃ j, j < r ∧ e = E j
  | 0, e, h => by simp [cmpTo] at h
  | r + 1, e, h => by
    simp only [cmpTo] at h
    split at h
    · obtain ⟨j, hj, he⟩ := cmpTo_mem E r e h
      exact ⟨j, by omega, he⟩
    · rcases List.mem_append.1 h with h | h
      · obtain ⟨j, hj, he⟩ := cmpTo_mem E r e h
        exact ⟨j, by omega, he⟩
      · simp at h
        exact ⟨r, by omega, h⟩
theorem compE_mem (L : List Ed) : ∀ e ∈ compE L, e ∈ L := by
  intro e he
  obtain ⟨j, hj, rfl⟩ := cmpTo_mem _ _ e he
  rw [getElem!_pos _ j hj]
  exact List.getElem_mem hj
theorem edL_ok (l : List Pl) (hl : 0 < l.length) (h n : Nat) : ∀ e ∈ edL l h n, okE l.length e := by
  intro e he
  have h1 := (sortE_perm _).mem_iff.1 (compE_mem _ e he)
  obtain ⟨t, ht, he2⟩ := List.mem_flatMap.1 h1
  have h2 := trisTo_ok l hl h n 20 0 0 t ((sortT_perm _).mem_iff.1 ht)
  unfold eds at he2
  simp at he2
  obtain ⟨p, q, r⟩ := h2
  rcases he2 with rfl | rfl | rfl
  · exact ⟨p, q⟩
  · exact ⟨p, r⟩
  · exact ⟨q, r⟩
theorem edR_len (l : List Pl) (h n : Nat) : (edR l h n).length = 3 * (trisTo l h n 20 0 0).length := by
  have : ∀ L : List Tri, (L.flatMap eds).length = 3 * L.length := by
    intro L
    induction L with
    | nil => rfl
    | cons t L ih => simp only [List.flatMap_cons, List.length_append, List.length_cons, ih]; simp [eds]; omega
  unfold edR triL
  rw [this, (sortT_perm _).length_eq]
theorem edL_len (l : List Pl) (h n : Nat) : (edL l h n).length ≤ 3 * (trisTo l h n 20 0 0).length := by
  have h1 := cmpTo_le (fun i => (sortE (edR l h n))[i]!) (sortE (edR l h n)).length
  rw [← edR_len, ← (sortE_perm (edR l h n)).length_eq]
  exact h1
/-- A whole grid behind g: the edges' row Ev holds R, the neighbours lie in X. -/
structure NetW (B : Nat) (w : World) (h n : Nat) (g gm : Nat) (l : List Pl) (V C : Value) (T : List Tri) (Ev : Value) (R : List Ed) (X : Value) : Prop where
  blk : w.heap[g]? = some (.cells #[.int .i64 n, .int .i64 h, V, .map (some gm), C, Ev, X] 85 (0, 0))
  row : w.ownsRow B 32 4 V l.length (cellsP l)
  map : MapIx w gm l
  tri : w.ownsRow B 34 3 C T.length (cellsT T)
  edg : w.ownsRow B 39 2 Ev R.length (cellsE R)
  bg : B ≤ g
section
variable {B : Nat} {w w' : World} {h n g gm : Nat} {l : List Pl} {V C Ev X : Value} {T : List Tri} {R : List Ed}
theorem NetW.reads (H : NetW B w h n g gm l V C T Ev R X) : NetR w h n g gm l :=
  ⟨blk_lt H.blk, blk_cell H.blk 0 _ rfl, blk_cell H.blk 1 _ rfl, blk_cell H.blk 3 _ rfl, H.map⟩
theorem NetW.below {C' : Value} (H : NetW B w h n g gm l V C T Ev R X) (hb : Below w.heap.size w w') : NetW B w' h n g gm l V C T Ev R X :=
  ⟨blk_below hb H.blk (blk_lt H.blk), own_below H.row hb, H.map.below hb, own_below H.tri hb, own_below H.edg hb, H.bg⟩
theorem netNe (cur : Array Value) (cs : Array Value) (t : TypeId) (ht : 85 ≠ t) : Obj.cells cs 85 (0, 0) ≠ .cells cur t (0, 0) := by
  intro h
  injection h with _ h2
  exact ht h2
theorem NetW.gm_ne (H : NetW B w h n g gm l V C T Ev R X) : gm ≠ g := by
  obtain ⟨es, clock, hbm, _⟩ := H.map
  intro e
  subst e
  rw [H.blk] at hbm
  cases hbm
/-- Behind a change of one block that is none of the grid's. -/
theorem NetW.keep {row : Option Nat} (H : NetW B w h n g gm l V C T Ev R X) (hg : w.grownBy w' row) (h1 : some g ≠ row) (h2 : V.ownBlock = none ∨ V.ownBlock ≠ row) (h3 : some gm ≠ row) (h4 : C.ownBlock = none ∨ C.ownBlock ≠ row) (h5 : Ev.ownBlock = none ∨ Ev.ownBlock ≠ row) : NetW B w' h n g gm l V C T Ev R X :=
  ⟨(hg.block g (blk_lt H.blk) h1).trans H.blk, H.row.kept hg h2, World.ownsMap.kept H.map hg h3, H.tri.kept hg h4, H.edg.kept hg h5, H.bg⟩
/-- Where the changed row is one of another type. -/
theorem NetW.keepT {base size m : Nat} {e : TypeId} {v : Value} {xs : List Value} (H : NetW B w h n g gm l V C T Ev R X) (hr : w.ownsRow base e size v m xs) (hg : w.grownBy w' v.ownBlock) (e1 : 85 ≠ e) (e2 : e ≠ 32) (e3 : e ≠ 34) (e4 : e ≠ 39) : NetW B w' h n g gm l V C T Ev R X := by
  have hm0 := H.map
  obtain ⟨es, clock, hbm, _⟩ := hm0
  exact H.keep hg (own_ne hr H.blk (fun cur => netNe cur _ e e1)) (own_apart hr H.row e2) (own_ne hr hbm (by simp)) (own_apart hr H.tri e3) (own_apart hr H.edg e4)
/-- The cells' row is changed. -/
theorem NetW.setT {T' : List Tri} (H : NetW B w h n g gm l V C T Ev R X) (hg : w.grownBy w' C.ownBlock) (hr : w'.ownsRow B 34 3 C T'.length (cellsT T')) : NetW B w' h n g gm l V C T' Ev R X := by
  have hm0 := H.map
  obtain ⟨es, clock, hbm, _⟩ := hm0
  exact ⟨(hg.block g (blk_lt H.blk) (own_ne H.tri H.blk (netNeT · _))).trans H.blk, H.row.kept hg (own_apart H.tri H.row (by decide)), World.ownsMap.kept H.map hg (own_ne H.tri hbm (by simp)), hr, H.edg.kept hg (own_apart H.tri H.edg (by decide)), H.bg⟩
/-- The edges' row is changed. -/
theorem NetW.setE {R' : List Ed} {Ev' : Value} (H : NetW B w h n g gm l V C T Ev R X) (hg : w.grownBy w' Ev.ownBlock) (hr : w'.ownsRow B 39 2 Ev' R'.length (cellsE R')) : NetW B (w'.setCell ⟨g, 5, none⟩ Ev') h n g gm l V C T Ev' R' X := by
  have hm0 := H.map
  obtain ⟨es, clock, hbm, _⟩ := hm0
  have hblk : w'.heap[g]? = _ := (hg.block g (blk_lt H.blk) (own_ne H.edg H.blk (fun cur => netNe cur _ _ (by decide)))).trans H.blk
  have hrow := H.row.kept hg (own_apart H.edg H.row (by decide))
  have hmap : MapIx w' gm l := World.ownsMap.kept H.map hg (own_ne H.edg hbm (by simp))
  have htri := H.tri.kept hg (own_apart H.edg H.tri (by decide))
  have hs := setCell_grown w' ⟨g, 5, none⟩ Ev'
  refine ⟨heap_setCell_same w' g 5 _ _ Ev' hblk, hrow.kept hs (.inr (Ne.symm (own_ne hrow hblk (fun cur => netNe cur _ _ (by decide))))), World.ownsMap.kept hmap hs (by simpa using H.gm_ne), htri.kept hs (.inr (Ne.symm (own_ne htri hblk (fun cur => netNe cur _ _ (by decide))))), hr.kept hs (.inr (Ne.symm (own_ne hr hblk (fun cur => netNe cur _ _ (by decide))))), H.bg⟩
/-- The edges' row is sorted where it lies. -/
theorem NetW.setE' {R' : List Ed} (H : NetW B w h n g gm l V C T Ev R X) (hg : w.grownBy w' Ev.ownBlock) (hr : w'.ownsRow B 39 2 Ev R'.length (cellsE R')) : NetW B w' h n g gm l V C T Ev R' X := by
  have hm0 := H.map
  obtain ⟨es, clock, hbm, _⟩ := hm0
  exact ⟨(hg.block g (blk_lt H.blk) (own_ne H.edg H.blk (fun cur => netNe cur _ _ (by decide)))).trans H.blk, H.row.kept hg (own_apart H.edg H.row (by decide)), World.ownsMap.kept H.map hg (own_ne H.edg hbm (by simp)), H.tri.kept hg (own_apart H.edg H.tri (by decide)), hr, H.bg⟩
/-- The neighbours' slice is stored. -/
theorem NetW.setX {X' : Value} (H : NetW B w h n g gm l V C T Ev R X) : NetW B (w.setCell ⟨g, 6, none⟩ X') h n g gm l V C T Ev R X' := by
  have hs := setCell_grown w ⟨g, 6, none⟩ X'
  exact ⟨heap_setCell_same w g 6 _ _ X' H.blk, H.row.kept hs (.inr (Ne.symm (own_ne H.row H.blk (fun cur => netNe cur _ _ (by decide))))), World.ownsMap.kept H.map hs (by simpa using H.gm_ne), H.tri.kept hs (.inr (Ne.symm (own_ne H.tri H.blk (fun cur => netNe cur _ _ (by decide))))), H.edg.kept hs (.inr (Ne.symm (own_ne H.edg H.blk (fun cur => netNe cur _ _ (by decide))))), H.bg⟩
theorem NetC.whole (H : NetC B w h n g gm l V C T) : NetW B w h n g gm l V C T (.slice none 0 0) [] (.slice none 0 0) :=
  ⟨H.blk, H.row, H.map, H.tri, World.ownsRow_nil _ _ _ _, H.bg⟩
end
/-- A row of rows: N lists of numbers, each in a row of its own. -/
structure Rows2 (B : Nat) (w : World) (gx N : Nat) (Vx : Nat → Value) (Lx : Nat → List Int) : Prop where
  row : w.rowIs gx 23 N Vx
  own : ∀ i, i < N → w.ownsRow B 3 1 (Vx i) (Lx i).length (cellsI (Lx i))
  ap : ∀ i j, i < N → j < N → i ≠ j → (Vx i).ownBlock = none ∨ (Vx i).ownBlock ≠ (Vx j).ownBlock
  bx : B ≤ gx
end Go.Proofs.YtcoddcdiimpndaaGreatDoor
set_option linter.unusedVariables false
namespace Go.Proofs.YtcoddcdiimpndaaGreatDoor
open Go.RowKit
theorem cellsI_snoc (X : List Int) (v : Int) : cellsI X ++ [.int .i64 v] = cellsI (X ++ [v]) := by simp [cellsI]
section
variable {B : Nat} {w w' : World} {gx N : Nat} {Vx : Nat → Value} {X : Nat → List Int}
theorem Rows2.below (H : Rows2 B w gx N Vx X) (hb : Below w.heap.size w w') : Rows2 B w' gx N Vx X :=
  ⟨H.row.of_block (hb.block gx H.row.lt), fun i hi => own_below (H.own i hi) hb, H.ap, H.bx⟩
theorem Rows2.ne (H : Rows2 B w gx N Vx X) {V' : Value} {base n : Nat} {xs : List Value} {w1 : World} {F : Nat → Value} (h : w1.ownsRow base 3 1 V' n xs) (hr : w1.rowIs gx 23 N F) : some gx ≠ V'.ownBlock := by
  obtain ⟨c, hb, _, _⟩ := hr
  exact own_ne h hb (fun cur h => by injection h with _ h2; exact absurd h2 (by decide))
theorem Rows2.congr {Y : Nat → List Int} (H : Rows2 B w gx N Vx X) (h : ∀ i, i < N → X i = Y i) : Rows2 B w gx N Vx Y :=
  ⟨H.row, fun i hi => by rw [← h i hi]; exact H.own i hi, H.ap, H.bx⟩
/-- One row becomes another, in its own block or in a new one, and its slice is stored. -/
theorem Rows2.step (H : Rows2 B w gx N Vx X) (i : Nat) (hi : i < N) (L : List Int) (g7 m cap : Nat) (hg : w.grownBy w' (Vx i).ownBlock)
    (hr : w'.ownsRow B 3 1 (.slice (some ⟨g7, 0, none⟩) m cap) L.length (cellsI L)) (ha : (Vx i).ownBlock = some g7 ∨ w.heap.size ≤ g7) :
    Rows2 B (w'.setCell ⟨gx, i, none⟩ (.slice (some ⟨g7, 0, none⟩) m cap)) gx N (fun j => if j = i then .slice (some ⟨g7, 0, none⟩) m cap else Vx j) (fun j => if j = i then L else X j) := by
  have hrow := H.row.of_block (hg.block gx H.row.lt (H.ne (H.own i hi) H.row))
  have hs := setCell_grown w' ⟨gx, i, none⟩ (.slice (some ⟨g7, 0, none⟩) m cap)
  refine ⟨hrow.set i _, fun j hj => ?_, fun a b ha' hb' hab => ?_, H.bx⟩
  · by_cases e : j = i
    · subst e
      simp only [if_true]
      exact hr.kept hs (.inr (Ne.symm (H.ne hr hrow)))
    · simp only [if_neg e]
      have h1 := (H.own j hj).kept hg (H.ap j i hj hi e)
      exact h1.kept hs (.inr (Ne.symm (H.ne h1 hrow)))
  · by_cases ea : a = i
    · have eb : ¬ b = i := fun h => hab (ea.trans h.symm)
      subst ea
      simp only [if_true, if_neg eb]
      refine .inr (fun hq => ?_)
      change some g7 = (Vx b).ownBlock at hq
      rcases ha with h | h
      · rcases H.ap a b ha' hb' hab with h2 | h2
        · rw [h] at h2; cases h2
        · exact h2 (h.trans hq)
      · have := ((H.own b hb').lt g7 hq.symm).2
        omega
    · by_cases eb : b = i
      · subst eb
        simp only [if_true, if_neg ea]
        cases hq : (Vx a).ownBlock with
        | none => exact .inl rfl
        | some q =>
          refine .inr (fun h3 => ?_)
          have hq7 : q = g7 := by injection h3
          subst hq7
          rcases ha with h | h
          · rcases H.ap a b ha' hb' hab with h2 | h2
            · rw [hq] at h2; cases h2
            · exact h2 (hq.trans h.symm)
          · have := ((H.own a ha').lt q hq).2
            omega
      · simp only [if_neg ea, if_neg eb]
        exact H.ap a b ha' hb' hab
/-- One row is changed where it lies. -/
theorem Rows2.same (H : Rows2 B w gx N Vx X) (i : Nat) (hi : i < N) (L : List Int) (hg : w.grownBy w' (Vx i).ownBlock)
    (hr : w'.ownsRow B 3 1 (Vx i) L.length (cellsI L)) : Rows2 B w' gx N Vx (fun j => if j = i then L else X j) := by
  refine ⟨H.row.of_block (hg.block gx H.row.lt (H.ne (H.own i hi) H.row)), fun j hj => ?_, H.ap, H.bx⟩
  by_cases e : j = i
  · subst e
    simp only [if_true]
    exact hr
  · simp only [if_neg e]
    exact (H.own j hj).kept hg (H.ap j i hj hi e)
end
section
variable {B : Nat} {w : World} {h n g gm gx N : Nat} {l : List Pl} {V C Ev X : Value} {T : List Tri} {R : List Ed} {F : Nat → Value}
/-- A store into the rows' row. -/
theorem NetW.setRow (H : NetW B w h n g gm l V C T Ev R X) (hr : w.rowIs gx 23 N F) (i : Nat) (v : Value) : NetW B (w.setCell ⟨gx, i, none⟩ v) h n g gm l V C T Ev R X := by
  obtain ⟨c, hb, _, _⟩ := hr
  have ne : ∀ (e : TypeId), 23 ≠ e → ∀ cur, Obj.cells c 23 (0, 0) ≠ .cells cur e (0, 0) := fun e he cur h => by injection h with _ h2; exact he h2
  refine H.keep (setCell_grown w ⟨gx, i, none⟩ v) (fun e => ?_) (.inr (Ne.symm (own_ne H.row hb (ne _ (by decide))))) (fun e => ?_) (.inr (Ne.symm (own_ne H.tri hb (ne _ (by decide))))) (.inr (Ne.symm (own_ne H.edg hb (ne _ (by decide)))))
  · injection e with e
    change g = gx at e
    rw [← e, H.blk] at hb
    injection hb with h2
    injection h2 with _ h3
    exact absurd h3 (by decide)
  · injection e with e
    change gm = gx at e
    obtain ⟨es, clock, hbm, _⟩ := H.map
    rw [← e, hbm] at hb
    cases hb
end
/-- A whole grid that a call has built behind block w.heap.size + 1. -/
def Built (w w' : World) (h n : Nat) (l : List Pl) : Prop := ∃ V C Ev gx Vx, NetW w.heap.size w' h n (w.heap.size + 1) w.heap.size l V C (triL l h n) Ev (edL l h n) (.slice (some ⟨gx, 0, none⟩) l.length l.length) ∧ Rows2 w.heap.size w' gx l.length Vx (nxL l h n) ∧ Below w.heap.size w w'
end Go.Proofs.YtcoddcdiimpndaaGreatDoor
set_option linter.unusedVariables false
namespace Go.Proofs.YtcoddcdiimpndaaGreatDoor
open Go.RowKit
theorem Rows2.sorted {B : Nat} {w : World} {gx N : Nat} {Vx : Nat → Value} {X : Nat → List Int} (H : Rows2 B w gx N Vx X) (i : Nat) (hi : i < N) (hx : (X i).length ≤ 1000000) :
    Calls Tryz.prog 82 #[Vx i] w fun e w' => e = .returned (.tuple #[]) ∧ w.grownBy w' (Vx i).ownBlock ∧ w'.ownsRow B 3 1 (Vx i) (sortI (X i)).length (cellsI (sortI (X i))) := by
  have ho := H.own i hi
  rcases ho.2 with ⟨h0, hn⟩ | ⟨g, cap, cur, h0, hrest⟩
  · rw [h0]
    refine (Any.slices_Sort_int_none Tryz.sortInts none 0 w).mono ?_
    rintro e w' ⟨rfl, rfl⟩
    have hnil : X i = [] := List.eq_nil_of_length_eq_zero hn
    rw [hnil]
    have hs : sortI [] = [] := List.eq_nil_of_length_eq_zero (sortI_length [])
    rw [hs]
    exact ⟨rfl, grown_refl' _ _, World.ownsRow_nil _ _ _ _⟩
  · rw [h0] at ho ⊢
    refine (sortI_own (X i) B g cap w hx ho).mono ?_
    rintro e w' ⟨rfl, h1, h2⟩
    exact ⟨rfl, h2, by rw [sortI_length]; exact h1⟩
end Go.Proofs.YtcoddcdiimpndaaGreatDoor
set_option linter.unusedVariables false
set_option linter.unusedSimpArgs false
namespace Go.Proofs.YtcoddcdiimpndaaGreatDoor
/-- Two lists in strict order with the same members are one. -/
theorem strict_ext {α : Type} {lt : α → α → Prop} (irr : ∀ x, ¬ lt x x) (tr : ∀ x y z, lt x y → lt y z → lt x z) : ∀ {A B : List α}, A.Pairwise lt → B.Pairwise lt → (∀ x, x ∈ A ↔ x ∈ B) → A = B
  | [], [], _, _, _ => rfl
  | [], b :: B, _, _, h => by have := (h b).2 (by simp); simp at this
  | a :: A, [], _, _, h => by have := (h a).1 (by simp); simp at this
  | a :: A, b :: B, hA, hB, h => by
    obtain ⟨a1, a2⟩ := List.pairwise_cons.1 hA
    obtain ⟨b1, b2⟩ := List.pairwise_cons.1 hB
    have e : a = b := by
      have h1 := (h a).1 (by simp)
      have h2 := (h b).2 (by simp)
      rcases List.mem_cons.1 h1 with e | h1
      · exact e
      rcases List.mem_cons.1 h2 with e | h2
      · exact e.symm
      · exact absurd (tr _ _ _ (a1 b h2) (b1 a h1)) (irr a)
    subst e
    congr 1
    refine strict_ext irr tr a2 b2 fun x => ⟨fun hx => ?_, fun hx => ?_⟩
    · rcases List.mem_cons.1 ((h x).1 (List.mem_cons_of_mem _ hx)) with e | h3
      · subst e; exact absurd (a1 x hx) (irr x)
      · exact h3
    · rcases List.mem_cons.1 ((h x).2 (List.mem_cons_of_mem _ hx)) with e | h3
      · subst e; exact absurd (b1 x hx) (irr x)
      · exact h3
def ltEd (x y : Ed) : Prop := x.a < y.a ∨ x.a = y.a ∧ x.b < y.b
def leEd (x y : Ed) : Prop := ¬ ltEd y x
theorem ltEd_irr (x : Ed) : ¬ ltEd x x := by unfold ltEd; omega
theorem ltEd_tr (x y z : Ed) (h1 : ltEd x y) (h2 : ltEd y z) : ltEd x z := by unfold ltEd at *; omega
theorem ed_ext {x y : Ed} (h1 : x.a = y.a) (h2 : x.b = y.b) : x = y := by cases x; cases y; simp_all
/-- Compact: the members stay; what is in order is in strict order then. -/
theorem cmpTo_strict (E : Nat → Ed) : ∀ r, (∀ i j, i ≤ j → j < r → leEd (E i) (E j)) → (cmpTo E r).Pairwise ltEd ∧ ∀ e, e ∈ cmpTo E r ↔ ∃ j, j < r ∧ e = E j
  | 0, _ => ⟨List.Pairwise.nil, fun e => by simp [cmpTo]⟩
  | r + 1, h => by
    obtain ⟨h1, h2⟩ := cmpTo_strict E r (fun i j a b => h i j a (by omega))
    simp only [cmpTo]
    split
    · rename_i hc
      refine ⟨h1, fun e => (h2 e).trans ⟨fun ⟨j, hj, he⟩ => ⟨j, by omega, he⟩, fun ⟨j, hj, he⟩ => ?_⟩⟩
      rcases Nat.lt_or_ge j r with h3 | h3
      · exact ⟨j, h3, he⟩
      · obtain rfl : j = r := by omega
        exact ⟨j - 1, by omega, he.trans hc.2⟩
    · rename_i hc
      refine ⟨List.pairwise_append.2 ⟨h1, by simp, fun x hx y hy => ?_⟩, fun e => ?_⟩
      · obtain rfl : y = E r := by simpa using hy
        obtain ⟨j, hj, rfl⟩ := (h2 x).1 hx
        have g1 := h j (r - 1) (by omega) (by omega)
        have g2 := h (r - 1) r (by omega) (by omega)
        have g3 : ¬ E r = E (r - 1) := fun e => hc ⟨by omega, e⟩
        have g4 : ¬ ((E r).a = (E (r - 1)).a ∧ (E r).b = (E (r - 1)).b) := fun e => g3 (ed_ext e.1 e.2)
        unfold leEd ltEd at *
        omega
      · rw [List.mem_append, h2]
        simp only [List.mem_singleton]
        constructor
        · rintro (⟨j, hj, he⟩ | he)
          · exact ⟨j, by omega, he⟩
          · exact ⟨r, by omega, he⟩
        · rintro ⟨j, hj, he⟩
          rcases Nat.lt_or_ge j r with h3 | h3
          · exact .inl ⟨j, h3, he⟩
          · obtain rfl : j = r := by omega
            exact .inr he
theorem sortE_le (L : List Ed) : (sortE L).Pairwise leEd := by
  have := List.pairwise_mergeSort (le := fun x y => !ltOf cmpE y x) (fun x y z h1 h2 => by
    simp only [Bool.not_eq_true', ltE_no] at *; omega) (fun x y => by
    cases h : ltOf cmpE y x
    · simp
    · have := (ltE_iff y x).1 h
      have h3 : ltOf cmpE x y = false := (ltE_no x y).2 (by omega)
      simp [h3]) L
  refine this.imp fun {x y} h => ?_
  simp only [Bool.not_eq_true', ltE_no] at h
  exact h
theorem compE_sort (L : List Ed) : (compE (sortE L)).Pairwise ltEd ∧ ∀ e, e ∈ compE (sortE L) ↔ e ∈ L := by
  have h := cmpTo_strict (fun i => (sortE L)[i]!) (sortE L).length (fun i j hij hj => by
    rcases Nat.lt_or_ge i j with h1 | h1
    · rw [getElem!_pos _ i (by omega), getElem!_pos _ j hj]
      exact List.pairwise_iff_getElem.1 (sortE_le L) i j (by omega) hj h1
    · obtain rfl : i = j := by omega
      exact ltEd_irr _)
  refine ⟨h.1, fun e => (h.2 e).trans ?_⟩
  rw [← (sortE_perm L).mem_iff]
  constructor
  · rintro ⟨j, hj, rfl⟩
    rw [getElem!_pos _ j hj]
    exact List.getElem_mem hj
  · intro he
    obtain ⟨j, hj, rfl⟩ := List.getElem_of_mem he
    exact ⟨j, hj, (getElem!_pos _ j hj).symm⟩
theorem sortI_le (L : List Int) : (sortI L).Pairwise (· ≤ ·) := by
  have := List.pairwise_mergeSort (le := fun (x y : Int) => decide (x ≤ y)) (fun x y z h1 h2 => by simp only [decide_eq_true_eq] at *; omega) (fun x y => by simp only [Bool.or_eq_true, decide_eq_true_eq]; omega) L
  exact this.imp fun {x y} h => by simpa using h
theorem sortI_mem (L : List Int) (x : Int) : x ∈ sortI L ↔ x ∈ L := (sortI_perm L).mem_iff
theorem strictI {L : List Int} (h1 : L.Pairwise (· ≤ ·)) (h2 : L.Nodup) : L.Pairwise (· < ·) :=
  (h1.and h2).imp fun {a b} h => by have := h.1; have := h.2; omega
theorem sortI_strict (L : List Int) (h : L.Nodup) : (sortI L).Pairwise (· < ·) := strictI (sortI_le L) ((sortI_perm L).nodup_iff.2 h)
/-- A sum that a permutation keeps. -/
def sumL (L : List Int) : Int := L.foldr (· + ·) 0
theorem sumL_perm {A B : List Int} (h : A.Perm B) : sumL A = sumL B := by
  induction h with
  | nil => rfl
  | cons x _ ih => simp only [sumL, List.foldr_cons] at *; rw [ih]
  | swap x y l => simp only [sumL, List.foldr_cons]; omega
  | trans _ _ h1 h2 => exact h1.trans h2
/-- Three numbers in order. -/
theorem triOf_facts (x y z : Int) : (triOf x y z).a ≤ (triOf x y z).b ∧ (triOf x y z).b ≤ (triOf x y z).c ∧ [(triOf x y z).a, (triOf x y z).b, (triOf x y z).c].Perm [x, y, z] := by
  have hl : (sortI [x, y, z]).length = 3 := sortI_length _
  have hs := sortI_le [x, y, z]
  have hp := sortI_perm [x, y, z]
  obtain ⟨p, q, r, e⟩ : ∃ p q r, sortI [x, y, z] = [p, q, r] := by
    match h : sortI [x, y, z], hl with
    | [p, q, r], _ => exact ⟨p, q, r, rfl⟩
  have e0 : triOf x y z = ⟨p, q, r⟩ := by unfold triOf; rw [e]; rfl
  rw [e] at hs hp
  rw [e0]
  simp at hs
  exact ⟨hs.1.1, hs.2, hp⟩
theorem triOf_min (x y z : Int) : triOf x y z = ⟨min (min x y) z, x + y + z - min (min x y) z - max (max x y) z, max (max x y) z⟩ := by
  obtain ⟨h1, h2, hp⟩ := triOf_facts x y z
  generalize triOf x y z = t at *
  obtain ⟨p, q, r⟩ := t
  simp only at h1 h2 hp
  have hsum := sumL_perm hp
  simp only [sumL, List.foldr_cons, List.foldr_nil] at hsum
  have mp : p ∈ [x, y, z] := hp.mem_iff.1 (by simp)
  have mr : r ∈ [x, y, z] := hp.mem_iff.1 (by simp)
  have mx : x ∈ [p, q, r] := hp.mem_iff.2 (by simp)
  have my : y ∈ [p, q, r] := hp.mem_iff.2 (by simp)
  have mz : z ∈ [p, q, r] := hp.mem_iff.2 (by simp)
  simp only [List.mem_cons, List.not_mem_nil, or_false] at mp mr mx my mz
  have hp' : p = min (min x y) z := by omega
  have hr' : r = max (max x y) z := by omega
  rw [← hp', ← hr']
  congr 1
  omega
theorem triOf_strict (x y z : Int) (h1 : x ≠ y) (h2 : x ≠ z) (h3 : y ≠ z) : (triOf x y z).a < (triOf x y z).b ∧ (triOf x y z).b < (triOf x y z).c := by
  obtain ⟨g1, g2, hp⟩ := triOf_facts x y z
  have hn : [(triOf x y z).a, (triOf x y z).b, (triOf x y z).c].Nodup := hp.nodup_iff.2 (by simp [h1, h2, h3])
  simp at hn
  omega
end Go.Proofs.YtcoddcdiimpndaaGreatDoor
set_option linter.unusedVariables false
set_option linter.unusedSimpArgs false
namespace Go.Proofs.YtcoddcdiimpndaaGreatDoor
set_option maxRecDepth 100000 in
theorem nodes_count (n : Nat) (h1 : 1 ≤ n) (h8 : n ≤ 8) : (nodes n).length = 10 * (n * n) + 2 := by
  have : n = 1 ∨ n = 2 ∨ n = 3 ∨ n = 4 ∨ n = 5 ∨ n = 6 ∨ n = 7 ∨ n = 8 := by omega
  rcases this with rfl | rfl | rfl | rfl | rfl | rfl | rfl | rfl <;> decide +kernel
theorem nodes_len (m : Nat) (h1 : 1 ≤ m) (h8 : m ≤ 8) : 0 < (nodes m).length ∧ (nodes m).length ≤ 1000000 := by
  rw [nodes_count m h1 h8]
  have : m * m ≤ 8 * 8 := Nat.mul_le_mul h8 h8
  omega
end Go.Proofs.YtcoddcdiimpndaaGreatDoor
