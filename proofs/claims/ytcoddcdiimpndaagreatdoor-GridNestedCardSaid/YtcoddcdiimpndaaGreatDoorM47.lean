/-
  From the row's condition to what the walks ask; the row's last step.
-/
import Derived.Test.YtcoddcdiimpndaaGreatDoorRows
import Derived.Test.YtcoddcdiimpndaaGreatDoorM01
import Derived.Test.YtcoddcdiimpndaaGreatDoorM41
import Derived.ProofKit
import Derived.LaidMore
import Derived.OpenShut
import Derived.Stop.Joined
import Derived.Carry
import Derived.WideKeyArgs
import Derived.Lib.LaidTab
import Derived.Lib.SmallJoins
set_option linter.unusedVariables false
set_option linter.unusedSimpArgs false
namespace Go.Proofs.YtcoddcdiimpndaaGreatDoor
open Go.ChangeShapes Go.WideShapes Go.ChangeAt Go.WideMaps Go.WideElems Go.RowKit
theorem own : ownKnob Tryz.prog.godebug = none := by kernel_rfl
theorem laidOut : laidOutB Tryz.prog = true := by kernel_rfl
theorem gCorners : Tryz.prog.globalNamed "synoptic/place.corners" = some 0 := by kernel_rfl
theorem tCorners : (Tryz.prog.globals[0]?).map (·.type) = some 167 := by kernel_rfl
def laid1 : List (String × DataW Unit) := [("synoptic/place.corners", Rows.laid_synoptic_place_corners)]
/-- The door's own heap meets the condition. -/
theorem door_met (os : Os) (args : Array Value) : laidMetH Tryz.prog laid1 ((World.doorLaid Tryz.prog 400 os).forCall (fun _ _ => 0) ⟨#[], args, []⟩).memory :=
  laidMetH_of_parts3 (fuel := 8) (laidMet_of_run' 8 (by kernel_rfl) (by kernel_rfl)) (by kernel_rfl) (by kernel_rfl)
/-- A row of the table. -/
def rowD (i : Nat) : DataW Unit := Lib.tabData .i64 [(cor i 0 : Nat), (cor i 1 : Nat), (cor i 2 : Nat)]
theorem laid_rows : (Rows.laid_synoptic_place_corners : DataW Unit) = .agg ((List.range 20).map rowD) := by kernel_rfl
theorem cells3 : Tryz.prog.cellsOf 97 = 3 := by kernel_rfl
theorem nCellsI : Tryz.prog.cellsOf 3 = 1 := by kernel_rfl
/-- What the condition gives the walks. -/
theorem of_laid {W : World} (h : laidMetH Tryz.prog laid1 W) : TabOk W := by
  rw [MakeChecks.laidMetH_plain _ _ _ (by kernel_rfl)] at h
  obtain ⟨ps, ⟨g0, t0, cs0, f0, p0, q0, hg0, ht0, hv0, hd0, _, _⟩, _, _⟩ := h
  obtain rfl := Option.some.inj (gCorners.symm.trans hg0)
  obtain rfl := Option.some.inj (tCorners.symm.trans ht0)
  obtain ⟨xs, m1, rfl, hx1, hlen, hn, hel⟩ := DataW.trod_array Tryz.underlying167 hd0
  simp only [Prod.mk.injEq] at hx1
  obtain ⟨hx1, _⟩ := hx1
  rw [laid_rows] at hx1
  injection hx1 with hx1
  rw [cells3] at hel
  have key : ∀ i r, i < 20 → r < 3 → cs0[i * 3 + r]? = some (.int .i64 (cor i r : Nat)) := by
    intro i r hi hr
    have hrow := hel i hi
    have hxi : (xs.map (·.1))[i]? = some (rowD i) := by
      rw [← hx1, List.getElem?_map, List.getElem?_range hi]
      rfl
    rw [List.getElem?_map] at hxi
    obtain ⟨y, hy, hy1⟩ := Option.map_eq_some_iff.1 hxi
    rw [hy] at hrow
    obtain ⟨y1, y2⟩ := y
    simp only at hy1
    subst hy1
    have hc := Lib.cells_of_tab Tryz.underlying97 Tryz.underlying3 nCellsI cells3 hrow
    have h3 : ((cs0.toList.drop (i * 3)).take 3)[r]? = some (.int .i64 (cor i r : Nat)) := by
      rw [hc]
      have : r = 0 ∨ r = 1 ∨ r = 2 := by omega
      rcases this with rfl | rfl | rfl <;> rfl
    rw [List.getElem?_take, if_pos hr, List.getElem?_drop] at h3
    simpa using h3
  have hpos : 0 < W.heap.size := by
    have h0 := World.var?_cell hg0 hv0 0
    have k0 := key 0 0 (by omega) (by omega)
    rw [Nat.zero_mul, Nat.zero_add] at k0
    rcases Nat.eq_zero_or_pos W.heap.size with e | e
    · rw [k0] at h0
      simp [World.cell?, Array.getElem?_eq_none (Nat.le_of_eq e)] at h0
    · exact e
  refine ⟨hpos, fun j hj => ?_⟩
  have := key (j / 3) (j % 3) (by omega) (Nat.mod_lt _ (by omega))
  rw [show j / 3 * 3 + j % 3 = j from by omega] at this
  rw [World.var?_cell hg0 hv0 j, this]
  unfold cor
  rw [show 3 * (j / 3) + j % 3 = j from by omega]
section
variable {H : Type} {enc : TypeId × Value → H} {P : Program}
theorem post_of_below {f : Func} {s : ChangeSpec} {apart fresh handsOn again : Bool} {W W' : World} {args : Array Value} {v : Value} {ds gs : List (DataW H)} {before pa pv : List MemPlace}
    (hW : DataW.Whole enc P f.params.toList s.vars apart W args.toList ds gs before)
    (hres : ∀ (b : Nat) (sp : Nat → Bool) (hd : Bool), DataW.TrodAll enc P W' b sp hd f.resultTypes.toList (v.resultList f.resultTypes.size) (s.fn H (ds ++ gs)).results [])
    (hargs : ∀ sp : Nat → Bool, (∀ p ∈ before, sp p.block = true) → DataW.TrodAll enc P W' 0 sp true f.params.toList args.toList (s.fn H (ds ++ gs)).args pa)
    (hvars : ∀ sp : Nat → Bool, (∀ p ∈ before, sp p.block = true) → DataW.TrodVars enc P W' sp s.vars (s.fn H (ds ++ gs)).vars pv)
    (hps : before = pa ++ pv) (hb : Below W.heap.size W W')
    (hok : ∀ (j : Nat) (t : TypeId) (r : Value), f.resultTypes[j]? = some t → (v.resultList f.resultTypes.size)[j]? = some r → Value.okWide P W' .any 0 t r) :
    s.post enc P f apart fresh handsOn again W args v W' := by
  have hlt : ∀ p ∈ before, p.block < W.heap.size := fun p hp => hW.lt p hp
  have hold : ∀ p ∈ before, (fun b => decide (b < W.heap.size)) p.block = true := fun p hp => by simpa using hlt p hp
  refine ⟨ds, gs, before, [], pa, pv, hW, hres _ _ _, hargs _ hold, hvars _ hold, World.keptBut_mono (fun p hp => ⟨hp, ?_⟩) (hb.frame (· ∈ before)), fun _ => ?_⟩
  · rw [hps, List.mem_append] at hp
    exact Or.inr hp
  · obtain ⟨_, _, _, _, _, hz, hn⟩ := hW
    refine ⟨hok, _, _, ([] ++ pa) ++ pv, ⟨[] ++ pa, pv, trodAll_append (hargs _ (fun _ _ => rfl)) (hres _ _ _), hvars _ (fun _ _ => rfl), rfl, ?_, ?_⟩, ?_⟩
    · intro b off hp
      have hin : MemPlace.cell b off ∈ before := by rw [hps]; simpa using hp
      rw [hb.frozen (hlt _ hin)]
      exact hz b off hin
    · intro ha
      have := hn ha
      rw [hps] at this
      simpa using this
    · intro p hp _
      rw [hps]
      simpa using hp
theorem trodAll_stays (hl : laidOutB P = true) {W W' : World} {sp : Nat → Bool} : ∀ {ts : List TypeId} {vs : List Value} {ds : List (DataW H)} {ps : List MemPlace},
    (∀ t ∈ ts, P.readableRec t = true ∧ t < P.types.size) → DataW.TrodAll enc P W 0 (fun _ => true) true ts vs ds ps → (∀ p ∈ ps, W.sameAt W' p) → (∀ p ∈ ps, sp p.block = true) → DataW.TrodAll enc P W' 0 sp true ts vs ds ps
  | [], _, _, _, _, h, _, _ => by
    obtain ⟨rfl, rfl, rfl⟩ := trodAll_nil h
    exact rfl
  | t :: ts, _, _, _, hr, h, hs, hp => by
    obtain ⟨v, vs1, d, ds1, a, b, rfl, rfl, rfl, h1, h2⟩ := trodAll_cons h
    exact ⟨a, b, Trod_stays hl (hr t (by simp)).1 (hr t (by simp)).2 h1 (fun p hp' => hs p (List.mem_append_left _ hp')) (fun p hp' => hp p (List.mem_append_left _ hp')), trodAll_stays hl (fun u hu => hr u (List.mem_cons_of_mem _ hu)) h2 (fun p hp' => hs p (List.mem_append_right _ hp')) (fun p hp' => hp p (List.mem_append_right _ hp')), rfl⟩
end
set_option maxRecDepth 100000 in
/-- An argument that is a list of numbers. -/
theorem ints_of_trod {H : Type} {enc : TypeId × Value → H} {W : World} {r : Reach} {base : Nat} {v : Value} {d : DataW H} {p : List MemPlace} (hval : Value.okWide Tryz.prog W r base 23 v) (h : DataW.Trod enc Tryz.prog W 0 (fun _ => true) true 23 v d p) : IntsArg W v := by
  obtain ⟨a0, len, cap, rfl⟩ := okWide_slice Tryz.underlying23 hval
  obtain ⟨fuel, hf⟩ := h
  rcases open_ints Tryz.underlying23 Tryz.underlying3 nCellsI hf with ⟨hcs, hx⟩ | ⟨a, len', cap', zs, hcs, _, hl, hm, hz, hx, hcell, hwz⟩
  · simp [Value.cells] at hcs
    obtain ⟨rfl, rfl, rfl⟩ := hcs
    exact .inl rfl
  · simp [Value.cells] at hcs
    obtain ⟨rfl, rfl, rfl⟩ := hcs
    simp only [if_true] at hz
    exact .inr ⟨a, len, cap, fun i => zs.getD i 0, rfl, hl, hm, fun i hi => hcell i (by omega)⟩
end Go.Proofs.YtcoddcdiimpndaaGreatDoor
