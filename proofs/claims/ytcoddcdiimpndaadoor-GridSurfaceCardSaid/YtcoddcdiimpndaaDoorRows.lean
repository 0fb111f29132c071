/-
  NARROWER THAN 'FOR EVERY INPUT', by the rows' own cells (each row's printed sentence says how): GridAnswers: laid · GridNearest: laid · GridSurface: laid.
  DERIVED. THE GIVEN ROWS OF THIS SEAT. 3 by the template 'for every input the law returns true; each argument reads behind the call as it read before'; 0 by the template 'total and deterministic' (their statements: YtcoddcdiimpndaaDoorTotals.lean).
  GIVEN WITH THE SEED: the statements are not yours to turn. If you find one false, say at which input.
  Laid BY PROGRAM, IN A SANDBOX (cutbox-rows.mjs): the forced cells as the released guide's own fill.sh prints them over the translation 418a5c46cffb6f52… (all of the seat's roots in one cut). By AI agents, Wed Nov 11 2026. No macro, syntax, notation, axiom, sorry.
-/
import Derived.Test.YtcoddcdiimpndaaDoorChecked
import GoSem.Claim
import GoSem.ClaimJoined
import GoSem.ClaimMapViews
import Derived.JoinedTies
import Derived.KernelRfl
namespace Go.Proofs.YtcoddcdiimpndaaDoor
/- THE CELL 'sum', in the pinned program and in every row, IS THE sha256 OF THE DUMP (.gsa) THAT YtcoddcdiimpndaaDoorProg.lean LOADS. Nothing in Lean hashes anything: it is a label: what it is worth is what the hold of that sum in a sandbox is worth. -/
noncomputable def Tryd.pinned : Pinned := { name := "ytcoddcdiimpndaadoor", sum := "418a5c46cffb6f5241d4e7fc6a7d59953c2100c6a01cbde36cbbedfb53a2e122", checked := Tryd.checked }
namespace Rows
def none {H : Type} : Left H := { results := [], args := [] }

/- WHAT THE LISTED PACKAGE-LEVEL VARIABLES READ AS WHEN THE CALL BEGINS. Each datum BY PROGRAM (the guide's laid-datum.mjs) off the statement by which the dump's own 'gosem.cut.vars' lays the variable. In a bare row this is a premise. The card (YtcoddcdiimpndaaDoorCards.lean) ties it to the program's text. -/
def laid_synoptic_place_corners {H : Type} : DataW H := .agg [.agg [.lit (.int .i64 0), .lit (.int .i64 1), .lit (.int .i64 2)], .agg [.lit (.int .i64 0), .lit (.int .i64 2), .lit (.int .i64 3)], .agg [.lit (.int .i64 0), .lit (.int .i64 3), .lit (.int .i64 4)], .agg [.lit (.int .i64 0), .lit (.int .i64 4), .lit (.int .i64 5)], .agg [.lit (.int .i64 0), .lit (.int .i64 5), .lit (.int .i64 1)], .agg [.lit (.int .i64 1), .lit (.int .i64 6), .lit (.int .i64 2)], .agg [.lit (.int .i64 2), .lit (.int .i64 7), .lit (.int .i64 3)], .agg [.lit (.int .i64 3), .lit (.int .i64 8), .lit (.int .i64 4)], .agg [.lit (.int .i64 4), .lit (.int .i64 9), .lit (.int .i64 5)], .agg [.lit (.int .i64 5), .lit (.int .i64 10), .lit (.int .i64 1)], .agg [.lit (.int .i64 6), .lit (.int .i64 7), .lit (.int .i64 2)], .agg [.lit (.int .i64 7), .lit (.int .i64 8), .lit (.int .i64 3)], .agg [.lit (.int .i64 8), .lit (.int .i64 9), .lit (.int .i64 4)], .agg [.lit (.int .i64 9), .lit (.int .i64 10), .lit (.int .i64 5)], .agg [.lit (.int .i64 10), .lit (.int .i64 6), .lit (.int .i64 1)], .agg [.lit (.int .i64 11), .lit (.int .i64 7), .lit (.int .i64 6)], .agg [.lit (.int .i64 11), .lit (.int .i64 8), .lit (.int .i64 7)], .agg [.lit (.int .i64 11), .lit (.int .i64 9), .lit (.int .i64 8)], .agg [.lit (.int .i64 11), .lit (.int .i64 10), .lit (.int .i64 9)], .agg [.lit (.int .i64 11), .lit (.int .i64 6), .lit (.int .i64 10)]]

/-- 'synopticlaw03.GridAnswers': WHATEVER THE INPUT: true; the input reads as it did. -/
def gridAnswersSpec : ChangeSpec := { name := "gridAnswers", fn := fun _ => fun
  | [d1, d2, d3] => { results := [.lit (.bool true)], args := [d1, d2, d3] }
  | _ => none }
def gridAnswersRow : OpenClaim := { program := "ytcoddcdiimpndaadoor", sum := "418a5c46cffb6f5241d4e7fc6a7d59953c2100c6a01cbde36cbbedfb53a2e122", func := "synoptic/synopticlaw03.GridAnswers", spec := "gridAnswers", unfollowed := true, recurses := true, named := ["synoptic/place.corners"], plainKeys := false, apart := false, laid := [("synoptic/place.corners", laid_synoptic_place_corners)] }
def GridAnswersSaid : Prop := gridAnswersRow.holds Tryd.pinned (OpenSpec.ofChange gridAnswersSpec)

/-- ITS FALSE NEIGHBOUR: 'it returns false'. Refute it at one input. -/
def gridAnswersWrong : ChangeSpec := { name := "gridAnswers", fn := fun _ => fun
  | [d1, d2, d3] => { results := [.lit (.bool false)], args := [d1, d2, d3] }
  | _ => none }
def GridAnswersWrongFalsely : Prop := gridAnswersRow.holds Tryd.pinned (OpenSpec.ofChange gridAnswersWrong)

/-- 'synopticlaw03.GridNearest': WHATEVER THE INPUT: true; the input reads as it did. -/
def gridNearestSpec : ChangeSpec := { name := "gridNearest", fn := fun _ => fun
  | [d] => { results := [.lit (.bool true)], args := [d] }
  | _ => none }
def gridNearestRow : OpenClaim := { program := "ytcoddcdiimpndaadoor", sum := "418a5c46cffb6f5241d4e7fc6a7d59953c2100c6a01cbde36cbbedfb53a2e122", func := "synoptic/synopticlaw03.GridNearest", spec := "gridNearest", unfollowed := true, recurses := true, named := ["synoptic/place.corners"], plainKeys := false, apart := false, laid := [("synoptic/place.corners", laid_synoptic_place_corners)] }
def GridNearestSaid : Prop := gridNearestRow.holds Tryd.pinned (OpenSpec.ofChange gridNearestSpec)

/-- ITS FALSE NEIGHBOUR: 'it returns false'. Refute it at one input. -/
def gridNearestWrong : ChangeSpec := { name := "gridNearest", fn := fun _ => fun
  | [d] => { results := [.lit (.bool false)], args := [d] }
  | _ => none }
def GridNearestWrongFalsely : Prop := gridNearestRow.holds Tryd.pinned (OpenSpec.ofChange gridNearestWrong)

/-- 'synopticlaw03.GridSurface': WHATEVER THE INPUT: true; the input reads as it did. -/
def gridSurfaceSpec : ChangeSpec := { name := "gridSurface", fn := fun _ => fun
  | [d] => { results := [.lit (.bool true)], args := [d] }
  | _ => none }
def gridSurfaceRow : OpenClaim := { program := "ytcoddcdiimpndaadoor", sum := "418a5c46cffb6f5241d4e7fc6a7d59953c2100c6a01cbde36cbbedfb53a2e122", func := "synoptic/synopticlaw03.GridSurface", spec := "gridSurface", unfollowed := true, recurses := true, named := ["synoptic/place.corners"], plainKeys := false, apart := false, laid := [("synoptic/place.corners", laid_synoptic_place_corners)] }
def GridSurfaceSaid : Prop := gridSurfaceRow.holds Tryd.pinned (OpenSpec.ofChange gridSurfaceSpec)

/-- ITS FALSE NEIGHBOUR: 'it returns false'. Refute it at one input. -/
def gridSurfaceWrong : ChangeSpec := { name := "gridSurface", fn := fun _ => fun
  | [d] => { results := [.lit (.bool false)], args := [d] }
  | _ => none }
def GridSurfaceWrongFalsely : Prop := gridSurfaceRow.holds Tryd.pinned (OpenSpec.ofChange gridSurfaceWrong)

/- THE SECOND FORM. 'bulk': how many values and letters a reading holds, each counted each time it is reached (what is shared counts as often as it is met; a slice's spare places count too). A statement '..UptoSaid' is the law's where the arguments, and the package variables that the reading takes, are together of bulk at most 1048576: NARROWER than '..Said'. Prove '..Said' where nothing that the law and all that it calls make is longer than what came in: it says more and counts as full. Else prove '..UptoSaid'. A law counts once. -/
mutual
def uptoBulk {H : Type} : DataW H → Nat
  | .lit (.string bytes) => bytes.length + 1
  | .lit _ => 1
  | .nil => 1
  | .ptr d => uptoBulk d + 1
  | .slice elems spare => uptoBulkAll elems + uptoBulkAll spare + 1
  | .agg parts => uptoBulkAll parts + 1
  | .iface _ d => uptoBulk d + 1
  | .map entries => uptoBulkEntries entries + 1
  | .held _ => 1
def uptoBulkAll {H : Type} : List (DataW H) → Nat
  | [] => 0
  | d :: r => uptoBulk d + uptoBulkAll r
def uptoBulkEntries {H : Type} : List (Lit × DataW H) → Nat
  | [] => 0
  | x :: r => uptoBulkEntry x + uptoBulkEntries r
def uptoBulkEntry {H : Type} : Lit × DataW H → Nat
  | (.string bytes, d) => bytes.length + uptoBulk d + 1
  | (_, d) => uptoBulk d + 1
 end
def uptoSmall : (H : Type) → List (DataW H) → Bool := fun _ ds => decide (uptoBulkAll ds ≤ 1048576)
def OpenSpec.upto (s : _root_.Go.ChangeSpec) : _root_.Go.OpenSpec := { _root_.Go.OpenSpec.ofChange s with cond := some uptoSmall }

/-- 'synopticlaw03.GridAnswers', WHERE WHAT IT READS IS OF BULK AT MOST 1048576: true; the input reads as it did. -/
def gridAnswersUptoRow : OpenClaim := { program := "ytcoddcdiimpndaadoor", sum := "418a5c46cffb6f5241d4e7fc6a7d59953c2100c6a01cbde36cbbedfb53a2e122", func := "synoptic/synopticlaw03.GridAnswers", spec := "gridAnswers", unfollowed := true, recurses := true, named := ["synoptic/place.corners"], plainKeys := false, apart := false, laid := [("synoptic/place.corners", laid_synoptic_place_corners)], narrowed := true }
def GridAnswersUptoSaid : Prop := gridAnswersUptoRow.holds Tryd.pinned (OpenSpec.upto gridAnswersSpec)

/-- 'synopticlaw03.GridNearest', WHERE WHAT IT READS IS OF BULK AT MOST 1048576: true; the input reads as it did. -/
def gridNearestUptoRow : OpenClaim := { program := "ytcoddcdiimpndaadoor", sum := "418a5c46cffb6f5241d4e7fc6a7d59953c2100c6a01cbde36cbbedfb53a2e122", func := "synoptic/synopticlaw03.GridNearest", spec := "gridNearest", unfollowed := true, recurses := true, named := ["synoptic/place.corners"], plainKeys := false, apart := false, laid := [("synoptic/place.corners", laid_synoptic_place_corners)], narrowed := true }
def GridNearestUptoSaid : Prop := gridNearestUptoRow.holds Tryd.pinned (OpenSpec.upto gridNearestSpec)

/-- 'synopticlaw03.GridSurface', WHERE WHAT IT READS IS OF BULK AT MOST 1048576: true; the input reads as it did. -/
def gridSurfaceUptoRow : OpenClaim := { program := "ytcoddcdiimpndaadoor", sum := "418a5c46cffb6f5241d4e7fc6a7d59953c2100c6a01cbde36cbbedfb53a2e122", func := "synoptic/synopticlaw03.GridSurface", spec := "gridSurface", unfollowed := true, recurses := true, named := ["synoptic/place.corners"], plainKeys := false, apart := false, laid := [("synoptic/place.corners", laid_synoptic_place_corners)], narrowed := true }
def GridSurfaceUptoSaid : Prop := gridSurfaceUptoRow.holds Tryd.pinned (OpenSpec.upto gridSurfaceSpec)

end Rows
end Go.Proofs.YtcoddcdiimpndaaDoor
