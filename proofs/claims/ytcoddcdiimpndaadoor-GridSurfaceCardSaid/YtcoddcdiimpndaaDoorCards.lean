/-
  DERIVED. GIVEN WITH THE SEED: THE CARDS: each row of YtcoddcdiimpndaaDoorRows.lean that lists a variable, with what it lists TIED to the program's text (the seventh form; the later family's looks); each row that meets fmt, with fmt's text TOLD by the authors' own Lean function (tested against real Go, not proved from fmt's source: count such statements apart). THE CARD IS WHAT COUNTS. Prove the row's statement (the work); the ties are given (YtcoddcdiimpndaaDoorTie.lean); close each card by the builder's one call (the guide's Derived/Test/ToyasCard.lean, 'card_holds'). Laid BY PROGRAM, IN A SANDBOX (cutbox-door.mjs). By AI agents, Wed Nov 11 2026. No macro, syntax, notation, axiom, sorry.
-/
import Derived.Test.YtcoddcdiimpndaaDoorRows
import GoSem.ClaimSeven
namespace Go.Proofs.YtcoddcdiimpndaaDoor
namespace Rows

/-- THE TIED CARD OF 'synopticlaw03.GridAnswers'. -/
def gridAnswersCard : Claim7 := { stood := { row := gridAnswersRow, standIns := [], harness := (true, "6c03f6f002cd9849575def594f665ddc998e3094411c2e5aa4f9c9991c80668e"), looks := false }, kinds := [], alts := [], laidByText := true, laidKinds := [.data], laidTests := true, laidLooks := .later }
def GridAnswersCardSaid : Prop := Claim7.holds Tryd.pinned (.plain (OpenSpec.ofChange gridAnswersSpec)) gridAnswersCard

/-- THE TIED CARD OF 'synopticlaw03.GridNearest'. -/
def gridNearestCard : Claim7 := { stood := { row := gridNearestRow, standIns := [], harness := (true, "6c03f6f002cd9849575def594f665ddc998e3094411c2e5aa4f9c9991c80668e"), looks := false }, kinds := [], alts := [], laidByText := true, laidKinds := [.data], laidTests := true, laidLooks := .later }
def GridNearestCardSaid : Prop := Claim7.holds Tryd.pinned (.plain (OpenSpec.ofChange gridNearestSpec)) gridNearestCard

/-- THE TIED CARD OF 'synopticlaw03.GridSurface'. -/
def gridSurfaceCard : Claim7 := { stood := { row := gridSurfaceRow, standIns := [], harness := (true, "6c03f6f002cd9849575def594f665ddc998e3094411c2e5aa4f9c9991c80668e"), looks := false }, kinds := [], alts := [], laidByText := true, laidKinds := [.data], laidTests := true, laidLooks := .later }
def GridSurfaceCardSaid : Prop := Claim7.holds Tryd.pinned (.plain (OpenSpec.ofChange gridSurfaceSpec)) gridSurfaceCard

/-- THE SECOND FORM's CARD OF 'synopticlaw03.GridAnswers'. -/
def gridAnswersUptoCard : Claim7 := { stood := { row := gridAnswersUptoRow, standIns := [], harness := (true, "6c03f6f002cd9849575def594f665ddc998e3094411c2e5aa4f9c9991c80668e"), looks := false }, kinds := [], alts := [], laidByText := true, laidKinds := [.data], laidTests := true, laidLooks := .later }
def GridAnswersUptoCardSaid : Prop := Claim7.holds Tryd.pinned (.plain (OpenSpec.upto gridAnswersSpec)) gridAnswersUptoCard

/-- THE SECOND FORM's CARD OF 'synopticlaw03.GridNearest'. -/
def gridNearestUptoCard : Claim7 := { stood := { row := gridNearestUptoRow, standIns := [], harness := (true, "6c03f6f002cd9849575def594f665ddc998e3094411c2e5aa4f9c9991c80668e"), looks := false }, kinds := [], alts := [], laidByText := true, laidKinds := [.data], laidTests := true, laidLooks := .later }
def GridNearestUptoCardSaid : Prop := Claim7.holds Tryd.pinned (.plain (OpenSpec.upto gridNearestSpec)) gridNearestUptoCard

/-- THE SECOND FORM's CARD OF 'synopticlaw03.GridSurface'. -/
def gridSurfaceUptoCard : Claim7 := { stood := { row := gridSurfaceUptoRow, standIns := [], harness := (true, "6c03f6f002cd9849575def594f665ddc998e3094411c2e5aa4f9c9991c80668e"), looks := false }, kinds := [], alts := [], laidByText := true, laidKinds := [.data], laidTests := true, laidLooks := .later }
def GridSurfaceUptoCardSaid : Prop := Claim7.holds Tryd.pinned (.plain (OpenSpec.upto gridSurfaceSpec)) gridSurfaceUptoCard
end Rows
end Go.Proofs.YtcoddcdiimpndaaDoor
