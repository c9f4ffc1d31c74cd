/-
  DERIVED. GIVEN WITH THE SEED: THE CARDS: each row of YtcibdpbblleafaaGreatDoorRows.lean that lists a variable, with what it lists TIED to the program's text (the seventh form; the later family's looks); each row that meets fmt, with fmt's text TOLD by the authors' own Lean function (tested against real Go, not proved from fmt's source: count such statements apart). THE CARD IS WHAT COUNTS. Prove the row's statement (the work); the ties are given (YtcibdpbblleafaaGreatDoorTie.lean); close each card by the builder's one call (the guide's Derived/Test/ToyasCard.lean, 'card_holds'). Laid BY PROGRAM, IN A SANDBOX (cutbox-door.mjs). By AI agents, Wed Nov 11 2026. No macro, syntax, notation, axiom, sorry.
-/
import Derived.Test.YtcibdpbblleafaaGreatDoorRows
import GoSem.ClaimSeven
namespace Go.Proofs.YtcibdpbblleafaaGreatDoor
namespace Rows

/-- THE TIED CARD OF 'gaolerlaw23.TimeSliceFrame'. -/
def timeSliceFrameCard : Claim7 := { stood := { row := timeSliceFrameRow, standIns := [], harness := (true, "3d4e46569ae7bf553e54d5cf325ff3a8942a3a03700f8ab54e5013f4e726b00a"), looks := false }, kinds := [], alts := [], laidByText := true, laidKinds := [.data, .data, .data], laidTests := true, laidLooks := .later }
def TimeSliceFrameCardSaid : Prop := Claim7.holds Tryz.pinned (.plain (OpenSpec.ofChange timeSliceFrameSpec)) timeSliceFrameCard

/-- THE SECOND FORM's CARD OF 'gaolerlaw23.TimeSliceFrame'. -/
def timeSliceFrameUptoCard : Claim7 := { stood := { row := timeSliceFrameUptoRow, standIns := [], harness := (true, "3d4e46569ae7bf553e54d5cf325ff3a8942a3a03700f8ab54e5013f4e726b00a"), looks := false }, kinds := [], alts := [], laidByText := true, laidKinds := [.data, .data, .data], laidTests := true, laidLooks := .later }
def TimeSliceFrameUptoCardSaid : Prop := Claim7.holds Tryz.pinned (.plain (OpenSpec.upto timeSliceFrameSpec)) timeSliceFrameUptoCard
end Rows
end Go.Proofs.YtcibdpbblleafaaGreatDoor
