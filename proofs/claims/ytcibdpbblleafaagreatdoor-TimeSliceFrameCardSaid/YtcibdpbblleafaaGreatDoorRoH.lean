/-
  The card of 'gaolerlaw23.TimeSliceFrame': for every input the law returns true and its input reads as it did.
  Conditions: the three listed variables of the program start as the program's text lays them (tied to that text by the given tie); the row's other cells as its printed sentence says.
-/
import Derived.Test.YtcibdpbblleafaaGreatDoorRoG
import Derived.Test.YtcibdpbblleafaaGreatDoorCards
import Derived.Test.YtcibdpbblleafaaGreatDoorTie
import Derived.SevenTiedAt
namespace Go.Proofs.YtcibdpbblleafaaGreatDoor
open Go Go.Sx
set_option maxRecDepth 100000

theorem timeSliceFrame_card_holds : Rows.TimeSliceFrameCardSaid :=
  Claim7.holds_tied_plain_at .later [] [.data, .data, .data] true (true, "3d4e46569ae7bf553e54d5cf325ff3a8942a3a03700f8ab54e5013f4e726b00a") false
    row_holds (fun _ h => by cases h) (by kernel_rfl) (fun _ h => by cases h) timeSliceFrame_row_tie rfl ⟨rfl, rfl⟩ (by kernel_rfl) rfl
    (fun f fn hf hfn => by
      obtain rfl : f = 3 := Option.some.inj ((show Pg.funcNamed "gaoler/gaolerlaw23.TimeSliceFrame" = some 3 by kernel_rfl).symm.trans hf) |>.symm
      obtain rfl : fn = F3 := (Option.some.inj (func3.symm.trans hfn)).symm
      exact ⟨by kernel_rfl, fun j t ht => by
        rw [params3] at ht
        have hm : t ∈ [30, 33, 35, 3] := by simpa using Array.mem_of_getElem? ht
        have hall : ([30, 33, 35, 3].all fun u => !Pg.wantsStandIn u) = true := by kernel_rfl
        exact (show Pg.wantsStandIn t = false by simpa using List.all_eq_true.1 hall t hm)⟩)
    (by kernel_rfl)
#print axioms timeSliceFrame_card_holds
end Go.Proofs.YtcibdpbblleafaaGreatDoor
