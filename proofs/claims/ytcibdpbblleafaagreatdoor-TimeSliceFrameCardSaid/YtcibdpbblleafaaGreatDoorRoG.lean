/-
  The row, last part: the given row holds.
  Conditions: as the row's own sentence says.
-/
import Derived.Test.YtcibdpbblleafaaGreatDoorRoX
import Derived.Lay
namespace Go.Proofs.YtcibdpbblleafaaGreatDoor
open Go Go.Sx Go.RowKit Go.ChangeShapes
set_option maxRecDepth 100000

noncomputable def F3 : Func := fnOf 3
theorem func3 : Pg.funcs[3]? = some F3 := (fn_at (g := 3) (by kernel_rfl)).1
theorem params3 : F3.params = #[30, 33, 35, 3] := by kernel_rfl
theorem results3 : F3.resultTypes = #[4] := by kernel_rfl
theorem own : ownKnob Pg.godebug = none := by kernel_rfl

theorem facts : Facts Pg :=
  { ev := ⟨by kernel_rfl, by kernel_rfl, by kernel_rfl, by kernel_rfl, by kernel_rfl, by kernel_rfl, by kernel_rfl⟩
    out := by kernel_rfl
    u3 := by kernel_rfl
    u4 := by kernel_rfl
    r30 := by kernel_rfl
    r33 := by kernel_rfl
    r35 := by kernel_rfl
    size := of_decide_eq_true (by kernel_rfl)
    f30 := by kernel_rfl
    f33 := by kernel_rfl
    f35 := by kernel_rfl
    c30 := by kernel_rfl
    c33 := by kernel_rfl
    c35 := by kernel_rfl
    n30 := by kernel_rfl
    n33 := by kernel_rfl
    n35 := by kernel_rfl
    k30 := by kernel_rfl
    k33 := by kernel_rfl
    k35 := by kernel_rfl }

/-- Arguments at which the condition is met. -/
def zeroM : Array Value := (List.replicate 29 (Value.int .u32 0) ++ [Value.slice none 0 0, Value.int .u64 0, Value.slice none 0 0, Value.bool false]).toArray
def zeroV : Array Value := (List.replicate 29 (Value.int .u32 0) ++ [Value.slice none 0 0, Value.bool false, Value.int .i64 0, Value.slice none 0 0]).toArray
def zeroArgs : Array Value := #[.agg zeroM, .agg zeroV, .agg #[.int .u32 0, .int .u32 0], .int .i64 0]

theorem lifted (os : Os) (started : os.Started) (H : Type) (enc : TypeId × Value → H) :
    ReturnsInHanded {} Tryz.checked os 3 .any (fun w args => (theSpec.pre enc Pg F3 [] false w args ∧ laidMetH Pg laid3 w) ∧ sizedMet enc Pg F3 (OpenSpec.ofChange theSpec) false w args)
      (theSpec.post enc Pg F3 false true false false) := by
  refine returnsInHanded_of_change_and (C := Tryz.checked) (X := fun w _ => laidMetH Pg laid3 w) (fun _ _ _ hh h => h.of_heap hh) own started (by kernel_rfl) func3
    (ChangeSpec.witness_shaped (enc := enc) (C := Tryz.checked) (os := os) (X := fun w _ => laidMetH Pg laid3 w) false (World.laidAll Pg os laid3) zeroArgs 8 (World.laidAll_os _ _ _)
      (World.shaped_of_ZipB (by kernel_rfl) (by kernel_rfl)) (by kernel_rfl) (by kernel_rfl) (by kernel_rfl)
      (by rw [MakeChecks.laidMetH_plain _ _ _ (by kernel_rfl)]; exact laidMet_laidAll _ (by kernel_rfl) (by kernel_rfl))) ?_
  intro W base args ds gs before hval hW _ hz hL _
  exact contract facts params3 results3 hval hW hz fun x vs hr => law_run (glob_ok hL) hr

theorem row_holds : Rows.TimeSliceFrameSaid :=
  OpenClaim.holds_of_wide 3 F3 rfl rfl rfl rfl rfl rfl rfl ⟨rfl, rfl, rfl, rfl, rfl⟩ rfl rfl rfl rfl rfl (by kernel_rfl) func3 (by kernel_rfl)
    (of_decide_eq_true (by kernel_rfl)) (by unfold Func.isWrapper; first | (rw [if_pos (by decide +kernel)]; kernel_rfl) | (rw [if_neg (by decide +kernel)]; exact ⟨rfl, rfl⟩))
    (fun os started H enc _ => lifted os started H enc)
#print axioms row_holds
end Go.Proofs.YtcibdpbblleafaaGreatDoor
