/-
  Arithmetic and branches of the instruction set, as plain Lean functions; their summaries.
  Conditions: none; each summary holds of the program's function.
-/
import Derived.Test.YtcibdpbblleafaaGreatDoorMoG
namespace Go.Sx
open Go Go.RowKit Tree

def ltS (x y : Int) : Bool := decide (IntKind.i32.wrap x < IntKind.i32.wrap y)
def evalM (op x y : Int) : Int :=
  bif op == 1 then IntKind.u32.wrap (x + y) else bif op == 2 then IntKind.u32.wrap (x - y) else bif op == 3 then band .u32 x y else bif op == 4 then bor .u32 x y else
  bif op == 5 then bxor .u32 x y else bif op == 6 then (bif ltS x y then 1 else 0) else bif op == 7 then shlI .u32 x (band .u32 y 31) else bif op == 8 then shrI .u32 x (band .u32 y 31) else 0
def takenM (op x y : Int) : Bool := bif op == 15 then x == y else bif op == 16 then x != y else bif op == 17 then ltS x y else false
def S110 : Summ := mkSumm [(tInt .i64).sig, (tInt .u32).sig, (tInt .u32).sig] (sp3 (tInt .i64) (tInt .u32) (tInt .u32) fun o x y => ([], [(tInt .u32).arg (evalM o x y)]))
def S108 : Summ := mkSumm [(tInt .i64).sig, (tInt .u32).sig, (tInt .u32).sig] (sp3 (tInt .i64) (tInt .u32) (tInt .u32) fun o x y => ([], [tBool.arg (takenM o x y)]))
abbrev intT (v : Int) : Tree (Option (List Arg)) := leaf (some [(tInt .u32).arg v])
theorem t110 (op x y : Int) : rf [] 110 [(tInt .i64).arg op, (tInt .u32).arg x, (tInt .u32).arg y] [(tInt .u32).sig] =
    br (op == 1) (intT (IntKind.u32.wrap (x + y))) (br (op == 2) (intT (IntKind.u32.wrap (x - y))) (br (op == 3) (intT (band .u32 x y)) (br (op == 4) (intT (bor .u32 x y)) (br (op == 5) (intT (bxor .u32 x y))
      (br (op == 6) (br (ltS x y) (intT 1) (intT 0)) (br (op == 7) (need (decide (0 ≤ band .u32 y 31)) (intT (shlI .u32 x (band .u32 y 31))))
        (br (op == 8) (need (decide (0 ≤ band .u32 y 31)) (intT (shrI .u32 x (band .u32 y 31)))) (intT 0)))))))) := by kernel_rfl
theorem band_pos (x y : Int) : decide (0 ≤ band .u32 x y) = true := by
  have := (wrap_InR .u32 ((BitVec.ofInt IntKind.u32.bits x &&& BitVec.ofInt IntKind.u32.bits y).toNat : Int)).1
  simp only [IntKind.min, IntKind.signed] at this
  simpa [band] using this
theorem h110 (op x y : Int) (_ : OkAs [(tInt .i64).arg op, (tInt .u32).arg x, (tInt .u32).arg y]) (_ : AllT []) :
    Says (rf [] 110 [(tInt .i64).arg op, (tInt .u32).arg x, (tInt .u32).arg y] [(tInt .u32).sig]) (· = some [(tInt .u32).arg (evalM op x y)]) := ⟨by
  rw [t110]
  refine ⟨fun h1 => ?_, fun h1 => ⟨fun h2 => ?_, fun h2 => ⟨fun h3 => ?_, fun h3 => ⟨fun h4 => ?_, fun h4 => ⟨fun h5 => ?_, fun h5 => ⟨fun h6 => ⟨fun h => ?_, fun h => ?_⟩, fun h6 => ⟨fun h7 => ⟨band_pos _ _, ?_⟩, fun h7 => ⟨fun h8 => ⟨band_pos _ _, ?_⟩, fun h8 => ?_⟩⟩⟩⟩⟩⟩⟩⟩
  all_goals show _ = _
  all_goals simp only [evalM, *, cond_true, cond_false]⟩
theorem o110 (B : Base) : SummOk tcx 110 S110 := summ3 B Good.nil h110 (by kernel_rfl)
abbrev boolT (b : Bool) : Tree (Option (List Arg)) := leaf (some [tBool.arg b])
theorem t108 (op x y : Int) : rf [] 108 [(tInt .i64).arg op, (tInt .u32).arg x, (tInt .u32).arg y] [tBool.sig] =
    br (op == 15) (boolT (x == y)) (br (op == 16) (boolT (x != y)) (br (op == 17) (boolT (ltS x y)) (boolT false))) := by kernel_rfl
theorem h108 (op x y : Int) (_ : OkAs [(tInt .i64).arg op, (tInt .u32).arg x, (tInt .u32).arg y]) (_ : AllT []) :
    Says (rf [] 108 [(tInt .i64).arg op, (tInt .u32).arg x, (tInt .u32).arg y] [tBool.sig]) (· = some [tBool.arg (takenM op x y)]) := ⟨by
  rw [t108]
  refine ⟨fun h1 => ?_, fun h1 => ⟨fun h2 => ?_, fun h2 => ⟨fun h3 => ?_, fun h3 => ?_⟩⟩⟩
  all_goals show _ = _
  all_goals simp only [takenM, *, cond_true, cond_false]⟩
theorem o108 (B : Base) : SummOk tcx 108 S108 := summ3 B Good.nil h108 (by kernel_rfl)
end Go.Sx
