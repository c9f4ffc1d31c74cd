/-
  The window of a guest and its alarm, as plain Lean functions; their summaries.
  Conditions: none; each summary holds of the program's function.
-/
import Derived.Test.YtcibdpbblleafaaGreatDoorMoL
namespace Go.Sx
open Go Go.RowKit Tree

def leftM (p : Part) (c : Core) : Int := IntKind.u64.wrap (IntKind.u32.wrap (p.size - (if c.csr.c5 < p.size then c.csr.c5 else p.size)))
def bndM (p : Part) (c : Core) : Int := if leftM p c < IntKind.u64.wrap c.csr.c6 then leftM p c else IntKind.u64.wrap c.csr.c6
def winX (p : Part) (c : Core) : Int × Int :=
  bif svB c then (p.base, p.size) else bif bndM p c == 0 then (0, 0) else (IntKind.u32.wrap (p.base + c.csr.c5), IntKind.u32.wrap (bndM p c))
def S33 : Summ := mkSumm [tPart.sig, tCore.sig] (sp2 tPart tCore fun p c => ([], [(tInt .u32).arg (winX p c).1, (tInt .u32).arg (winX p c).2]))
abbrev prT (a b : Int) : Tree (Option (List Arg)) := leaf (some [(tInt .u32).arg a, (tInt .u32).arg b])
theorem t33 (p : Part) (c : Core) : rf [] 33 [tPart.arg p, tCore.arg c] [(tInt .u32).sig, (tInt .u32).sig] =
    br (svB c) (prT p.base p.size) (br (bndM p c == 0) (prT 0 0) (prT (IntKind.u32.wrap (p.base + c.csr.c5)) (IntKind.u32.wrap (bndM p c)))) := by kernel_rfl
theorem h33 (p : Part) (c : Core) (_ : OkAs [tPart.arg p, tCore.arg c]) (_ : AllT []) : Says (rf [] 33 [tPart.arg p, tCore.arg c] [(tInt .u32).sig, (tInt .u32).sig]) (· = some [(tInt .u32).arg (winX p c).1, (tInt .u32).arg (winX p c).2]) := ⟨by
  rw [t33]
  refine ⟨fun h1 => ?_, fun h1 => ⟨fun h2 => ?_, fun h2 => ?_⟩⟩
  all_goals show _ = _
  · simp only [winX, h1, cond_true]
  · simp only [winX, h1, h2, cond_true, cond_false]
  · simp only [winX, h1, h2, cond_false]⟩
theorem o33 (B : Base) : SummOk tcx 33 S33 := summ2 B Good.nil h33 (by kernel_rfl)
end Go.Sx
