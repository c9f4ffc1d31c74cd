/-
  Virtual CPUs as machines, observations of time, as plain Lean functions; their summaries.
  Conditions: none; each summary holds of the program's function.
-/
import Derived.Test.YtcibdpbblleafaaGreatDoorMoM
namespace Go.Sx
open Go Go.RowKit Tree

def vmX (v : Vcpu) (mem : List Int) (t : Int) : Mach := ⟨v.core, mem, t, v.out, v.halted⟩
def wmX (v : Vcpu) (m : Mach) : Vcpu := { v with core := m.core, out := m.out, halted := m.halted }
def seenX (i : Instr) (n t : Int) : Ev := bif i.imm == 8 then ⟨3, n, t⟩ else ⟨2, n, t⟩
def S72 : Summ := mkSumm [tVcpu.sig, tBytes.sig, (tInt .u64).sig] (sp3 tVcpu tBytes (tInt .u64) fun v l t => ([], [tMach.arg (vmX v l t)]))
def S71 : Summ := mkSumm [tVcpu.sig, tMach.sig] (sp2 tVcpu tMach fun v m => ([], [tVcpu.arg (wmX v m)]))
def S70 : Summ := mkSumm [tInstr.sig, (tInt .i64).sig, (tInt .u64).sig] (sp3 tInstr (tInt .i64) (tInt .u64) fun i n t => ([], [tEv.arg (seenX i n t)]))
theorem t72 (v : Vcpu) (l : List Int) (t : Int) : rf [] 72 [tVcpu.arg v, tBytes.arg l, (tInt .u64).arg t] [tMach.sig] = leaf (some [tMach.arg (vmX v l t)]) := by kernel_rfl
theorem t71 (v : Vcpu) (m : Mach) : rf [] 71 [tVcpu.arg v, tMach.arg m] [tVcpu.sig] = leaf (some [tVcpu.arg (wmX v m)]) := by kernel_rfl
theorem t70 (i : Instr) (n t : Int) : rf [] 70 [tInstr.arg i, (tInt .i64).arg n, (tInt .u64).arg t] [tEv.sig] = br (i.imm == 8) (leaf (some [tEv.arg ⟨3, n, t⟩])) (leaf (some [tEv.arg ⟨2, n, t⟩])) := by kernel_rfl
theorem o72 (B : Base) : SummOk tcx 72 S72 := summ3 B Good.nil (rs := [tMach.sig]) (fun v l t _ _ => ⟨by rw [t72]; rfl⟩) (by kernel_rfl)
theorem o71 (B : Base) : SummOk tcx 71 S71 := summ2 B Good.nil (rs := [tVcpu.sig]) (fun v m _ _ => ⟨by rw [t71]; rfl⟩) (by kernel_rfl)
theorem h70 (i : Instr) (n t : Int) (_ : OkAs [tInstr.arg i, (tInt .i64).arg n, (tInt .u64).arg t]) (_ : AllT []) : Says (rf [] 70 [tInstr.arg i, (tInt .i64).arg n, (tInt .u64).arg t] [tEv.sig]) (· = some [tEv.arg (seenX i n t)]) := ⟨by
  rw [t70]
  refine ⟨fun h => ?_, fun h => ?_⟩
  all_goals show _ = _
  all_goals simp only [seenX, h, cond_true, cond_false]⟩
theorem o70 (B : Base) : SummOk tcx 70 S70 := summ3 B Good.nil h70 (by kernel_rfl)
end Go.Sx
