/-
  Saving, restoring and clearing the registers, as plain Lean functions; their summaries.
  Conditions: none; each summary holds of the program's function.
-/
import Derived.Test.YtcibdpbblleafaaGreatDoorMoK
namespace Go.Sx
open Go Go.RowKit Tree

def L37 : List (FuncId × Summ) := [(37, S37)]
theorem g37 (B : Base) : Good L37 := Good.nil.cons (o37 B) (mkSumm_loc _ _)
def saveX (h : Mach) (v : Vcpu) : Vcpu := { v with core := { v.core with regs := h.core.regs.clear0, pc := h.core.csr.c1 } }
def restoreX (h : Mach) (v : Vcpu) : Mach := { h with core := { h.core with regs := v.core.regs.clear0, pc := v.core.pc } }
def Regs.zero : Regs := ⟨0, 0, 0, 0, 0, 0, 0, 0, 0, 0, 0, 0, 0, 0, 0, 0⟩
def clearX (h : Mach) : Mach := { h with core := { h.core with regs := Regs.zero.clear0, pc := 0 } }
def S22 : Summ := mkSumm [tMach.sig, tVcpu.sig] (sp2 tMach tVcpu fun h v => ([], [tVcpu.arg (saveX h v)]))
def S32 : Summ := mkSumm [tMach.sig, tVcpu.sig] (sp2 tMach tVcpu fun h v => ([], [tMach.arg (restoreX h v)]))
def S24 : Summ := mkSumm [tMach.sig] (sp1 tMach fun h => ([], [tMach.arg (clearX h)]))
theorem t22 (h : Mach) (v : Vcpu) : rf L37 22 [tMach.arg h, tVcpu.arg v] [tVcpu.sig] = leaf (some [tVcpu.arg (saveX h v)]) := by kernel_rfl
theorem t32 (h : Mach) (v : Vcpu) : rf L37 32 [tMach.arg h, tVcpu.arg v] [tMach.sig] = leaf (some [tMach.arg (restoreX h v)]) := by kernel_rfl
theorem t24 (h : Mach) : rf L37 24 [tMach.arg h] [tMach.sig] = leaf (some [tMach.arg (clearX h)]) := by kernel_rfl
theorem o22 (B : Base) : SummOk tcx 22 S22 := summ2 B (g37 B) (rs := [tVcpu.sig]) (fun h v _ _ => ⟨by rw [t22]; rfl⟩) (by kernel_rfl)
theorem o32 (B : Base) : SummOk tcx 32 S32 := summ2 B (g37 B) (rs := [tMach.sig]) (fun h v _ _ => ⟨by rw [t32]; rfl⟩) (by kernel_rfl)
theorem o24 (B : Base) : SummOk tcx 24 S24 := summ1 B (g37 B) (rs := [tMach.sig]) (fun h _ _ => ⟨by rw [t24]; rfl⟩) (by kernel_rfl)
end Go.Sx
