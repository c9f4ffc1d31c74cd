/-
  Dispatching a guest on the host, as a plain Lean function; its summary.
  Conditions: none; the summary holds of the program's function.
-/
import Derived.Test.YtcibdpbblleafaaGreatDoorMoU
namespace Go.Sx
open Go Go.RowKit Tree

def alts {α : Type} : Nat → Tree α → Tree α
  | 0, _ => fail
  | 1, t => t
  | n + 2, t => both t (alts (n + 1) t)
def perms {α : Type} : Nat → Tree α → Tree α
  | 0, t => t
  | n + 1, t => alts (n + 1) (perms n t)
theorem alts_ok {α : Type} {p : α → Prop} {t : Tree α} (h : t.Holds p) : ∀ n, (alts (n + 1) t).Holds p
  | 0 => h
  | n + 1 => ⟨h, alts_ok h n⟩
theorem perms_ok {α : Type} {p : α → Prop} {t : Tree α} (h : t.Holds p) : ∀ n, (perms n t).Holds p
  | 0 => h
  | n + 1 => alts_ok (perms_ok h n) n

def dispX (h : Mach) (v : Vcpu) (p : Part) (a : Int) : Mach :=
  { restoreX h v with core := { (restoreX h v).core with csr := { (restoreX h v).core.csr with c0 := 2, c5 := (winX p v.core).1, c6 := (winX p v.core).2, c9 := IntKind.u32.wrap a, c10 := IntKind.u32.wrap (shrI .u64 a 32) } } }
def S20 : Summ := mkSumm [tMach.sig, tVcpu.sig, tPart.sig, (tInt .u64).sig] (sp4 tMach tVcpu tPart (tInt .u64) fun h v p a => ([], [tMach.arg (dispX h v p a)]))
def L20 : List (FuncId × Summ) := [(32, S32), (33, S33)]
theorem g20 (B : Base) : Good L20 := (Good.nil.cons (o33 B) (mkSumm_loc _ _)).cons (o32 B) (mkSumm_loc _ _)
theorem t20 (h : Mach) (v : Vcpu) (p : Part) (a : Int) : rf L20 20 [tMach.arg h, tVcpu.arg v, tPart.arg p, (tInt .u64).arg a] [tMach.sig] = need (decide ((0 : Int) ≤ 32)) (perms 5 (machT (dispX h v p a))) := by kernel_rfl
theorem h20 (h : Mach) (v : Vcpu) (p : Part) (a : Int) (_ : OkAs [tMach.arg h, tVcpu.arg v, tPart.arg p, (tInt .u64).arg a]) (_ : AllT []) :
    Says (rf L20 20 [tMach.arg h, tVcpu.arg v, tPart.arg p, (tInt .u64).arg a] [tMach.sig]) (· = some [tMach.arg (dispX h v p a)]) := ⟨by
  rw [t20]
  exact need_ok rfl (perms_ok (t := machT (dispX h v p a)) rfl 5)⟩
theorem o20 (B : Base) : SummOk tcx 20 S20 := summ4 B (g20 B) h20 (by kernel_rfl)
end Go.Sx
