/-
  The small functions of the references that the law uses: deadlines, modes, sameness, which arguments fit; their summaries.
  Conditions: none; each summary holds of the program's function.
-/
import Derived.Test.YtcibdpbblleafaaGreatDoorMoT
namespace Go.Sx
open Go Go.RowKit Tree

abbrev fB (x : Bool) : Option (List Arg) := some [tBool.arg x]
def deadM (t q : Int) : Int := IntKind.u64.wrap (t + IntKind.u64.wrap (if 1 > q then 1 else q))
def S7 : Summ := mkSumm [tMach.sig, (tInt .i64).sig] (sp2 tMach (tInt .i64) fun h q => ([], [(tInt .u64).arg (deadM h.time q)]))
theorem t7 (h : Mach) (q : Int) : rf [] 7 [tMach.arg h, (tInt .i64).arg q] [(tInt .u64).sig] = leaf (some [(tInt .u64).arg (deadM h.time q)]) := by kernel_rfl
theorem h7 (h : Mach) (q : Int) (_ : OkAs [tMach.arg h, (tInt .i64).arg q]) (_ : AllT []) : Says (rf [] 7 [tMach.arg h, (tInt .i64).arg q] [(tInt .u64).sig]) (· = some [(tInt .u64).arg (deadM h.time q)]) := ⟨by rw [t7]; rfl⟩
theorem o7 (B : Base) : SummOk tcx 7 S7 := summ2 B Good.nil h7 (by kernel_rfl)

def supB (c : Core) : Bool := c.csr.c0.tmod 2 == 1
def S11 : Summ := mkSumm [tCore.sig] (sp1 tCore fun c => ([], [tBool.arg (supB c)]))
theorem t11 (c : Core) : rf [] 11 [tCore.arg c] [tBool.sig] = need (decide ((2 : Int) ≠ 0)) (boolT (supB c)) := by kernel_rfl
theorem h11 (c : Core) (_ : OkAs [tCore.arg c]) (_ : AllT []) : Says (rf [] 11 [tCore.arg c] [tBool.sig]) (· = some [tBool.arg (supB c)]) := ⟨by rw [t11]; exact ⟨rfl, rfl⟩⟩
theorem o11 (B : Base) : SummOk tcx 11 S11 := summ1 B Good.nil h11 (by kernel_rfl)

def allEq : List Int → List Int → Bool
  | x :: xs, y :: ys => x == y && allEq xs ys
  | _, _ => true
def Core.list (c : Core) : List Int := c.regs.list ++ (c.pc :: c.csr.list)
def coreEq (a b : Core) : Bool := allEq a.list b.list
def sameV (v u : Vcpu) : Bool := bif coreEq v.core u.core then (bif v.halted == u.halted then (bif v.done == u.done then (bif decide (v.out = u.out) then decide (v.log = u.log) else false) else false) else false) else false
def S12 : Summ := mkSumm [tVcpu.sig, tVcpu.sig] (sp2 tVcpu tVcpu fun v u => ([], [tBool.arg (sameV v u)]))
def L12 : List (FuncId × Summ) := [(9, S9), (10, S10)]
theorem g12 (B : Base) : Good L12 := (Good.nil.cons (o10 B) (mkSumm_loc _ _)).cons (o9 B) (mkSumm_loc _ _)
theorem t12 (v u : Vcpu) : rf L12 12 [tVcpu.arg v, tVcpu.arg u] [tBool.sig] =
    br (coreEq v.core u.core) (br (v.halted == u.halted) (br (v.done == u.done) (br (decide (v.out = u.out)) (boolT (decide (v.log = u.log))) (boolT false)) (boolT false)) (boolT false)) (boolT false) := by kernel_rfl
theorem h12 (v u : Vcpu) (_ : OkAs [tVcpu.arg v, tVcpu.arg u]) (_ : AllT []) : Says (rf L12 12 [tVcpu.arg v, tVcpu.arg u] [tBool.sig]) (· = some [tBool.arg (sameV v u)]) := ⟨by
  rw [t12]
  exact holds_bifG fB (fun _ => holds_bifG fB (fun _ => holds_bifG fB (fun _ => holds_bifG fB (fun _ => rfl) (fun _ => rfl)) (fun _ => rfl)) (fun _ => rfl)) (fun _ => rfl)⟩
theorem o12 (B : Base) : SummOk tcx 12 S12 := summ2 B (g12 B) h12 (by kernel_rfl)

def fewH (h : Mach) : Bool := bif decide ((h.mem.length : Int) ≤ 600) then decide ((h.out.length : Int) ≤ 600) else false
def fewV (v : Vcpu) : Bool := bif decide ((v.out.length : Int) ≤ 600) then decide ((v.log.length : Int) ≤ 600) else false
def S15 : Summ := mkSumm [tMach.sig] (sp1 tMach fun h => ([], [tBool.arg (fewH h)]))
def S16 : Summ := mkSumm [tVcpu.sig] (sp1 tVcpu fun v => ([], [tBool.arg (fewV v)]))
theorem t15 (h : Mach) : rf [] 15 [tMach.arg h] [tBool.sig] = br (decide ((h.mem.length : Int) ≤ 600)) (boolT (decide ((h.out.length : Int) ≤ 600))) (boolT false) := by kernel_rfl
theorem h15 (h : Mach) (_ : OkAs [tMach.arg h]) (_ : AllT []) : Says (rf [] 15 [tMach.arg h] [tBool.sig]) (· = some [tBool.arg (fewH h)]) := ⟨by rw [t15]; exact holds_bifG fB (fun _ => rfl) (fun _ => rfl)⟩
theorem o15 (B : Base) : SummOk tcx 15 S15 := summ1 B Good.nil h15 (by kernel_rfl)
theorem t16 (v : Vcpu) : rf [] 16 [tVcpu.arg v] [tBool.sig] = br (decide ((v.out.length : Int) ≤ 600)) (boolT (decide ((v.log.length : Int) ≤ 600))) (boolT false) := by kernel_rfl
theorem h16 (v : Vcpu) (_ : OkAs [tVcpu.arg v]) (_ : AllT []) : Says (rf [] 16 [tVcpu.arg v] [tBool.sig]) (· = some [tBool.arg (fewV v)]) := ⟨by rw [t16]; exact holds_bifG fB (fun _ => rfl) (fun _ => rfl)⟩
theorem o16 (B : Base) : SummOk tcx 16 S16 := summ1 B Good.nil h16 (by kernel_rfl)

def insB (h : Mach) (p : Part) : Bool := decide (IntKind.i64.wrap (IntKind.i64.wrap p.base + IntKind.i64.wrap p.size) ≤ (h.mem.length : Int))
def fitB (h : Mach) (v : Vcpu) (p : Part) (q : Int) : Bool :=
  bif fewH h then (bif fewV v then (bif formB v then (bif !h.halted then (bif decide (h.time ≤ 4611686018427387904) then (bif decide (q ≤ 60) then (bif decide (v.done ≤ 1099511627776) then (bif p.base.tmod 4 == 0 then (bif p.size.tmod 4 == 0 then insB h p
    else false) else false) else false) else false) else false) else false) else false) else false) else false
def S5 : Summ := mkSumm [tMach.sig, tVcpu.sig, tPart.sig, (tInt .i64).sig] (sp4 tMach tVcpu tPart (tInt .i64) fun h v p q => ([], [tBool.arg (fitB h v p q)]))
def L5 : List (FuncId × Summ) := [(15, S15), (16, S16), (17, S17)]
theorem g5 (B : Base) : Good L5 := ((Good.nil.cons (o17 B) (mkSumm_loc _ _)).cons (o16 B) (mkSumm_loc _ _)).cons (o15 B) (mkSumm_loc _ _)
theorem t5 (h : Mach) (v : Vcpu) (p : Part) (q : Int) : rf L5 5 [tMach.arg h, tVcpu.arg v, tPart.arg p, (tInt .i64).arg q] [tBool.sig] =
    br (fewH h) (br (fewV v) (br (formB v) (br (!h.halted) (br (decide (h.time ≤ 4611686018427387904)) (br (decide (q ≤ 60)) (br (decide (v.done ≤ 1099511627776)) (need (decide ((4 : Int) ≠ 0)) (br (p.base.tmod 4 == 0) (need (decide ((4 : Int) ≠ 0)) (br (p.size.tmod 4 == 0) (boolT (insB h p))
      (boolT false))) (boolT false))) (boolT false)) (boolT false)) (boolT false)) (boolT false)) (boolT false)) (boolT false)) (boolT false) := by kernel_rfl
theorem h5 (h : Mach) (v : Vcpu) (p : Part) (q : Int) (_ : OkAs [tMach.arg h, tVcpu.arg v, tPart.arg p, (tInt .i64).arg q]) (_ : AllT []) :
    Says (rf L5 5 [tMach.arg h, tVcpu.arg v, tPart.arg p, (tInt .i64).arg q] [tBool.sig]) (· = some [tBool.arg (fitB h v p q)]) := ⟨by
  rw [t5]
  exact holds_bifG fB (fun _ => holds_bifG fB (fun _ => holds_bifG fB (fun _ => holds_bifG fB (fun _ => holds_bifG fB (fun _ => holds_bifG fB (fun _ => holds_bifG fB (fun _ => need_ok rfl (holds_bifG fB (fun _ => need_ok rfl (holds_bifG fB (fun _ => rfl)
    (fun _ => rfl))) (fun _ => rfl))) (fun _ => rfl)) (fun _ => rfl)) (fun _ => rfl)) (fun _ => rfl)) (fun _ => rfl)) (fun _ => rfl)) (fun _ => rfl)⟩
theorem o5 (B : Base) : SummOk tcx 5 S5 := summ4 B (g5 B) h5 (by kernel_rfl)
end Go.Sx
