/-
  The execution of one privileged instruction, as a plain Lean function; its summary.
  Conditions: none; the summary holds of the program's function.
-/
import Derived.Test.YtcibdpbblleafaaGreatDoorMoI
namespace Go.Sx
open Go Go.RowKit Tree

def L65 : List (FuncId × Summ) := [(80, S80), (82, S82), (83, S83), (84, S84), (85, S85), (81, S81)]
theorem g65 (B : Base) : Good L65 :=
  (((((Good.nil.cons (o81 B) (mkSumm_loc _ _)).cons (o85 B) (mkSumm_loc _ _)).cons (o84 B) (mkSumm_loc _ _)).cons (o83 B) (mkSumm_loc _ _)).cons (o82 B) (mkSumm_loc _ _)).cons (o80 B) (mkSumm_loc _ _)
def csrN (i : Instr) : Int := IntKind.i64.wrap i.imm
def readX (m : Mach) (i : Instr) : Mach := ({ m with core := { m.core with regs := m.core.regs.set i.rd (m.core.csr.read m.time (csrN i)) } } : Mach).adv 4
def writeX (m : Mach) (i : Instr) : Mach := ({ m with core := { m.core with csr := m.core.csr.write (csrN i) (m.x i) } } : Mach).adv 4
def haltX (m : Mach) : Mach := ({ m with halted := true } : Mach).adv 4
def outX (m : Mach) (i : Instr) : Mach := ({ m with out := m.out ++ [IntKind.u8.wrap (m.x i)] } : Mach).adv 4
abbrev machT (m : Mach) : Tree (Option (List Arg)) := leaf (some [tMach.arg m])
theorem t65 (m : Mach) (i : Instr) : rf L65 65 [tMach.arg m, tInstr.arg i] [tMach.sig] =
    br (i.op == 23) (machT { m with core := m.core.back }) (br (i.op == 21) (machT (readX m i)) (br (i.op == 22) (machT (writeX m i)) (br (i.op == 24) (machT (haltX m))
    (br (i.op == 25) (need (decide ((m.out.length : Int) = (m.out.length : Int))) (need (decide ((m.out.length : Int) = (m.out.length : Int))) (need (decide (m.out.length < 1000000)) (machT (outX m i))))) (machT (m.adv 4)))))) := by kernel_rfl

def privX (m : Mach) (i : Instr) : Mach :=
  bif i.op == 23 then { m with core := m.core.back } else bif i.op == 21 then readX m i else bif i.op == 22 then writeX m i else bif i.op == 24 then haltX m else bif i.op == 25 then outX m i else m.adv 4
def S65 : Summ := mkSumm [tMach.sig, tInstr.sig] (sp2 tMach tInstr fun m i => ([decide (m.out.length < 1000000)], [tMach.arg (privX m i)]))
abbrev isM (x : Mach) : Option (List Arg) → Prop := fun r => r = some [tMach.arg x]
theorem holds_bifM {c : Bool} {t e : Tree (Option (List Arg))} {x y : Mach} (h1 : t.Holds (isM x)) (h2 : e.Holds (isM y)) : (br c t e).Holds (isM (bif c then x else y)) := by
  refine ⟨fun h => ?_, fun h => ?_⟩
  · rw [h]; exact h1
  · rw [h]; exact h2
theorem h65 (m : Mach) (i : Instr) (_ : OkAs [tMach.arg m, tInstr.arg i]) (hn : AllT [decide (m.out.length < 1000000)]) :
    Says (rf L65 65 [tMach.arg m, tInstr.arg i] [tMach.sig]) (· = some [tMach.arg (privX m i)]) := ⟨by
  rw [t65]
  have hm := hn _ (List.mem_cons_self ..)
  exact holds_bifM rfl (holds_bifM rfl (holds_bifM rfl (holds_bifM rfl (holds_bifM ⟨by simp, by simp, hm, rfl⟩ rfl))))⟩
theorem o65 (B : Base) : SummOk tcx 65 S65 := summ2 B (g65 B) h65 (by kernel_rfl)

/-! ### The end of a step, the timer -/
def endX (m : Mach) (t : Trap) : Mach := { m with core := m.core.enter t, time := IntKind.u64.wrap (m.time + 1) }
def L46 : List (FuncId × Summ) := [(61, S61)]
theorem g46 (B : Base) : Good L46 := Good.nil.cons (o61 B) (mkSumm_loc _ _)
def S46 : Summ := mkSumm [tMach.sig, tTrap.sig] (sp2 tMach tTrap fun m t => ([], [tMach.arg (endX m t), tTrap.arg t]))
theorem t46 (m : Mach) (t : Trap) : rf L46 46 [tMach.arg m, tTrap.arg t] [tMach.sig, tTrap.sig] = leaf (some [tMach.arg (endX m t), tTrap.arg t]) := by kernel_rfl
theorem o46 (B : Base) : SummOk tcx 46 S46 := summ2 B (g46 B) (rs := [tMach.sig, tTrap.sig]) (fun m t _ _ => ⟨by rw [t46]; rfl⟩) (by kernel_rfl)
def dueB (m : Mach) : Bool := bif ieB m.core then decide (m.time ≥ cmpM m.core.csr) else false
def L45 : List (FuncId × Summ) := [(34, S34), (36, S36)]
theorem g45 (B : Base) : Good L45 := (Good.nil.cons (o36 B) (mkSumm_loc _ _)).cons (o34 B) (mkSumm_loc _ _)
def S45 : Summ := mkSumm [tMach.sig] (sp1 tMach fun m => ([], [tBool.arg (dueB m)]))

/-- One need, many times. -/
def needN (c : Bool) : Nat → Tree (Option (List Arg)) → Tree (Option (List Arg))
  | 0, t => t
  | n + 1, t => need c (needN c n t)
theorem needN_ok {c : Bool} (hc : c = true) {p : Option (List Arg) → Prop} {t : Tree (Option (List Arg))} (h : t.Holds p) : ∀ n, (needN c n t).Holds p
  | 0 => h
  | n + 1 => ⟨hc, needN_ok hc h n⟩
theorem t45 (m : Mach) : rf L45 45 [tMach.arg m] [tBool.sig] =
    br (ieB m.core) (needN ((ieB m.core == true) == true) 7 (leaf (some [tBool.arg (dueB m)]))) (needN ((ieB m.core == true) == false) 7 (need (!ieB m.core) (leaf (some [tBool.arg false])))) := by kernel_rfl
theorem h45 (m : Mach) (_ : OkAs [tMach.arg m]) (_ : AllT []) : Says (rf L45 45 [tMach.arg m] [tBool.sig]) (· = some [tBool.arg (dueB m)]) := ⟨by
  rw [t45]
  refine ⟨fun h => ?_, fun h => ?_⟩
  · refine needN_ok (by rw [h]; rfl) ?_ 7
    show _ = _
    rfl
  · refine needN_ok (by rw [h]; rfl) ?_ 7
    refine ⟨by rw [h]; rfl, ?_⟩
    show _ = _
    simp only [dueB, h, cond_false]⟩
theorem o45 (B : Base) : SummOk tcx 45 S45 := summ1 B (g45 B) h45 (by kernel_rfl)
end Go.Sx
