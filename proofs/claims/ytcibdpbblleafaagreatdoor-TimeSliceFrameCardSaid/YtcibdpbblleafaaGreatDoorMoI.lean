/-
  The execution of one unprivileged instruction, as a plain Lean function; its summary.
  Conditions: none; the summary holds of the program's function.
-/
import Derived.Test.YtcibdpbblleafaaGreatDoorMoH
namespace Go.Sx
open Go Go.RowKit Tree

def Mach.x (m : Mach) (i : Instr) : Int := m.core.regs.get i.ra
def Mach.y (m : Mach) (i : Instr) : Int := m.core.regs.get i.rb
def Mach.z (m : Mach) (i : Instr) : Int := m.core.regs.get i.rd
def Mach.q (m : Mach) (i : Instr) : StepI := ⟨i.op, i.imm, m.x i⟩
def Mach.put (m : Mach) (i : Instr) (v : Int) : Mach := { m with core := { m.core with regs := m.core.regs.set i.rd v, pc := IntKind.u32.wrap (m.core.pc + 4) } }
def Mach.adv (m : Mach) (v : Int) : Mach := { m with core := m.core.adv v }
def Mach.go (m : Mach) (v : Int) : Mach := { m with core := { m.core with pc := v } }

def L66 : List (FuncId × Summ) := [(104, S104), (80, S80), (85, S85), (93, S93), (96, S96), (107, S107), (110, S110), (108, S108), (105, S105), (106, S106), (109, S109)]
theorem g66 (B : Base) : Good L66 :=
  ((((((((((Good.nil.cons (o109 B) (mkStep_loc _ _)).cons (o106 B) (mkStep_loc _ _)).cons (o105 B) (mkStep_loc _ _)).cons (o108 B) (mkSumm_loc _ _)).cons (o110 B) (mkSumm_loc _ _)).cons (o107 B) (mkSumm_loc _ _)).cons (o96 B) (mkSumm_loc _ _)).cons (o93 B) (mkSumm_loc _ _)).cons (o85 B) (mkSumm_loc _ _)).cons (o80 B) (mkSumm_loc _ _)).cons (o104 B) S104_loc

abbrev outT (m : Mach) (t : Trap) : Tree (Option (List Arg)) := leaf (some [tMach.arg m, tTrap.arg t])
def loadT (m : Mach) (i : Instr) : Tree (Option (List Arg)) :=
  need (oneFour (sizeM (m.q i))) (br ((ldT m (atM (m.q i)) (sizeM (m.q i))).cause == 0) (outT (m.put i (ldV m (atM (m.q i)) (sizeM (m.q i)))) (ldT m (atM (m.q i)) (sizeM (m.q i)))) (outT m (ldT m (atM (m.q i)) (sizeM (m.q i)))))
def storeT (m : Mach) (i : Instr) : Tree (Option (List Arg)) :=
  need (oneFour (sizeM (m.q i))) (need (decide (m.mem.length < 1000000)) (br ((ldT m (atM (m.q i)) (sizeM (m.q i))).cause == 0) (outT ((stM m (atM (m.q i)) (sizeM (m.q i)) (m.z i)).adv 4) (ldT m (atM (m.q i)) (sizeM (m.q i)))) (outT m (ldT m (atM (m.q i)) (sizeM (m.q i))))))
def branchT (m : Mach) (i : Instr) : Tree (Option (List Arg)) := br (takenM i.op (m.z i) (m.x i)) (outT (m.adv (farM (m.q i))) ⟨0, 0⟩) (outT (m.adv 4) ⟨0, 0⟩)
def jumpT (m : Mach) (i : Instr) : Tree (Option (List Arg)) :=
  br (i.op == 19) (outT ((m.put i (IntKind.u32.wrap (m.core.pc + 4))).go (atM (m.q i))) ⟨0, 0⟩) (outT ((m.put i (IntKind.u32.wrap (m.core.pc + 4))).go (IntKind.u32.wrap (m.core.pc + farM (m.q i)))) ⟨0, 0⟩)
theorem t66 (m : Mach) (i : Instr) : rf L66 66 [tMach.arg m, tInstr.arg i] [tMach.sig, tTrap.sig] =
    br (i.op == 9) (outT (m.put i (atM (m.q i))) ⟨0, 0⟩)
    (br (i.op == 10) (need (decide ((0 : Int) ≤ 14)) (outT (m.put i (shlI .u32 (IntKind.u32.wrap i.imm) 14)) ⟨0, 0⟩))
    (br (i.op == 11) (loadT m i) (br (i.op == 13) (loadT m i) (br (i.op == 12) (storeT m i) (br (i.op == 14) (storeT m i)
    (br (i.op == 15) (branchT m i) (br (i.op == 16) (branchT m i) (br (i.op == 17) (branchT m i)
    (br (i.op == 18) (jumpT m i) (br (i.op == 19) (jumpT m i) (br (i.op == 20) (outT m ⟨5, 0⟩)
    (br (formM i.op == 1) (outT (m.put i (evalM i.op (m.x i) (m.y i))) ⟨0, 0⟩) (outT m ⟨0, 0⟩))))))))))))) := by kernel_rfl

abbrev MT := Mach × Trap
def loadX (m : Mach) (i : Instr) : MT :=
  bif (ldT m (atM (m.q i)) (sizeM (m.q i))).cause == 0 then (m.put i (ldV m (atM (m.q i)) (sizeM (m.q i))), ldT m (atM (m.q i)) (sizeM (m.q i))) else (m, ldT m (atM (m.q i)) (sizeM (m.q i)))
def storeX (m : Mach) (i : Instr) : MT :=
  bif (ldT m (atM (m.q i)) (sizeM (m.q i))).cause == 0 then ((stM m (atM (m.q i)) (sizeM (m.q i)) (m.z i)).adv 4, ldT m (atM (m.q i)) (sizeM (m.q i))) else (m, ldT m (atM (m.q i)) (sizeM (m.q i)))
def branchX (m : Mach) (i : Instr) : MT := bif takenM i.op (m.z i) (m.x i) then (m.adv (farM (m.q i)), ⟨0, 0⟩) else (m.adv 4, ⟨0, 0⟩)
def jumpX (m : Mach) (i : Instr) : MT :=
  bif i.op == 19 then ((m.put i (IntKind.u32.wrap (m.core.pc + 4))).go (atM (m.q i)), ⟨0, 0⟩) else ((m.put i (IntKind.u32.wrap (m.core.pc + 4))).go (IntKind.u32.wrap (m.core.pc + farM (m.q i))), ⟨0, 0⟩)
def execX (m : Mach) (i : Instr) : MT :=
  bif i.op == 9 then (m.put i (atM (m.q i)), ⟨0, 0⟩) else
  bif i.op == 10 then (m.put i (shlI .u32 (IntKind.u32.wrap i.imm) 14), ⟨0, 0⟩) else
  bif i.op == 11 then loadX m i else bif i.op == 13 then loadX m i else bif i.op == 12 then storeX m i else bif i.op == 14 then storeX m i else
  bif i.op == 15 then branchX m i else bif i.op == 16 then branchX m i else bif i.op == 17 then branchX m i else
  bif i.op == 18 then jumpX m i else bif i.op == 19 then jumpX m i else bif i.op == 20 then (m, ⟨5, 0⟩) else
  bif formM i.op == 1 then (m.put i (evalM i.op (m.x i) (m.y i)), ⟨0, 0⟩) else (m, ⟨0, 0⟩)
abbrev isX (x : MT) : Option (List Arg) → Prop := fun r => r = some [tMach.arg x.1, tTrap.arg x.2]
theorem loadT_ok (m : Mach) (i : Instr) : (loadT m i).Holds (isX (loadX m i)) := by
  refine ⟨size_oneFour _, fun h => ?_, fun h => ?_⟩
  all_goals show _ = _
  all_goals simp only [loadX, h, cond_true, cond_false]
theorem storeT_ok (m : Mach) (i : Instr) (hm : decide (m.mem.length < 1000000) = true) : (storeT m i).Holds (isX (storeX m i)) := by
  refine ⟨size_oneFour _, hm, fun h => ?_, fun h => ?_⟩
  all_goals show _ = _
  all_goals simp only [storeX, h, cond_true, cond_false]
theorem branchT_ok (m : Mach) (i : Instr) : (branchT m i).Holds (isX (branchX m i)) := by
  refine ⟨fun h => ?_, fun h => ?_⟩
  all_goals show _ = _
  all_goals simp only [branchX, h, cond_true, cond_false]
theorem jumpT_ok (m : Mach) (i : Instr) : (jumpT m i).Holds (isX (jumpX m i)) := by
  refine ⟨fun h => ?_, fun h => ?_⟩
  all_goals show _ = _
  all_goals simp only [jumpX, h, cond_true, cond_false]
theorem holds_bif {c : Bool} {t e : Tree (Option (List Arg))} {x y : MT} (h1 : t.Holds (isX x)) (h2 : e.Holds (isX y)) : (br c t e).Holds (isX (bif c then x else y)) := by
  refine ⟨fun h => ?_, fun h => ?_⟩
  · rw [h]; exact h1
  · rw [h]; exact h2
def S66 : Summ := mkSumm [tMach.sig, tInstr.sig] (sp2 tMach tInstr fun m i => ([decide (m.mem.length < 1000000)], [tMach.arg (execX m i).1, tTrap.arg (execX m i).2]))
theorem h66 (m : Mach) (i : Instr) (_ : OkAs [tMach.arg m, tInstr.arg i]) (hn : AllT [decide (m.mem.length < 1000000)]) :
    Says (rf L66 66 [tMach.arg m, tInstr.arg i] [tMach.sig, tTrap.sig]) (· = some [tMach.arg (execX m i).1, tTrap.arg (execX m i).2]) := ⟨by
  rw [t66]
  have hm := hn _ (List.mem_cons_self ..)
  exact holds_bif (x := (_, _)) rfl (holds_bif (x := (_, _)) ⟨rfl, rfl⟩ (holds_bif (loadT_ok m i) (holds_bif (loadT_ok m i) (holds_bif (storeT_ok m i hm) (holds_bif (storeT_ok m i hm) (holds_bif (branchT_ok m i) (holds_bif (branchT_ok m i) (holds_bif (branchT_ok m i)
    (holds_bif (jumpT_ok m i) (holds_bif (jumpT_ok m i) (holds_bif (x := (_, _)) rfl (holds_bif (x := (_, _)) (y := (_, _)) rfl rfl))))))))))))⟩
theorem o66 (B : Base) : SummOk tcx 66 S66 := summ2 B (g66 B) h66 (by kernel_rfl)
end Go.Sx
