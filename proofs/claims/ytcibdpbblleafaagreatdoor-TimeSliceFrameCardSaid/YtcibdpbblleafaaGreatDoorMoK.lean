/-
  The instruction at the program counter, and one step of a machine, as plain Lean functions; their summaries.
  Conditions: none; each summary holds of the program's function.
-/
import Derived.Test.YtcibdpbblleafaaGreatDoorMoJ
namespace Go.Sx
open Go Go.RowKit Tree

abbrev IT := Instr × Trap
def wordM (m : Mach) : Int := ldV m m.core.pc 4
def curX (m : Mach) : IT :=
  bif (ldT m m.core.pc 4).cause != 0 then (Instr.none, ldT m m.core.pc 4) else
  bif !decOk (wordM m) then (Instr.none, ⟨1, wordM m⟩) else
  bif privB (decM (wordM m)).op then (bif !svB m.core then (Instr.none, ⟨2, wordM m⟩) else (decM (wordM m), ⟨0, 0⟩)) else (decM (wordM m), ⟨0, 0⟩)
abbrev itT (x : IT) : Tree (Option (List Arg)) := leaf (some [tInstr.arg x.1, tTrap.arg x.2])
abbrev isI (x : IT) : Option (List Arg) → Prop := fun r => r = some [tInstr.arg x.1, tTrap.arg x.2]
theorem holds_bifI {c : Bool} {t e : Tree (Option (List Arg))} {x y : IT} (h1 : t.Holds (isI x)) (h2 : e.Holds (isI y)) : (br c t e).Holds (isI (bif c then x else y)) := by
  refine ⟨fun h => ?_, fun h => ?_⟩
  · rw [h]; exact h1
  · rw [h]; exact h2
def L63 : List (FuncId × Summ) := [(96, S96), (77, S77), (64, S64), (68, S68)]
theorem g63 (B : Base) : Good L63 := (((Good.nil.cons (o68 B) (mkSumm_loc _ _)).cons (o64 B) (mkSumm_loc _ _)).cons (o77 B) (mkSumm_loc _ _)).cons (o96 B) (mkSumm_loc _ _)
def S63 : Summ := mkSumm [tMach.sig] (sp1 tMach fun m => ([], [tInstr.arg (curX m).1, tTrap.arg (curX m).2]))
theorem t63 (m : Mach) : rf L63 63 [tMach.arg m] [tInstr.sig, tTrap.sig] =
    need (oneFour 4) (br ((ldT m m.core.pc 4).cause != 0) (itT (Instr.none, ldT m m.core.pc 4)) (br (!decOk (wordM m)) (itT (Instr.none, ⟨1, wordM m⟩))
      (br (privB (decM (wordM m)).op) (br (!svB m.core) (itT (Instr.none, ⟨2, wordM m⟩)) (itT (decM (wordM m), ⟨0, 0⟩))) (itT (decM (wordM m), ⟨0, 0⟩))))) := by kernel_rfl
theorem h63 (m : Mach) (_ : OkAs [tMach.arg m]) (_ : AllT []) : Says (rf L63 63 [tMach.arg m] [tInstr.sig, tTrap.sig]) (· = some [tInstr.arg (curX m).1, tTrap.arg (curX m).2]) := ⟨by
  rw [t63]
  exact ⟨rfl, holds_bifI (x := (_, _)) rfl (holds_bifI (x := (_, _)) rfl (holds_bifI (holds_bifI (x := (_, _)) (y := (_, _)) rfl rfl) (y := (_, _)) rfl))⟩⟩
theorem o63 (B : Base) : SummOk tcx 63 S63 := summ1 B (g63 B) h63 (by kernel_rfl)

def plainX (m : Mach) : MT :=
  bif m.halted then (m, ⟨0, 0⟩) else
  bif (curX m).2.cause != 0 then (endX m (curX m).2, (curX m).2) else
  bif privB (curX m).1.op then (endX (privX m (curX m).1) (curX m).2, (curX m).2) else (endX (execX m (curX m).1).1 (execX m (curX m).1).2, (execX m (curX m).1).2)
def L47 : List (FuncId × Summ) := [(63, S63), (64, S64), (65, S65), (66, S66), (46, S46)]
theorem g47 (B : Base) : Good L47 := ((((Good.nil.cons (o46 B) (mkSumm_loc _ _)).cons (o66 B) (mkSumm_loc _ _)).cons (o65 B) (mkSumm_loc _ _)).cons (o64 B) (mkSumm_loc _ _)).cons (o63 B) (mkSumm_loc _ _)
def S47 : Summ := mkSumm [tMach.sig] (sp1 tMach fun m => ([decide (m.mem.length < 1000000), decide (m.out.length < 1000000)], [tMach.arg (plainX m).1, tTrap.arg (plainX m).2]))
theorem t47 (m : Mach) : rf L47 47 [tMach.arg m] [tMach.sig, tTrap.sig] =
    br m.halted (outT m ⟨0, 0⟩) (br ((curX m).2.cause != 0) (outT (endX m (curX m).2) (curX m).2) (br (privB (curX m).1.op) (need (decide (m.out.length < 1000000)) (outT (endX (privX m (curX m).1) (curX m).2) (curX m).2))
      (need (decide (m.mem.length < 1000000)) (outT (endX (execX m (curX m).1).1 (execX m (curX m).1).2) (execX m (curX m).1).2)))) := by kernel_rfl
theorem h47 (m : Mach) (_ : OkAs [tMach.arg m]) (hn : AllT [decide (m.mem.length < 1000000), decide (m.out.length < 1000000)]) :
    Says (rf L47 47 [tMach.arg m] [tMach.sig, tTrap.sig]) (· = some [tMach.arg (plainX m).1, tTrap.arg (plainX m).2]) := ⟨by
  rw [t47]
  have h1 := hn _ (List.mem_cons_self ..)
  have h2 := hn _ (List.mem_cons_of_mem _ (List.mem_cons_self ..))
  exact holds_bif (x := (_, _)) rfl (holds_bif (x := (_, _)) rfl (holds_bif (x := (_, _)) (y := (_, _)) ⟨h2, rfl⟩ ⟨h1, rfl⟩))⟩
theorem o47 (B : Base) : SummOk tcx 47 S47 := summ1 B (g47 B) h47 (by kernel_rfl)

def stepX (m : Mach) : MT := bif !m.halted then (bif dueB m then (endX m ⟨6, 0⟩, ⟨6, 0⟩) else plainX m) else plainX m
def L31 : List (FuncId × Summ) := [(45, S45), (46, S46), (47, S47)]
theorem g31 (B : Base) : Good L31 := ((Good.nil.cons (o47 B) (mkSumm_loc _ _)).cons (o46 B) (mkSumm_loc _ _)).cons (o45 B) (mkSumm_loc _ _)
def S31 : Summ := mkSumm [tMach.sig] (sp1 tMach fun m => ([decide (m.mem.length < 1000000), decide (m.out.length < 1000000)], [tMach.arg (stepX m).1, tTrap.arg (stepX m).2]))
def plainT (m : Mach) : Tree (Option (List Arg)) := need (decide (m.mem.length < 1000000)) (need (decide (m.out.length < 1000000)) (outT (plainX m).1 (plainX m).2))
theorem t31 (m : Mach) : rf L31 31 [tMach.arg m] [tMach.sig, tTrap.sig] =
    br (!m.halted) (br (dueB m) (outT (endX m ⟨6, 0⟩) ⟨6, 0⟩) (plainT m)) (plainT m) := by kernel_rfl
theorem h31 (m : Mach) (_ : OkAs [tMach.arg m]) (hn : AllT [decide (m.mem.length < 1000000), decide (m.out.length < 1000000)]) :
    Says (rf L31 31 [tMach.arg m] [tMach.sig, tTrap.sig]) (· = some [tMach.arg (stepX m).1, tTrap.arg (stepX m).2]) := ⟨by
  rw [t31]
  have h1 := hn _ (List.mem_cons_self ..)
  have h2 := hn _ (List.mem_cons_of_mem _ (List.mem_cons_self ..))
  have hp : (plainT m).Holds (isX (plainX m)) := ⟨h1, h2, rfl⟩
  exact holds_bif (holds_bif (x := (_, _)) rfl hp) hp⟩
theorem o31 (B : Base) : SummOk tcx 31 S31 := summ1 B (g31 B) h31 (by kernel_rfl)
end Go.Sx
