/-
  Traps that a guest takes, timers and alarms of a guest, the handler, as plain Lean functions; their summaries.
  Conditions: none; each summary holds of the program's function.
-/
import Derived.Test.YtcibdpbblleafaaGreatDoorMoP
namespace Go.Sx
open Go Go.RowKit Tree

theorem holds_bifG {β : Type} (f : β → Option (List Arg)) {c : Bool} {t e : Tree (Option (List Arg))} {x y : β} (h1 : c = true → t.Holds (· = f x)) (h2 : c = false → e.Holds (· = f y)) : (br c t e).Holds (· = f (bif c then x else y)) := by
  refine ⟨fun h => ?_, fun h => ?_⟩
  · rw [h]; exact h1 h
  · rw [h]; exact h2 h

def Vcpu.inject (v : Vcpu) (t : Int) : Vcpu := { v with core := v.core.enter ⟨6, 0⟩, done := IntKind.i64.wrap (v.done + 1), log := v.log ++ [⟨1, v.done, t⟩] }
def Vcpu.reflect (v : Vcpu) (t : Trap) : Vcpu := bif t.cause == 0 then v else { v with core := v.core.enter t, done := IntKind.i64.wrap (v.done + 1) }
def pendB (v : Vcpu) (t : Int) : Bool := bif !v.halted then (bif ieB v.core then decide (t ≥ cmpM v.core.csr) else false) else false
def alarmX (v : Vcpu) (t : Int) : Int := bif !ieB v.core then t else (if cmpM v.core.csr < t then cmpM v.core.csr else t)
def canB (v : Vcpu) (t : Trap) : Bool := bif okW t.tval then (bif t.cause == 2 then svB v.core else false) else false

def S30 : Summ := mkSumm [tVcpu.sig, (tInt .u64).sig] (sp2 tVcpu (tInt .u64) fun v t => ([decide (v.log.length < 900000)], [tVcpu.arg (v.inject t)]))
def S60 : Summ := mkSumm [tVcpu.sig, tTrap.sig] (sp2 tVcpu tTrap fun v t => ([], [tVcpu.arg (v.reflect t)]))
def S29 : Summ := mkSumm [tVcpu.sig, (tInt .u64).sig] (sp2 tVcpu (tInt .u64) fun v t => ([], [tBool.arg (pendB v t)]))
def S21 : Summ := mkSumm [tVcpu.sig, (tInt .u64).sig] (sp2 tVcpu (tInt .u64) fun v t => ([], [(tInt .u64).arg (alarmX v t)]))
def S55 : Summ := mkSumm [tVcpu.sig, tTrap.sig] (sp2 tVcpu tTrap fun v t => ([], [tBool.arg (canB v t)]))

def L30 : List (FuncId × Summ) := [(61, S61), (62, S62)]
theorem g30 (B : Base) : Good L30 := (Good.nil.cons (o62 B) S62_loc).cons (o61 B) (mkSumm_loc _ _)
theorem t30 (v : Vcpu) (t : Int) : rf L30 30 [tVcpu.arg v, (tInt .u64).arg t] [tVcpu.sig] = need (decide (v.log.length < 900000)) (leaf (some [tVcpu.arg (v.inject t)])) := by kernel_rfl
theorem h30 (v : Vcpu) (t : Int) (_ : OkAs [tVcpu.arg v, (tInt .u64).arg t]) (hn : AllT [decide (v.log.length < 900000)]) : Says (rf L30 30 [tVcpu.arg v, (tInt .u64).arg t] [tVcpu.sig]) (· = some [tVcpu.arg (v.inject t)]) := ⟨by
  rw [t30]; exact ⟨hn _ (List.mem_cons_self ..), rfl⟩⟩
theorem o30 (B : Base) : SummOk tcx 30 S30 := summ2 B (g30 B) h30 (by kernel_rfl)

theorem t60 (v : Vcpu) (t : Trap) : rf L30 60 [tVcpu.arg v, tTrap.arg t] [tVcpu.sig] =
    br (t.cause == 0) (vT v) (vT { v with core := v.core.enter t, done := IntKind.i64.wrap (v.done + 1) }) := by kernel_rfl
theorem h60 (v : Vcpu) (t : Trap) (_ : OkAs [tVcpu.arg v, tTrap.arg t]) (_ : AllT []) : Says (rf L30 60 [tVcpu.arg v, tTrap.arg t] [tVcpu.sig]) (· = some [tVcpu.arg (v.reflect t)]) := ⟨by
  rw [t60]; exact holds_bifG (fun x => some [tVcpu.arg x]) (fun _ => rfl) (fun _ => rfl)⟩
theorem o60 (B : Base) : SummOk tcx 60 S60 := summ2 B (g30 B) h60 (by kernel_rfl)

def L29 : List (FuncId × Summ) := [(34, S34), (36, S36)]
theorem g29 (B : Base) : Good L29 := (Good.nil.cons (o36 B) (mkSumm_loc _ _)).cons (o34 B) (mkSumm_loc _ _)
theorem t29 (v : Vcpu) (t : Int) : rf L29 29 [tVcpu.arg v, (tInt .u64).arg t] [tBool.sig] =
    br (!v.halted) (br (ieB v.core) (boolT (decide (t ≥ cmpM v.core.csr))) (boolT false)) (boolT false) := by kernel_rfl
theorem h29 (v : Vcpu) (t : Int) (_ : OkAs [tVcpu.arg v, (tInt .u64).arg t]) (_ : AllT []) : Says (rf L29 29 [tVcpu.arg v, (tInt .u64).arg t] [tBool.sig]) (· = some [tBool.arg (pendB v t)]) := ⟨by
  rw [t29]; exact holds_bifG (fun x => some [tBool.arg x]) (fun _ => holds_bifG (fun x => some [tBool.arg x]) (fun _ => rfl) (fun _ => rfl)) (fun _ => rfl)⟩
theorem o29 (B : Base) : SummOk tcx 29 S29 := summ2 B (g29 B) h29 (by kernel_rfl)

abbrev u64T (v : Int) : Tree (Option (List Arg)) := leaf (some [(tInt .u64).arg v])
theorem t21 (v : Vcpu) (t : Int) : rf L29 21 [tVcpu.arg v, (tInt .u64).arg t] [(tInt .u64).sig] = br (!ieB v.core) (u64T t) (u64T (if cmpM v.core.csr < t then cmpM v.core.csr else t)) := by kernel_rfl
theorem h21 (v : Vcpu) (t : Int) (_ : OkAs [tVcpu.arg v, (tInt .u64).arg t]) (_ : AllT []) : Says (rf L29 21 [tVcpu.arg v, (tInt .u64).arg t] [(tInt .u64).sig]) (· = some [(tInt .u64).arg (alarmX v t)]) := ⟨by
  rw [t21]; exact holds_bifG (fun x => some [(tInt .u64).arg x]) (fun _ => rfl) (fun _ => rfl)⟩
theorem o21 (B : Base) : SummOk tcx 21 S21 := summ2 B (g29 B) h21 (by kernel_rfl)

def L55 : List (FuncId × Summ) := [(77, S77), (64, S64), (68, S68)]
theorem g55 (B : Base) : Good L55 := ((Good.nil.cons (o68 B) (mkSumm_loc _ _)).cons (o64 B) (mkSumm_loc _ _)).cons (o77 B) (mkSumm_loc _ _)
theorem t55 (v : Vcpu) (t : Trap) : rf L55 55 [tVcpu.arg v, tTrap.arg t] [tBool.sig] =
    br (decOk t.tval)
      (need ((decOk t.tval == true) == true) (need ((decOk t.tval == true) == (true == true)) (need ((decOk t.tval == true) == (true == true)) (br (okW t.tval) (br (t.cause == 2) (boolT (svB v.core)) (boolT false)) (boolT false)))))
      (need ((decOk t.tval == true) == false) (need ((decOk t.tval == true) == (false == true)) (need ((decOk t.tval == true) == (false == true)) (need (!decOk t.tval) (boolT false))))) := by kernel_rfl
theorem h55 (v : Vcpu) (t : Trap) (_ : OkAs [tVcpu.arg v, tTrap.arg t]) (_ : AllT []) : Says (rf L55 55 [tVcpu.arg v, tTrap.arg t] [tBool.sig]) (· = some [tBool.arg (canB v t)]) := ⟨by
  rw [t55]
  refine ⟨fun h => ⟨by rw [h]; rfl, by rw [h]; rfl, by rw [h]; rfl, ?_⟩, fun h => ⟨by rw [h]; rfl, by rw [h]; rfl, by rw [h]; rfl, by rw [h]; rfl, ?_⟩⟩
  · exact holds_bifG (fun x => some [tBool.arg x]) (fun _ => holds_bifG (fun x => some [tBool.arg x]) (fun _ => rfl) (fun _ => rfl)) (fun _ => rfl)
  · have : okW t.tval = false := by simp only [okW, h, cond_false]
    show _ = _
    simp only [canB, this, cond_false]⟩
theorem o55 (B : Base) : SummOk tcx 55 S55 := summ2 B (g55 B) h55 (by kernel_rfl)

/-! ### Delivery and the handler -/
def S18 : Summ := mkSumm [tVcpu.sig, (tInt .u64).sig] (sp2 tVcpu (tInt .u64) fun v t => ([decide (v.log.length < 900000)], [tVcpu.arg (bif !pendB v t then v else v.inject t), tBool.arg (pendB v t)]))
def L18 : List (FuncId × Summ) := [(29, S29), (30, S30)]
theorem g18 (B : Base) : Good L18 := (Good.nil.cons (o30 B) (mkSumm_loc _ _)).cons (o29 B) (mkSumm_loc _ _)
abbrev vbT (v : Vcpu) (b : Bool) : Tree (Option (List Arg)) := leaf (some [tVcpu.arg v, tBool.arg b])
theorem t18 (v : Vcpu) (t : Int) : rf L18 18 [tVcpu.arg v, (tInt .u64).arg t] [tVcpu.sig, tBool.sig] = br (!pendB v t) (vbT v false) (need (decide (v.log.length < 900000)) (vbT (v.inject t) true)) := by kernel_rfl
theorem h18 (v : Vcpu) (t : Int) (_ : OkAs [tVcpu.arg v, (tInt .u64).arg t]) (hn : AllT [decide (v.log.length < 900000)]) :
    Says (rf L18 18 [tVcpu.arg v, (tInt .u64).arg t] [tVcpu.sig, tBool.sig]) (· = some [tVcpu.arg (bif !pendB v t then v else v.inject t), tBool.arg (pendB v t)]) := ⟨by
  rw [t18]
  refine ⟨fun h => ?_, fun h => ⟨hn _ (List.mem_cons_self ..), ?_⟩⟩
  all_goals show _ = _
  · have : pendB v t = false := by simpa using h
    simp only [this, Bool.not_false, cond_true]
  · have : pendB v t = true := by simpa using h
    simp only [this, Bool.not_true, cond_false]⟩
theorem o18 (B : Base) : SummOk tcx 18 S18 := summ2 B (g18 B) h18 (by kernel_rfl)

def monB (t : Trap) : Bool := bif t.cause == 6 then true else t.cause == 0
def handleX (v : Vcpu) (t : Trap) (time : Int) : Vcpu := bif monB t then v else bif canB v t then emulX v t.tval time else v.reflect t
def S23 : Summ := mkSumm [tVcpu.sig, tTrap.sig, (tInt .u64).sig] (sp3 tVcpu tTrap (tInt .u64) fun v t time => ([decide (v.log.length < 1000000), decide (v.out.length < 1000000)], [tVcpu.arg (handleX v t time)]))
def L23 : List (FuncId × Summ) := [(55, S55), (57, S57), (60, S60)]
theorem g23 (B : Base) : Good L23 := ((Good.nil.cons (o60 B) (mkSumm_loc _ _)).cons (o57 B) (mkSumm_loc _ _)).cons (o55 B) (mkSumm_loc _ _)
theorem t23 (v : Vcpu) (t : Trap) (time : Int) : rf L23 23 [tVcpu.arg v, tTrap.arg t, (tInt .u64).arg time] [tVcpu.sig] =
    br (t.cause == 6) (vT v) (br (t.cause == 0) (vT v) (br (canB v t) (need (decide (v.log.length < 1000000)) (need (decide (v.out.length < 1000000)) (vT (emulX v t.tval time)))) (vT (v.reflect t)))) := by kernel_rfl
theorem h23 (v : Vcpu) (t : Trap) (time : Int) (_ : OkAs [tVcpu.arg v, tTrap.arg t, (tInt .u64).arg time]) (hn : AllT [decide (v.log.length < 1000000), decide (v.out.length < 1000000)]) :
    Says (rf L23 23 [tVcpu.arg v, tTrap.arg t, (tInt .u64).arg time] [tVcpu.sig]) (· = some [tVcpu.arg (handleX v t time)]) := ⟨by
  rw [t23]
  have h1 := hn _ (List.mem_cons_self ..)
  have h2 := hn _ (List.mem_cons_of_mem _ (List.mem_cons_self ..))
  refine ⟨fun a => ?_, fun a => ⟨fun b => ?_, fun b => ⟨fun c => ⟨h1, h2, ?_⟩, fun c => ?_⟩⟩⟩
  all_goals show _ = _
  all_goals simp only [handleX, monB, *, cond_true, cond_false]⟩
theorem o23 (B : Base) : SummOk tcx 23 S23 := summ3 B (g23 B) h23 (by kernel_rfl)
end Go.Sx
