/-
  Emulation of a privileged instruction on a virtual CPU, as a plain Lean function; its summary.
  Conditions: none; the summary holds of the program's function.
-/
import Derived.Test.YtcibdpbblleafaaGreatDoorMoN
namespace Go.Sx
open Go Go.RowKit Tree

def okW (w : Int) : Bool := bif decOk w then privB (decM w).op else false
def readsB (i : Instr) : Bool := bif i.op == 21 then (bif i.imm == 7 then true else i.imm == 8) else false
def Vcpu.tell (v : Vcpu) (i : Instr) (t : Int) : Vcpu := { v with log := v.log ++ [seenX i v.done t] }
def Vcpu.run (v : Vcpu) (i : Instr) (t : Int) : Vcpu := { wmX v (privX (vmX v [] t) i) with done := IntKind.i64.wrap (v.done + 1) }
def emulX (v : Vcpu) (w t : Int) : Vcpu := bif !okW w then v else bif readsB (decM w) then (v.tell (decM w) t).run (decM w) t else v.run (decM w) t

def L57 : List (FuncId × Summ) := [(64, S64), (77, S77), (65, S65), (70, S70), (71, S71), (72, S72)]
theorem g57 (B : Base) : Good L57 :=
  (((((Good.nil.cons (o72 B) (mkSumm_loc _ _)).cons (o71 B) (mkSumm_loc _ _)).cons (o70 B) (mkSumm_loc _ _)).cons (o65 B) (mkSumm_loc _ _)).cons (o77 B) (mkSumm_loc _ _)).cons (o64 B) (mkSumm_loc _ _)
def S57 : Summ := mkSumm [tVcpu.sig, (tInt .u32).sig, (tInt .u64).sig] (sp3 tVcpu (tInt .u32) (tInt .u64) fun v w t => ([decide (v.log.length < 1000000), decide (v.out.length < 1000000)], [tVcpu.arg (emulX v w t)]))
abbrev vT (v : Vcpu) : Tree (Option (List Arg)) := leaf (some [tVcpu.arg v])
def runT (v : Vcpu) (w t : Int) : Tree (Option (List Arg)) := need (decide (v.out.length < 1000000)) (vT (v.run (decM w) t))
def tellT (v : Vcpu) (w t : Int) : Tree (Option (List Arg)) :=
  need (decide ((v.log.length : Int) = (v.log.length : Int))) (need (decide ((v.log.length : Int) = (v.log.length : Int))) (need (decide (v.log.length < 1000000)) (runT (v.tell (decM w) t) w t)))
def goT (v : Vcpu) (w t : Int) : Tree (Option (List Arg)) :=
  br ((decM w).op == 21) (br ((decM w).imm == 7) (tellT v w t) (br ((decM w).imm == 8) (tellT v w t) (runT v w t))) (runT v w t)
theorem t57 (v : Vcpu) (w t : Int) : rf L57 57 [tVcpu.arg v, (tInt .u32).arg w, (tInt .u64).arg t] [tVcpu.sig] =
    br (decOk w)
      (need ((decOk w == true) == true) (need ((decOk w == true) == (true == true)) (need ((decOk w == true) == (true == true)) (br (!okW w) (vT v) (goT v w t)))))
      (need ((decOk w == true) == false) (need ((decOk w == true) == (false == true)) (need ((decOk w == true) == (false == true)) (need (!decOk w) (vT v))))) := by kernel_rfl

abbrev isV (x : Vcpu) : Option (List Arg) → Prop := fun r => r = some [tVcpu.arg x]
theorem goT_ok (v : Vcpu) (w t : Int) (h1 : decide (v.log.length < 1000000) = true) (h2 : decide (v.out.length < 1000000) = true) :
    (goT v w t).Holds (isV (bif readsB (decM w) then (v.tell (decM w) t).run (decM w) t else v.run (decM w) t)) := by
  have tell : (tellT v w t).Holds (isV ((v.tell (decM w) t).run (decM w) t)) := ⟨by simp, by simp, h1, h2, rfl⟩
  have run : (runT v w t).Holds (isV (v.run (decM w) t)) := ⟨h2, rfl⟩
  refine ⟨fun a => ⟨fun b => ?_, fun b => ⟨fun c => ?_, fun c => ?_⟩⟩, fun a => ?_⟩
  · have e : readsB (decM w) = true := by simp only [readsB, a, b, cond_true]
    rw [e]; exact tell
  · have e : readsB (decM w) = true := by simp only [readsB, a, b, c, cond_true, cond_false]
    rw [e]; exact tell
  · have e : readsB (decM w) = false := by simp only [readsB, a, b, c, cond_true, cond_false]
    rw [e]; exact run
  · have e : readsB (decM w) = false := by simp only [readsB, a, cond_false]
    rw [e]; exact run
theorem h57 (v : Vcpu) (w t : Int) (_ : OkAs [tVcpu.arg v, (tInt .u32).arg w, (tInt .u64).arg t]) (hn : AllT [decide (v.log.length < 1000000), decide (v.out.length < 1000000)]) :
    Says (rf L57 57 [tVcpu.arg v, (tInt .u32).arg w, (tInt .u64).arg t] [tVcpu.sig]) (· = some [tVcpu.arg (emulX v w t)]) := ⟨by
  rw [t57]
  have h1 := hn _ (List.mem_cons_self ..)
  have h2 := hn _ (List.mem_cons_of_mem _ (List.mem_cons_self ..))
  refine ⟨fun h => ⟨by rw [h]; rfl, by rw [h]; rfl, by rw [h]; rfl, fun a => ?_, fun a => ?_⟩, fun h => ⟨by rw [h]; rfl, by rw [h]; rfl, by rw [h]; rfl, by rw [h]; rfl, ?_⟩⟩
  · show _ = _
    simp only [emulX, a, cond_true]
  · have := goT_ok v w t h1 h2
    simpa only [emulX, a, cond_false] using this
  · have e : okW w = false := by simp only [okW, h, cond_false]
    show _ = _
    simp only [emulX, e, Bool.not_false, cond_true]⟩
theorem o57 (B : Base) : SummOk tcx 57 S57 := summ3 B (g57 B) h57 (by kernel_rfl)
end Go.Sx
