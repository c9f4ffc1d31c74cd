/-
  The functions on bits and instructions, as plain Lean functions; their summaries.
  Conditions: none; each summary holds of the program's function.
-/
import Derived.Test.YtcibdpbblleafaaGreatDoorMoB
namespace Go.Sx
open Go Go.RowKit Tree

def formsL : List Int := [0, 1, 1, 1, 1, 1, 1, 1, 1, 2, 3, 2, 2, 2, 2, 2, 2, 2, 3, 2, 4, 5, 6, 4, 4, 7]
def formM (o : Int) : Int := bif decide (o < 0) then 0 else bif decide (o ≥ 26) then 0 else pick o formsL
def privB (o : Int) : Bool := bif decide (o ≥ 21) then decide (o ≤ 25) else false
def regB (n : Int) (has : Bool) : Bool := bif n == 0 then true else bif has then (bif decide (n > 0) then decide (n < 16) else false) else false

def S93 : Summ := mkSumm [(tInt .i64).sig] (sp1 (tInt .i64) fun o => ([], [(tInt .i64).arg (formM o)]))
def S64 : Summ := mkSumm [(tInt .i64).sig] (sp1 (tInt .i64) fun o => ([], [tBool.arg (privB o)]))
def S123 : Summ := mkSumm [(tInt .i64).sig, tBool.sig] (sp2 (tInt .i64) tBool fun n h => ([], [tBool.arg (regB n h)]))

theorem t93 (o : Int) : rf [] 93 [(tInt .i64).arg o] [(tInt .i64).sig] = br (decide (o < 0)) (leaf (some [(tInt .i64).arg 0])) (br (decide (o ≥ 26)) (leaf (some [(tInt .i64).arg 0]))
    (need (decide (0 ≤ o)) (need (decide (o < ((26 : Nat) : Int))) (leaf (some [(tInt .i64).arg (pick o formsL)]))))) := by kernel_rfl
theorem o93 (B : Base) : SummOk tcx 93 S93 := summ1 B Good.nil (rs := [(tInt .i64).sig]) (fun o _ _ => ⟨by
    rw [t93]
    refine ⟨fun h1 => ?_, fun h1 => ⟨fun h2 => ?_, fun h2 => ⟨?_, ?_, ?_⟩⟩⟩
    · show _ = _
      simp only [formM, h1, cond_true]
    · show _ = _
      simp only [formM, h1, h2, cond_true, cond_false]
    · simp at h1 ⊢; omega
    · simp at h2 ⊢; omega
    · show _ = _
      simp only [formM, h1, h2, cond_false]⟩) (by kernel_rfl)

theorem t64 (o : Int) : rf [] 64 [(tInt .i64).arg o] [tBool.sig] = br (decide (o ≥ 21)) (leaf (some [tBool.arg (decide (o ≤ 25))])) (leaf (some [tBool.arg false])) := by kernel_rfl
theorem o64 (B : Base) : SummOk tcx 64 S64 := summ1 B Good.nil (rs := [tBool.sig]) (fun o _ _ => ⟨by
    rw [t64]
    refine ⟨fun h1 => ?_, fun h1 => ?_⟩
    all_goals show _ = _
    all_goals simp only [privB, h1, cond_true, cond_false]⟩) (by kernel_rfl)

theorem t123 (n : Int) (h : Bool) : rf [] 123 [(tInt .i64).arg n, tBool.arg h] [tBool.sig] =
    br (n == 0) (leaf (some [tBool.arg true])) (br h (br (decide (n > 0)) (leaf (some [tBool.arg (decide (n < 16))])) (leaf (some [tBool.arg false]))) (leaf (some [tBool.arg false]))) := by kernel_rfl
theorem o123 (B : Base) : SummOk tcx 123 S123 := summ2 B Good.nil (rs := [tBool.sig]) (fun n h _ _ => ⟨by
    rw [t123]
    refine ⟨fun h1 => ?_, fun h1 => ⟨fun h2 => ⟨fun h3 => ?_, fun h3 => ?_⟩, fun h2 => ?_⟩⟩
    all_goals show _ = _
    · simp only [regB, h1, cond_true]
    · simp only [regB, h1, h2, h3, cond_true, cond_false]
    · simp only [regB, h1, h2, h3, cond_true, cond_false]
    · simp only [regB, h1, h2, cond_false]⟩) (by kernel_rfl)

/-! ### Valid instructions -/
def rdL : List Bool := [false, true, true, true, false, true, false, false]
def raL : List Bool := [false, true, true, false, false, false, true, true]
def rbL : List Bool := [false, true, false, false, false, false, false, false]
def immL : List Bool := [false, false, true, true, false, false, false, false]
def csrL : List Bool := [false, false, false, false, false, true, true, false]
def sh14 : Int := IntKind.u64.wrap (IntKind.i64.wrap (32 - 18))
def sext (v : Int) : Int := shrI .i32 (IntKind.i32.wrap (shlI .u32 v sh14)) sh14
def fitsB (v : Int) : Bool := sext (IntKind.u32.wrap v) == v
def validRest (i : Instr) (f : Int) : Bool := bif regB i.rd (pickB f rdL) then (bif regB i.ra (pickB f raL) then regB i.rb (pickB f rbL) else false) else false
def validCsr (i : Instr) (f : Int) : Bool := bif pickB f csrL then (bif decide (i.imm > 0) then (bif decide (i.imm < 12) then validRest i f else false) else false) else false
def validM (i : Instr) : Bool :=
  bif formM i.op == 0 then false else
  bif i.imm == 0 then validRest i (formM i.op) else
  bif pickB (formM i.op) immL then (bif fitsB i.imm then validRest i (formM i.op) else validCsr i (formM i.op)) else validCsr i (formM i.op)

def restT (i : Instr) (f : Int) : Tree (Option (List Arg)) :=
  br (regB i.rd (pickB f rdL)) (br (regB i.ra (pickB f raL)) (leaf (some [tBool.arg (regB i.rb (pickB f rbL))])) (leaf (some [tBool.arg false]))) (leaf (some [tBool.arg false]))
def csrT (i : Instr) (f : Int) : Tree (Option (List Arg)) :=
  br (pickB f csrL) (br (decide (i.imm > 0)) (br (decide (i.imm < 12)) (restT i f) (leaf (some [tBool.arg false]))) (leaf (some [tBool.arg false]))) (leaf (some [tBool.arg false]))

theorem restT_ok (i : Instr) (f : Int) : (restT i f).Holds (· = some [tBool.arg (validRest i f)]) := by
  refine ⟨fun h1 => ⟨fun h2 => ?_, fun h2 => ?_⟩, fun h1 => ?_⟩
  all_goals show _ = _
  · simp only [validRest, h1, h2, cond_true]
  · simp only [validRest, h1, h2, cond_true, cond_false]
  · simp only [validRest, h1, cond_false]
theorem csrT_ok (i : Instr) (f : Int) : (csrT i f).Holds (· = some [tBool.arg (validCsr i f)]) := by
  refine ⟨fun h1 => ⟨fun h2 => ⟨fun h3 => ?_, fun h3 => ?_⟩, fun h2 => ?_⟩, fun h1 => ?_⟩
  · have := restT_ok i f
    simpa only [validCsr, h1, h2, h3, cond_true] using this
  all_goals show _ = _
  · simp only [validCsr, h1, h2, h3, cond_true, cond_false]
  · simp only [validCsr, h1, h2, cond_true, cond_false]
  · simp only [validCsr, h1, cond_false]

theorem pick_forms (o : Int) : 0 ≤ pick o formsL ∧ pick o formsL < 8 := by
  unfold pick
  have h : ∀ v ∈ formsL, 0 ≤ v ∧ v < 8 := by decide
  cases hx : formsL[o.toNat]? with
  | none => simp [hx]
  | some v =>
    have := h v (List.mem_of_getElem? hx)
    simpa [hx] using this
theorem form_range (o : Int) : 0 ≤ formM o ∧ formM o < 8 := by
  unfold formM
  cases decide (o < 0) <;> cases decide (o ≥ 26) <;> simp only [cond_true, cond_false] <;> first | exact pick_forms o | omega

def L114 : List (FuncId × Summ) := [(93, S93), (123, S123)]
theorem g114 (B : Base) : Good L114 := (Good.nil.cons (o123 B) (mkSumm_loc _ _)).cons (o93 B) (mkSumm_loc _ _)
def S114 : Summ := mkSumm [tInstr.sig] (sp1 tInstr fun i => ([], [tBool.arg (validM i)]))
theorem t114 (i : Instr) : rf L114 114 [tInstr.arg i] [tBool.sig] =
    br (formM i.op == 0) (leaf (some [tBool.arg false])) (need (decide (0 ≤ formM i.op)) (need (decide (formM i.op < ((8 : Nat) : Int)))
      (br (i.imm == 0) (restT i (formM i.op))
        (br (pickB (formM i.op) immL) (need (decide (0 ≤ sh14)) (need (decide (0 ≤ sh14)) (br (fitsB i.imm) (restT i (formM i.op)) (csrT i (formM i.op))))) (csrT i (formM i.op)))))) := by kernel_rfl
theorem o114 (B : Base) : SummOk tcx 114 S114 := summ1 B (g114 B) (rs := [tBool.sig]) (fun i _ _ => ⟨by
    rw [t114]
    have hf := form_range i.op
    refine ⟨fun h1 => ?_, fun h1 => ⟨by simp; omega, by simp; omega, fun h2 => ?_, fun h2 => ⟨fun h3 => ⟨by decide, by decide, fun h4 => ?_, fun h4 => ?_⟩, fun h3 => ?_⟩⟩⟩
    · show _ = _
      simp only [validM, h1, cond_true]
    · have := restT_ok i (formM i.op)
      simpa only [validM, h1, h2, cond_true, cond_false] using this
    · have := restT_ok i (formM i.op)
      simpa only [validM, h1, h2, h3, h4, cond_true, cond_false] using this
    · have := csrT_ok i (formM i.op)
      simpa only [validM, h1, h2, h3, h4, cond_true, cond_false] using this
    · have := csrT_ok i (formM i.op)
      simpa only [validM, h1, h2, h3, cond_true, cond_false] using this⟩) (by kernel_rfl)

/-! ### Encoding and decoding -/
def lowMask (n : Int) : Int := IntKind.u64.wrap (shlI .u64 (IntKind.u64.wrap 1) (IntKind.u64.wrap n) - 1)
def extM (w a n : Int) : Int := IntKind.u32.wrap (band .u64 (shrI .u64 (IntKind.u64.wrap w) (IntKind.u64.wrap a)) (lowMask n))
def insM (w a n v : Int) : Int :=
  bor .u32 (bandn .u32 w (shlI .u32 (IntKind.u32.wrap (band .u64 18446744073709551615 (lowMask n))) (IntKind.u64.wrap a)))
    (shlI .u32 (IntKind.u32.wrap (band .u64 (IntKind.u64.wrap v) (lowMask n))) (IntKind.u64.wrap a))
def encW (i : Instr) : Int :=
  insM (insM (insM (bor .u32 (extM (IntKind.u32.wrap i.imm) 0 18) (IntKind.u32.wrap i.rb)) 26 6 (IntKind.u32.wrap i.op)) 22 4 (IntKind.u32.wrap i.rd)) 18 4 (IntKind.u32.wrap i.ra)
def encM (i : Instr) : Int := bif validM i then encW i else 0
def Instr.none : Instr := ⟨0, 0, 0, 0, 0⟩
def decOp (w : Int) : Int := IntKind.i64.wrap (extM w 26 6)
def decI (w : Int) : Instr :=
  bif pickB (formM (decOp w)) rbL then ⟨decOp w, IntKind.i64.wrap (extM w 22 4), IntKind.i64.wrap (extM w 18 4), IntKind.i64.wrap (extM w 0 4), 0⟩
  else ⟨decOp w, IntKind.i64.wrap (extM w 22 4), IntKind.i64.wrap (extM w 18 4), 0, sext w⟩
def decOk (w : Int) : Bool := bif validM (decI w) then !(encM (decI w) != w) else false
def decM (w : Int) : Instr := bif decOk w then decI w else Instr.none

def S97 : Summ := mkSumm [(tInt .u32).sig, (tInt .i64).sig, (tInt .i64).sig] (sp3 (tInt .u32) (tInt .i64) (tInt .i64) fun w a n => ([], [(tInt .u32).arg (extM w a n)]))
def S115 : Summ := mkSumm [(tInt .u32).sig, (tInt .i64).sig, (tInt .i64).sig, (tInt .u32).sig] (sp4 (tInt .u32) (tInt .i64) (tInt .i64) (tInt .u32) fun w a n v => ([], [(tInt .u32).arg (insM w a n v)]))
def S116 : Summ := mkSumm [(tInt .i32).sig, (tInt .i64).sig] (sp2 (tInt .i32) (tInt .i64) fun v n => ([], [(tInt .u32).arg (extM (IntKind.u32.wrap v) 0 n)]))
def S99 : Summ := mkSumm [tInstr.sig] (sp1 tInstr fun i => ([], [(tInt .u32).arg (encM i), tBool.arg (validM i)]))
def S77 : Summ := mkSumm [(tInt .u32).sig] (sp1 (tInt .u32) fun w => ([], [tInstr.arg (decM w), tBool.arg (decOk w)]))

theorem u64_pos (v : Int) : decide (0 ≤ IntKind.u64.wrap v) = true := by
  have := (wrap_InR .u64 v).1
  simp only [IntKind.min, IntKind.signed] at this
  simpa using this

theorem t97 (w a n : Int) : rf [] 97 [(tInt .u32).arg w, (tInt .i64).arg a, (tInt .i64).arg n] [(tInt .u32).sig] =
    need (decide (0 ≤ IntKind.u64.wrap a)) (need (decide (0 ≤ IntKind.u64.wrap n)) (leaf (some [(tInt .u32).arg (extM w a n)]))) := by kernel_rfl
theorem o97 (B : Base) : SummOk tcx 97 S97 := summ3 B Good.nil (rs := [(tInt .u32).sig]) (fun w a n _ _ => ⟨by
    rw [t97]; exact ⟨u64_pos _, u64_pos _, rfl⟩⟩) (by kernel_rfl)
theorem t115 (w a n v : Int) : rf [] 115 [(tInt .u32).arg w, (tInt .i64).arg a, (tInt .i64).arg n, (tInt .u32).arg v] [(tInt .u32).sig] =
    need (decide (0 ≤ IntKind.u64.wrap n)) (need (decide (0 ≤ IntKind.u64.wrap a)) (need (decide (0 ≤ IntKind.u64.wrap n)) (need (decide (0 ≤ IntKind.u64.wrap a)) (leaf (some [(tInt .u32).arg (insM w a n v)]))))) := by kernel_rfl
theorem o115 (B : Base) : SummOk tcx 115 S115 := summ4 B Good.nil (rs := [(tInt .u32).sig]) (fun w a n v _ _ => ⟨by
    rw [t115]; exact ⟨u64_pos _, u64_pos _, u64_pos _, u64_pos _, rfl⟩⟩) (by kernel_rfl)
def L116 : List (FuncId × Summ) := [(97, S97)]
theorem g116 (B : Base) : Good L116 := Good.nil.cons (o97 B) (mkSumm_loc _ _)
theorem t116 (v n : Int) : rf L116 116 [(tInt .i32).arg v, (tInt .i64).arg n] [(tInt .u32).sig] = leaf (some [(tInt .u32).arg (extM (IntKind.u32.wrap v) 0 n)]) := by kernel_rfl
theorem o116 (B : Base) : SummOk tcx 116 S116 := summ2 B (g116 B) (rs := [(tInt .u32).sig]) (fun v n _ _ => ⟨by rw [t116]; rfl⟩) (by kernel_rfl)

def L99 : List (FuncId × Summ) := [(114, S114), (116, S116), (115, S115)]
theorem g99 (B : Base) : Good L99 := ((Good.nil.cons (o115 B) (mkSumm_loc _ _)).cons (o116 B) (mkSumm_loc _ _)).cons (o114 B) (mkSumm_loc _ _)
theorem t99 (i : Instr) : rf L99 99 [tInstr.arg i] [(tInt .u32).sig, tBool.sig] =
    br (!validM i) (leaf (some [(tInt .u32).arg 0, tBool.arg false])) (leaf (some [(tInt .u32).arg (encW i), tBool.arg true])) := by kernel_rfl
theorem o99 (B : Base) : SummOk tcx 99 S99 := summ1 B (g99 B) (rs := [(tInt .u32).sig, tBool.sig]) (fun i _ _ => ⟨by
    rw [t99]
    refine ⟨fun h => ?_, fun h => ?_⟩
    all_goals show _ = _
    · simp only [Bool.not_eq_true'] at h
      simp only [encM, h, cond_false]
    · simp only [Bool.not_eq_false'] at h
      simp only [encM, h, cond_true]⟩) (by kernel_rfl)

def L77 : List (FuncId × Summ) := [(93, S93), (97, S97), (99, S99)]
theorem g77 (B : Base) : Good L77 := ((Good.nil.cons (o99 B) (mkSumm_loc _ _)).cons (o97 B) (mkSumm_loc _ _)).cons (o93 B) (mkSumm_loc _ _)
def decT (w : Int) (i : Instr) : Tree (Option (List Arg)) :=
  br (!validM i) (leaf (some [tInstr.arg Instr.none, tBool.arg false])) (br (encM i != w) (leaf (some [tInstr.arg Instr.none, tBool.arg false])) (leaf (some [tInstr.arg i, tBool.arg true])))
theorem decT_ok (w : Int) {i : Instr} (h : decI w = i) : (decT w i).Holds (· = some [tInstr.arg (decM w), tBool.arg (decOk w)]) := by
  subst h
  refine ⟨fun h1 => ?_, fun h1 => ⟨fun h2 => ?_, fun h2 => ?_⟩⟩
  all_goals show _ = _
  · simp only [Bool.not_eq_true'] at h1
    have : decOk w = false := by simp only [decOk, h1, cond_false]
    simp only [decM, this, cond_false]
  · simp only [Bool.not_eq_false'] at h1
    have : decOk w = false := by simp only [decOk, h1, h2, cond_true]; rfl
    simp only [decM, this, cond_false]
  · simp only [Bool.not_eq_false'] at h1
    have : decOk w = true := by simp only [decOk, h1, h2, cond_true]; rfl
    simp only [decM, this, cond_true]
theorem t77 (w : Int) : rf L77 77 [(tInt .u32).arg w] [tInstr.sig, tBool.sig] =
    need (decide (0 ≤ formM (decOp w))) (need (decide (formM (decOp w) < ((8 : Nat) : Int)))
      (br (pickB (formM (decOp w)) rbL)
        (decT w ⟨decOp w, IntKind.i64.wrap (extM w 22 4), IntKind.i64.wrap (extM w 18 4), IntKind.i64.wrap (extM w 0 4), 0⟩)
        (need (decide (0 ≤ sh14)) (need (decide (0 ≤ sh14)) (decT w ⟨decOp w, IntKind.i64.wrap (extM w 22 4), IntKind.i64.wrap (extM w 18 4), 0, sext w⟩))))) := by kernel_rfl
theorem o77 (B : Base) : SummOk tcx 77 S77 := summ1 B (g77 B) (rs := [tInstr.sig, tBool.sig]) (fun w _ _ => ⟨by
    rw [t77]
    have hf := form_range (decOp w)
    refine ⟨by simp; omega, by simp; omega, fun h => ?_, fun h => ⟨by decide, by decide, ?_⟩⟩
    · exact decT_ok w (by simp only [decI, h, cond_true])
    · exact decT_ok w (by simp only [decI, h, cond_false])⟩) (by kernel_rfl)
end Go.Sx
