/-
  The small functions of the program: registers, control registers, status, as plain Lean functions; their summaries.
  Conditions: none; each summary holds of the program's function.
-/
import Derived.Test.YtcibdpbblleafaaGreatDoorMoA
namespace Go.Sx
open Go Go.RowKit Tree

def svB (c : Core) : Bool := band .u32 c.csr.c0 1 != 0
def ieB (c : Core) : Bool := band .u32 c.csr.c0 2 != 0
def cmpM (c : Csrs) : Int := bor .u64 (shlI .u64 (IntKind.u64.wrap c.c10) 32) (IntKind.u64.wrap c.c9)
def Regs.clear0 (r : Regs) : Regs := { r with r0 := 0 }
def masksM : Csrs := ⟨14, 4294967292, 4294967295, 4294967295, 4294967292, 4294967292, 4294967295, 0, 0, 4294967295, 4294967295, 4294967295⟩
def inB (n : Int) (i : Int) (lo : Int) : Bool := bif decide (i > lo) then decide (i < n) else false
def Regs.get (r : Regs) (i : Int) : Int := bif decide (i > 0) then (bif decide (i < 16) then pick i r.list else 0) else 0
def Regs.put (r : Regs) (i v : Int) : Regs :=
  ⟨upI i 0 v r.r0, upI i 1 v r.r1, upI i 2 v r.r2, upI i 3 v r.r3, upI i 4 v r.r4, upI i 5 v r.r5, upI i 6 v r.r6, upI i 7 v r.r7, upI i 8 v r.r8, upI i 9 v r.r9, upI i 10 v r.r10, upI i 11 v r.r11, upI i 12 v r.r12, upI i 13 v r.r13, upI i 14 v r.r14, upI i 15 v r.r15⟩
def Regs.set (r : Regs) (i v : Int) : Regs := bif decide (i > 0) then (bif decide (i < 16) then r.put i v else r) else r
def Csrs.read (c : Csrs) (t i : Int) : Int :=
  bif i == 7 then IntKind.u32.wrap t else
  bif i == 8 then IntKind.u32.wrap (shrI .u64 t 32) else
  bif decide (i ≥ 0) then (bif decide (i < 12) then pick i c.list else 0) else 0
def Csrs.put (c : Csrs) (i v : Int) : Csrs :=
  ⟨upI i 0 v c.c0, upI i 1 v c.c1, upI i 2 v c.c2, upI i 3 v c.c3, upI i 4 v c.c4, upI i 5 v c.c5, upI i 6 v c.c6, upI i 7 v c.c7, upI i 8 v c.c8, upI i 9 v c.c9, upI i 10 v c.c10, upI i 11 v c.c11⟩
def Csrs.write (c : Csrs) (i v : Int) : Csrs :=
  bif decide (i ≥ 0) then (bif decide (i < 12) then
    c.put i (bor .u32 (bandn .u32 (pick i c.list) (pick i masksM.list)) (band .u32 v (pick i masksM.list))) else c) else c
def Core.adv (c : Core) (v : Int) : Core := { c with pc := IntKind.u32.wrap (c.pc + v) }

/-- The status behind a trap. -/
def stIn (s : Int) : Int :=
  bif band .u32 s 1 != 0 then
    (bif band .u32 s 2 != 0 then bandn .u32 (bor .u32 (bor .u32 (bor .u32 s 4) 8) 1) 2 else bandn .u32 (bor .u32 (bandn .u32 (bor .u32 s 4) 8) 1) 2)
  else
    (bif band .u32 s 2 != 0 then bandn .u32 (bor .u32 (bor .u32 (bandn .u32 s 4) 8) 1) 2 else bandn .u32 (bor .u32 (bandn .u32 (bandn .u32 s 4) 8) 1) 2)
def stBack (s : Int) : Int :=
  bif band .u32 s 4 != 0 then
    (bif band .u32 s 8 != 0 then bor .u32 (bor .u32 s 1) 2 else bandn .u32 (bor .u32 s 1) 2)
  else
    (bif band .u32 s 8 != 0 then bor .u32 (bandn .u32 s 1) 2 else bandn .u32 (bandn .u32 s 1) 2)

def Core.enter (c : Core) (t : Trap) : Core :=
  bif t.cause == 0 then c else
  { regs := c.regs, pc := c.csr.c4, csr := { c.csr with c0 := stIn c.csr.c0, c1 := c.pc, c2 := IntKind.u32.wrap t.cause, c3 := t.tval } }
def Core.back (c : Core) : Core := { regs := c.regs, pc := c.csr.c1, csr := { c.csr with c0 := stBack c.csr.c0 } }

/-! ### The summaries -/
def S34 : Summ := mkSumm [tCore.sig] (sp1 tCore fun c => ([], [tBool.arg (ieB c)]))
def S68 : Summ := mkSumm [tCore.sig] (sp1 tCore fun c => ([], [tBool.arg (svB c)]))
def S36 : Summ := mkSumm [tCsrs.sig] (sp1 tCsrs fun c => ([], [(tInt .u64).arg (cmpM c)]))
def S37 : Summ := mkSumm [tRegs.sig] (sp1 tRegs fun r => ([], [tRegs.arg r.clear0]))
def S103 : Summ := mkSumm [] (sp0 ([], [tCsrs.arg masksM]))
def S80 : Summ := mkSumm [tRegs.sig, (tInt .i64).sig] (sp2 tRegs (tInt .i64) fun r i => ([], [(tInt .u32).arg (r.get i)]))
def S82 : Summ := mkSumm [tRegs.sig, (tInt .i64).sig, (tInt .u32).sig] (sp3 tRegs (tInt .i64) (tInt .u32) fun r i v => ([], [tRegs.arg (r.set i v)]))
def S83 : Summ := mkSumm [tCsrs.sig, (tInt .u64).sig, (tInt .i64).sig] (sp3 tCsrs (tInt .u64) (tInt .i64) fun c t i => ([], [(tInt .u32).arg (c.read t i)]))
def S84 : Summ := mkSumm [tCsrs.sig, (tInt .i64).sig, (tInt .u32).sig] (sp3 tCsrs (tInt .i64) (tInt .u32) fun c i v => ([], [tCsrs.arg (c.write i v)]))
def S61 : Summ := mkSumm [tCore.sig, tTrap.sig] (sp2 tCore tTrap fun c t => ([], [tCore.arg (c.enter t)]))
def S81 : Summ := mkSumm [tCore.sig] (sp1 tCore fun c => ([], [tCore.arg c.back]))
def S85 : Summ := mkSumm [tCore.sig, (tInt .u32).sig] (sp2 tCore (tInt .u32) fun c v => ([], [tCore.arg (c.adv v)]))

section


theorem t34 (c : Core) : rf [] 34 [tCore.arg c] [tBool.sig] = leaf (some [tBool.arg (ieB c)]) := by kernel_rfl
theorem o34 (B : Base) : SummOk tcx 34 S34 := summ1 B Good.nil (rs := [tBool.sig]) (fun c _ _ => ⟨by rw [t34]; rfl⟩) (by kernel_rfl)

theorem t68 (c : Core) : rf [] 68 [tCore.arg c] [tBool.sig] = leaf (some [tBool.arg (svB c)]) := by kernel_rfl
theorem o68 (B : Base) : SummOk tcx 68 S68 := summ1 B Good.nil (rs := [tBool.sig]) (fun c _ _ => ⟨by rw [t68]; rfl⟩) (by kernel_rfl)

theorem t36 (c : Csrs) : rf [] 36 [tCsrs.arg c] [(tInt .u64).sig] = need (decide ((0 : Int) ≤ 32)) (leaf (some [(tInt .u64).arg (cmpM c)])) := by kernel_rfl
theorem o36 (B : Base) : SummOk tcx 36 S36 := summ1 B Good.nil (rs := [(tInt .u64).sig]) (fun c _ _ => ⟨by rw [t36]; exact ⟨rfl, rfl⟩⟩) (by kernel_rfl)

theorem t37 (c : Regs) : rf [] 37 [tRegs.arg c] [tRegs.sig] = leaf (some [tRegs.arg c.clear0]) := by kernel_rfl
theorem o37 (B : Base) : SummOk tcx 37 S37 := summ1 B Good.nil (rs := [tRegs.sig]) (fun c _ _ => ⟨by rw [t37]; rfl⟩) (by kernel_rfl)

theorem t103 : rf [] 103 [] [tCsrs.sig] = leaf (some [tCsrs.arg masksM]) := by kernel_rfl
theorem o103 (B : Base) : SummOk tcx 103 S103 := summ0 B Good.nil (rs := [tCsrs.sig]) (fun _ => ⟨by rw [t103]; rfl⟩) (by kernel_rfl)

theorem t80 (r : Regs) (i : Int) : rf [] 80 [tRegs.arg r, (tInt .i64).arg i] [(tInt .u32).sig] =
    br (decide (i > 0)) (br (!decide (i < 16)) (leaf (some [(tInt .u32).arg 0])) (need (decide (0 ≤ i)) (need (decide (i < ((16 : Nat) : Int))) (leaf (some [(tInt .u32).arg (pick i r.list)])))))
      (leaf (some [(tInt .u32).arg 0])) := by kernel_rfl
theorem o80 (B : Base) : SummOk tcx 80 S80 := summ2 B Good.nil (rs := [(tInt .u32).sig]) (fun r i _ _ => ⟨by
    rw [t80]
    refine ⟨fun h1 => ⟨fun h2 => ?_, fun h2 => ⟨?_, ?_, ?_⟩⟩, fun h1 => ?_⟩
    · simp only [Bool.not_eq_true'] at h2
      show _ = _
      simp only [Regs.get, h1, h2, cond_true, cond_false]
    · simp at h1 ⊢; omega
    · simp at h2 ⊢; omega
    · simp only [Bool.not_eq_false'] at h2
      show _ = _
      simp only [Regs.get, h1, h2, cond_true]
    · show _ = _
      simp only [Regs.get, h1, cond_false]⟩) (by kernel_rfl)

theorem t82 (r : Regs) (i v : Int) : rf [] 82 [tRegs.arg r, (tInt .i64).arg i, (tInt .u32).arg v] [tRegs.sig] =
    br (decide (i > 0)) (br (decide (i < 16)) (need (decide (0 ≤ i)) (need (decide (i < ((16 : Nat) : Int))) (leaf (some [tRegs.arg (r.put i v)])))) (leaf (some [tRegs.arg r])))
      (leaf (some [tRegs.arg r])) := by kernel_rfl
theorem o82 (B : Base) : SummOk tcx 82 S82 := summ3 B Good.nil (rs := [tRegs.sig]) (fun r i v _ _ => ⟨by
    rw [t82]
    refine ⟨fun h1 => ⟨fun h2 => ⟨?_, ?_, ?_⟩, fun h2 => ?_⟩, fun h1 => ?_⟩
    · simp at h1 ⊢; omega
    · simp at h2 ⊢; omega
    · show _ = _
      simp only [Regs.set, h1, h2, cond_true]
    · show _ = _
      simp only [Regs.set, h1, h2, cond_true, cond_false]
    · show _ = _
      simp only [Regs.set, h1, cond_false]⟩) (by kernel_rfl)

theorem t83 (c : Csrs) (t i : Int) : rf [] 83 [tCsrs.arg c, (tInt .u64).arg t, (tInt .i64).arg i] [(tInt .u32).sig] =
    br (i == 7) (leaf (some [(tInt .u32).arg (IntKind.u32.wrap t)]))
      (br (i == 8) (need (decide ((0 : Int) ≤ 32)) (leaf (some [(tInt .u32).arg (IntKind.u32.wrap (shrI .u64 t 32))])))
        (br (decide (i ≥ 0)) (br (!decide (i < 12)) (leaf (some [(tInt .u32).arg 0])) (need (decide (0 ≤ i)) (need (decide (i < ((12 : Nat) : Int))) (leaf (some [(tInt .u32).arg (pick i c.list)])))))
          (leaf (some [(tInt .u32).arg 0])))) := by kernel_rfl
theorem o83 (B : Base) : SummOk tcx 83 S83 := summ3 B Good.nil (rs := [(tInt .u32).sig]) (fun c t i _ _ => ⟨by
    rw [t83]
    refine ⟨fun h1 => ?_, fun h1 => ⟨fun h2 => ⟨rfl, ?_⟩, fun h2 => ⟨fun h3 => ⟨fun h4 => ?_, fun h4 => ⟨?_, ?_, ?_⟩⟩, fun h3 => ?_⟩⟩⟩
    · show _ = _
      simp only [Csrs.read, h1, cond_true]
    · show _ = _
      simp only [Csrs.read, h1, h2, cond_true, cond_false]
    · simp only [Bool.not_eq_true'] at h4
      show _ = _
      simp only [Csrs.read, h1, h2, h3, h4, cond_true, cond_false]
    · simp at h3 ⊢; omega
    · simp at h4 ⊢; omega
    · simp only [Bool.not_eq_false'] at h4
      show _ = _
      simp only [Csrs.read, h1, h2, h3, h4, cond_true, cond_false]
    · show _ = _
      simp only [Csrs.read, h1, h2, h3, cond_false]⟩) (by kernel_rfl)

def L84 : List (FuncId × Summ) := [(103, S103)]
theorem g84 (B : Base) : Good L84 := Good.nil.cons (o103 B) (mkSumm_loc _ _)
theorem t84 (c : Csrs) (i v : Int) : rf L84 84 [tCsrs.arg c, (tInt .i64).arg i, (tInt .u32).arg v] [tCsrs.sig] =
    br (decide (i ≥ 0)) (br (decide (i < 12)) (need (decide (0 ≤ i)) (need (decide (i < ((12 : Nat) : Int))) (need (decide (0 ≤ i)) (need (decide (i < ((12 : Nat) : Int))) (need (decide (0 ≤ i)) (need (decide (i < ((12 : Nat) : Int)))
        (need (decide (0 ≤ i)) (need (decide (i < ((12 : Nat) : Int))) (leaf (some [tCsrs.arg (c.put i (bor .u32 (bandn .u32 (pick i c.list) (pick i masksM.list)) (band .u32 v (pick i masksM.list))))])))))))))) (leaf (some [tCsrs.arg c])))
      (leaf (some [tCsrs.arg c])) := by kernel_rfl
theorem o84 (B : Base) : SummOk tcx 84 S84 := summ3 B (g84 B) (rs := [tCsrs.sig]) (fun c i v _ _ => ⟨by
    rw [t84]
    refine ⟨fun h1 => ⟨fun h2 => ?_, fun h2 => ?_⟩, fun h1 => ?_⟩
    · have q1 : decide (0 ≤ i) = true := by simp at h1 ⊢; omega
      have q2 : decide (i < ((12 : Nat) : Int)) = true := by simp at h2 ⊢; omega
      refine ⟨q1, q2, q1, q2, q1, q2, q1, q2, ?_⟩
      show _ = _
      simp only [Csrs.write, h1, h2, cond_true]
    · show _ = _
      simp only [Csrs.write, h1, h2, cond_true, cond_false]
    · show _ = _
      simp only [Csrs.write, h1, cond_false]⟩) (by kernel_rfl)

theorem t61 (c : Core) (t : Trap) : rf [] 61 [tCore.arg c, tTrap.arg t] [tCore.sig] =
    br (t.cause == 0) (leaf (some [tCore.arg c]))
      (br (band .u32 c.csr.c0 1 != 0)
        (br (band .u32 c.csr.c0 2 != 0)
          (leaf (some [tCore.arg { regs := c.regs, pc := c.csr.c4, csr := { c.csr with c0 := bandn .u32 (bor .u32 (bor .u32 (bor .u32 c.csr.c0 4) 8) 1) 2, c1 := c.pc, c2 := IntKind.u32.wrap t.cause, c3 := t.tval } }]))
          (leaf (some [tCore.arg { regs := c.regs, pc := c.csr.c4, csr := { c.csr with c0 := bandn .u32 (bor .u32 (bandn .u32 (bor .u32 c.csr.c0 4) 8) 1) 2, c1 := c.pc, c2 := IntKind.u32.wrap t.cause, c3 := t.tval } }])))
        (br (band .u32 c.csr.c0 2 != 0)
          (leaf (some [tCore.arg { regs := c.regs, pc := c.csr.c4, csr := { c.csr with c0 := bandn .u32 (bor .u32 (bor .u32 (bandn .u32 c.csr.c0 4) 8) 1) 2, c1 := c.pc, c2 := IntKind.u32.wrap t.cause, c3 := t.tval } }]))
          (leaf (some [tCore.arg { regs := c.regs, pc := c.csr.c4, csr := { c.csr with c0 := bandn .u32 (bor .u32 (bandn .u32 (bandn .u32 c.csr.c0 4) 8) 1) 2, c1 := c.pc, c2 := IntKind.u32.wrap t.cause, c3 := t.tval } }])))) := by kernel_rfl
theorem o61 (B : Base) : SummOk tcx 61 S61 := summ2 B Good.nil (rs := [tCore.sig]) (fun c t _ _ => ⟨by
    rw [t61]
    refine ⟨fun h1 => ?_, fun h1 => ⟨fun h2 => ⟨fun h3 => ?_, fun h3 => ?_⟩, fun h2 => ⟨fun h3 => ?_, fun h3 => ?_⟩⟩⟩
    all_goals show _ = _
    · simp only [Core.enter, h1, cond_true]
    all_goals simp only [Core.enter, stIn, h1, h2, h3, cond_true, cond_false]⟩) (by kernel_rfl)

theorem t81 (c : Core) : rf [] 81 [tCore.arg c] [tCore.sig] =
      (br (band .u32 c.csr.c0 4 != 0)
        (br (band .u32 c.csr.c0 8 != 0)
          (leaf (some [tCore.arg { regs := c.regs, pc := c.csr.c1, csr := { c.csr with c0 := bor .u32 (bor .u32 c.csr.c0 1) 2 } }]))
          (leaf (some [tCore.arg { regs := c.regs, pc := c.csr.c1, csr := { c.csr with c0 := bandn .u32 (bor .u32 c.csr.c0 1) 2 } }])))
        (br (band .u32 c.csr.c0 8 != 0)
          (leaf (some [tCore.arg { regs := c.regs, pc := c.csr.c1, csr := { c.csr with c0 := bor .u32 (bandn .u32 c.csr.c0 1) 2 } }]))
          (leaf (some [tCore.arg { regs := c.regs, pc := c.csr.c1, csr := { c.csr with c0 := bandn .u32 (bandn .u32 c.csr.c0 1) 2 } }])))) := by kernel_rfl
theorem o81 (B : Base) : SummOk tcx 81 S81 := summ1 B Good.nil (rs := [tCore.sig]) (fun c _ _ => ⟨by
    rw [t81]
    refine ⟨fun h2 => ⟨fun h3 => ?_, fun h3 => ?_⟩, fun h2 => ⟨fun h3 => ?_, fun h3 => ?_⟩⟩
    all_goals show _ = _
    all_goals simp only [Core.back, stBack, h2, h3, cond_true, cond_false]⟩) (by kernel_rfl)

theorem t85 (c : Core) (v : Int) : rf [] 85 [tCore.arg c, (tInt .u32).arg v] [tCore.sig] = leaf (some [tCore.arg (c.adv v)]) := by kernel_rfl
theorem o85 (B : Base) : SummOk tcx 85 S85 := summ2 B Good.nil (rs := [tCore.sig]) (fun c v _ _ => ⟨by rw [t85]; rfl⟩) (by kernel_rfl)
end
end Go.Sx
