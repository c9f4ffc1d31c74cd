/-
  Address translation and the memory accesses of a machine, as plain Lean functions; their summaries.
  Conditions: none; each summary holds of the program's function.
-/
import Derived.Test.YtcibdpbblleafaaGreatDoorMoD
namespace Go.Sx
open Go Go.RowKit Tree

def endM (a n : Int) : Int := IntKind.u64.wrap (IntKind.u64.wrap a + IntKind.u64.wrap n)
def trB (base bound s a n : Int) : Bool := bif decide (endM a n > IntKind.u64.wrap bound) then false else bif decide (IntKind.u64.wrap (IntKind.u64.wrap base + endM a n) > IntKind.u64.wrap s) then false else true
def translOk (c : Core) (s a n : Int) : Bool := bif svB c then trB 0 s s a n else trB c.csr.c5 c.csr.c6 s a n
def translP (c : Core) (s a n : Int) : Int := bif translOk c s a n then (bif svB c then IntKind.u32.wrap (0 + a) else IntKind.u32.wrap (c.csr.c5 + a)) else 0
def S120 : Summ := mkSumm [tCore.sig, (tInt .u32).sig, (tInt .u32).sig, (tInt .i64).sig] (sp4 tCore (tInt .u32) (tInt .u32) (tInt .i64) fun c s a n => ([], [(tInt .u32).arg (translP c s a n), tBool.arg (translOk c s a n)]))

def trT (base bound s a n : Int) : Tree (Option (List Arg)) :=
  br (decide (endM a n > IntKind.u64.wrap bound)) (leaf (some [(tInt .u32).arg 0, tBool.arg false]))
    (br (decide (IntKind.u64.wrap (IntKind.u64.wrap base + endM a n) > IntKind.u64.wrap s)) (leaf (some [(tInt .u32).arg 0, tBool.arg false])) (leaf (some [(tInt .u32).arg (IntKind.u32.wrap (base + a)), tBool.arg true])))
theorem trT_ok (base bound s a n : Int) : (trT base bound s a n).Holds (· = some [(tInt .u32).arg (bif trB base bound s a n then IntKind.u32.wrap (base + a) else 0), tBool.arg (trB base bound s a n)]) := by
  refine ⟨fun h1 => ?_, fun h1 => ⟨fun h2 => ?_, fun h2 => ?_⟩⟩
  all_goals show _ = _
  · simp only [trB, h1, cond_true, cond_false]
  · simp only [trB, h1, h2, cond_true, cond_false]
  · simp only [trB, h1, h2, cond_true, cond_false]
theorem t120 (c : Core) (s a n : Int) : rf [] 120 [tCore.arg c, (tInt .u32).arg s, (tInt .u32).arg a, (tInt .i64).arg n] [(tInt .u32).sig, tBool.sig] = br (svB c) (trT 0 s s a n) (trT c.csr.c5 c.csr.c6 s a n) := by kernel_rfl
theorem h120 (c : Core) (s a n : Int) (_ : OkAs [tCore.arg c, (tInt .u32).arg s, (tInt .u32).arg a, (tInt .i64).arg n]) (_ : AllT []) :
    Says (rf [] 120 [tCore.arg c, (tInt .u32).arg s, (tInt .u32).arg a, (tInt .i64).arg n] [(tInt .u32).sig, tBool.sig]) (· = some [(tInt .u32).arg (translP c s a n), tBool.arg (translOk c s a n)]) := ⟨by
  rw [t120]
  refine ⟨fun h => ?_, fun h => ?_⟩
  · have := trT_ok 0 s s a n
    simpa only [translP, translOk, h, cond_true] using this
  · have := trT_ok c.csr.c5 c.csr.c6 s a n
    simpa only [translP, translOk, h, cond_false] using this⟩
theorem o120 (B : Base) : SummOk tcx 120 S120 := summ4 B Good.nil h120 (by kernel_rfl)

def memSize (m : Mach) : Int := IntKind.u32.wrap (m.mem.length : Int)
def resT (m : Mach) (a n : Int) : Trap := bif a.tmod (IntKind.u32.wrap n) != 0 then ⟨4, a⟩ else bif translOk m.core (memSize m) a n then ⟨0, 0⟩ else ⟨3, a⟩
def resP (m : Mach) (a n : Int) : Int := bif a.tmod (IntKind.u32.wrap n) != 0 then 0 else bif translOk m.core (memSize m) a n then translP m.core (memSize m) a n else 0
def S111 : Summ := mkSumm [tMach.sig, (tInt .u32).sig, (tInt .i64).sig] (sp3 tMach (tInt .u32) (tInt .i64) fun m a n => ([oneFour n], [(tInt .u32).arg (resP m a n), tTrap.arg (resT m a n)]))
def L111 : List (FuncId × Summ) := [(120, S120)]
theorem g111 (B : Base) : Good L111 := Good.nil.cons (o120 B) (mkSumm_loc _ _)
theorem t111 (m : Mach) (a n : Int) : rf L111 111 [tMach.arg m, (tInt .u32).arg a, (tInt .i64).arg n] [(tInt .u32).sig, tTrap.sig] =
    need (decide (IntKind.u32.wrap n ≠ 0)) (br (a.tmod (IntKind.u32.wrap n) != 0) (leaf (some [(tInt .u32).arg 0, tTrap.arg ⟨4, a⟩]))
      (br (!translOk m.core (memSize m) a n) (leaf (some [(tInt .u32).arg 0, tTrap.arg ⟨3, a⟩])) (leaf (some [(tInt .u32).arg (translP m.core (memSize m) a n), tTrap.arg ⟨0, 0⟩])))) := by kernel_rfl
theorem oneFour_ne {n : Int} (h : oneFour n = true) : decide (IntKind.u32.wrap n ≠ 0) = true :=
  (oneFour_cases h).elim (fun e => e ▸ rfl) (fun e => e ▸ rfl)
theorem h111 (m : Mach) (a n : Int) (_ : OkAs [tMach.arg m, (tInt .u32).arg a, (tInt .i64).arg n]) (hn : AllT [oneFour n]) :
    Says (rf L111 111 [tMach.arg m, (tInt .u32).arg a, (tInt .i64).arg n] [(tInt .u32).sig, tTrap.sig]) (· = some [(tInt .u32).arg (resP m a n), tTrap.arg (resT m a n)]) := ⟨by
  rw [t111]
  refine ⟨oneFour_ne (hn _ (List.mem_cons_self ..)), fun h1 => ?_, fun h1 => ⟨fun h2 => ?_, fun h2 => ?_⟩⟩
  all_goals show _ = _
  · simp only [resP, resT, h1, cond_true]
  · simp only [Bool.not_eq_true'] at h2
    simp only [resP, resT, h1, h2, cond_false]
  · simp only [Bool.not_eq_false'] at h2
    simp only [resP, resT, h1, h2, cond_true, cond_false]⟩
theorem o111 (B : Base) : SummOk tcx 111 S111 := summ3 B (g111 B) h111 (by kernel_rfl)

def Trap.no (t : Trap) : Bool := t.cause == 0 && (t.tval == 0 && true)
def ldT (m : Mach) (a n : Int) : Trap := bif (resT m a n).no then ⟨0, 0⟩ else resT m a n
def ldV (m : Mach) (a n : Int) : Int := bif (resT m a n).no then loadM m.mem (resP m a n) n else 0
def stM (m : Mach) (a n v : Int) : Mach := bif (resT m a n).no then { m with mem := storeM m.mem (resP m a n) n v } else m
def S96 : Summ := mkSumm [tMach.sig, (tInt .u32).sig, (tInt .i64).sig] (sp3 tMach (tInt .u32) (tInt .i64) fun m a n => ([oneFour n], [(tInt .u32).arg (ldV m a n), tTrap.arg (ldT m a n)]))
def S107 : Summ := mkSumm [tMach.sig, (tInt .u32).sig, (tInt .i64).sig, (tInt .u32).sig] (sp4 tMach (tInt .u32) (tInt .i64) (tInt .u32) fun m a n v => ([oneFour n, decide (m.mem.length < 1000000)], [tMach.arg (stM m a n v), tTrap.arg (ldT m a n)]))
def L96 : List (FuncId × Summ) := [(111, S111), (112, S112)]
theorem g96 (B : Base) : Good L96 := (Good.nil.cons (o112 B) (mkSumm_loc _ _)).cons (o111 B) (mkSumm_loc _ _)
theorem t96 (m : Mach) (a n : Int) : rf L96 96 [tMach.arg m, (tInt .u32).arg a, (tInt .i64).arg n] [(tInt .u32).sig, tTrap.sig] =
    need (oneFour n) (br (!(resT m a n).no) (leaf (some [(tInt .u32).arg 0, tTrap.arg (resT m a n)])) (need (oneFour n) (leaf (some [(tInt .u32).arg (loadM m.mem (resP m a n) n), tTrap.arg ⟨0, 0⟩])))) := by kernel_rfl
theorem h96 (m : Mach) (a n : Int) (_ : OkAs [tMach.arg m, (tInt .u32).arg a, (tInt .i64).arg n]) (hn : AllT [oneFour n]) :
    Says (rf L96 96 [tMach.arg m, (tInt .u32).arg a, (tInt .i64).arg n] [(tInt .u32).sig, tTrap.sig]) (· = some [(tInt .u32).arg (ldV m a n), tTrap.arg (ldT m a n)]) := ⟨by
  rw [t96]
  have h0 := hn _ (List.mem_cons_self ..)
  refine ⟨h0, fun h1 => ?_, fun h1 => ⟨h0, ?_⟩⟩
  all_goals show _ = _
  · simp only [Bool.not_eq_true'] at h1
    simp only [ldV, ldT, h1, cond_false]
  · simp only [Bool.not_eq_false'] at h1
    simp only [ldV, ldT, h1, cond_true]⟩
theorem o96 (B : Base) : SummOk tcx 96 S96 := summ3 B (g96 B) h96 (by kernel_rfl)

def L107 : List (FuncId × Summ) := [(111, S111), (117, S117)]
theorem g107 (B : Base) : Good L107 := (Good.nil.cons (o117 B) (mkSumm_loc _ _)).cons (o111 B) (mkSumm_loc _ _)
theorem t107 (m : Mach) (a n v : Int) : rf L107 107 [tMach.arg m, (tInt .u32).arg a, (tInt .i64).arg n, (tInt .u32).arg v] [tMach.sig, tTrap.sig] =
    need (oneFour n) (br (!(resT m a n).no) (leaf (some [tMach.arg m, tTrap.arg (resT m a n)])) (need (oneFour n) (need (decide (m.mem.length < 1000000)) (leaf (some [tMach.arg { m with mem := storeM m.mem (resP m a n) n v }, tTrap.arg ⟨0, 0⟩]))))) := by kernel_rfl
theorem h107 (m : Mach) (a n v : Int) (_ : OkAs [tMach.arg m, (tInt .u32).arg a, (tInt .i64).arg n, (tInt .u32).arg v]) (hn : AllT [oneFour n, decide (m.mem.length < 1000000)]) :
    Says (rf L107 107 [tMach.arg m, (tInt .u32).arg a, (tInt .i64).arg n, (tInt .u32).arg v] [tMach.sig, tTrap.sig]) (· = some [tMach.arg (stM m a n v), tTrap.arg (ldT m a n)]) := ⟨by
  rw [t107]
  have h0 := hn _ (List.mem_cons_self ..)
  refine ⟨h0, fun h1 => ?_, fun h1 => ⟨h0, hn _ (by simp), ?_⟩⟩
  all_goals show _ = _
  · simp only [Bool.not_eq_true'] at h1
    simp only [stM, ldT, h1, cond_false]
  · simp only [Bool.not_eq_false'] at h1
    simp only [stM, ldT, h1, cond_true]⟩
theorem o107 (B : Base) : SummOk tcx 107 S107 := summ4 B (g107 B) h107 (by kernel_rfl)
end Go.Sx
