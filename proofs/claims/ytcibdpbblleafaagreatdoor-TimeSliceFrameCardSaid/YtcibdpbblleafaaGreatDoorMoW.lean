/-
  A time slice, as a plain Lean function; its summary.
  Conditions: none; the summary holds of the program's function where the plain function comes to an end within its bound.
-/
import Derived.Test.YtcibdpbblleafaaGreatDoorMoV
namespace Go.Sx
open Go Go.RowKit Tree

def L6 : List (FuncId × Summ) := [(7, S7), (18, S18), (21, S21), (20, S20), (19, S19), (22, S22), (23, S23), (24, S24)]
theorem g6 (B : Base) : Good L6 :=
  (((((((Good.nil.cons (o24 B) (mkSumm_loc _ _)).cons (o23 B) (mkSumm_loc _ _)).cons (o22 B) (mkSumm_loc _ _)).cons (o19 B) (mkSumm_loc _ _)).cons (o20 B) (mkSumm_loc _ _)).cons (o21 B) (mkSumm_loc _ _)).cons (o18 B) (mkSumm_loc _ _)).cons (o7 B) (mkSumm_loc _ _)
def Vcpu.zero : Vcpu := ⟨⟨Regs.zero, 0, ⟨0, 0, 0, 0, 0, 0, 0, 0, 0, 0, 0, 0⟩⟩, [], false, 0, []⟩
def K6a : CnK := ⟨[(3, .int .i64)], [(4, machKs), (5, vcpuKs), (6, partKs), (8, machKs), (9, vcpuKs)]⟩
def K6 : CnK := ⟨[(10, .int .u64)], [(4, machKs), (5, vcpuKs), (6, partKs), (8, machKs), (9, vcpuKs)]⟩
def bs6 (p : Part) (h : Mach) (v : Vcpu) : List (Nat × TypeId × List CD) := [(4, 30, h.cds), (5, 33, v.cds), (6, 35, p.cds), (8, 30, Mach.zero.cds), (9, 33, Vcpu.zero.cds)]
def cn6a (h : Mach) (v : Vcpu) (p : Part) (q : Int) : Cn := ⟨70, [(3, .int .i64 q)], bs6 p h v⟩
def cn6 (p : Part) (e : Int) (x : Mach × Vcpu) : Cn := ⟨70, [(10, .int .u64 e)], bs6 p x.1 x.2⟩
noncomputable def p6 (l : List Nat) : Code := sub (bodyOf 6) l
def rs6 : List Sig := [tMach.sig, tVcpu.sig]
theorem b6 : bodyOf 6 = pieces [p6 [0]] (.scope (pieces [p6 [1, 0, 0], p6 [1, 0, 1, 0]] (.seq (.block 0 (.loop (p6 [1, 0, 1, 1, 0, 0, 0]))) (p6 [1, 0, 1, 1, 1])))) := by kernel_rfl
theorem t6a (h : Mach) (v : Vcpu) (p : Part) (q : Int) : (sxL (teng L6) 100 [p6 [0]] (entry 6 [tMach.arg h, tVcpu.arg v, tPart.arg p, (tInt .i64).arg q]) fun e s' => .leaf (e, K6a.dec s')) = leaf (.normal, some (cn6a h v p q)) := by kernel_rfl
theorem t6b (h : Mach) (v : Vcpu) (p : Part) (q : Int) : (sxL (teng L6) 100 [p6 [1, 0, 0], p6 [1, 0, 1, 0]] (cn6a h v p q).as fun e s' => .leaf (e, K6.dec s')) = leaf (.normal, some (cn6 p (deadM h.time q) (h, v))) := by kernel_rfl

abbrev HV := Mach × Vcpu
def v18 (v : Vcpu) (t : Int) : Vcpu := bif !pendB v t then v else v.inject t
def goX (p : Part) (e : Int) (x : HV) : Mach := dispX x.1 x.2 p (alarmX x.2 e)
def afterU (u : UR) (v : Vcpu) : HV := (u.1, handleX { saveX u.1 v with done := IntKind.i64.wrap ((saveX u.1 v).done + u.2.1) } u.2.2.1 u.2.2.2)
def runF (p : Part) (e : Int) : Nat → HV → Option HV
  | 0, _ => none
  | f + 1, x => bif x.2.halted then some x else bif decide (x.1.time ≥ e) then some x else
      bif decide (x.2.log.length < 900000) && decide (x.2.out.length < 1000000) then
        (bif pendB x.2 x.1.time then runF p e f (x.1, v18 x.2 x.1.time) else bif (untilF fuelU (goX p e x) 0).isSome then runF p e f (afterU (untilX (goX p e x)) x.2) else none) else none
abbrev outC (p : Part) (e : Int) (x : HV) : Tree Ob := leaf (.out 0 (some (cn6 p e x)))
abbrev goC (p : Part) (e : Int) (x : HV) : Tree Ob := leaf (.go (some (cn6 p e x)))
theorem t6c (p : Part) (e : Int) (x : HV) : (sx (teng L6) 100 (p6 [1, 0, 1, 1, 0, 0, 0]) (cn6 p e x).as fun e s' => .leaf (obsL (teng L6) K6 (fnOf 6) rs6 e s')) =
    br x.2.halted (outC p e x) (br (decide (x.1.time ≥ e)) (outC p e x) (need (decide (x.2.log.length < 900000)) (br (pendB x.2 x.1.time) (goC p e (x.1, v18 x.2 x.1.time))
      (need (untilF fuelU (goX p e x) 0).isSome (need (decide (x.2.log.length < 1000000)) (need (decide (x.2.out.length < 1000000)) (goC p e (afterU (untilX (goX p e x)) x.2)))))))) := by kernel_rfl
def finX (h : Mach) : Mach := { clearX h with core := { (clearX h).core with csr := { (clearX h).core.csr with c0 := 1 } } }
def hvArgs (x : HV) : List Arg := [tMach.arg (finX x.1), tVcpu.arg x.2]
theorem t6d (p : Part) (e : Int) (x : HV) : (sx (teng L6) 100 (p6 [1, 0, 1, 1, 1]) (cn6 p e x).as fun e s' => .leaf (obsR (teng L6) (fnOf 6) rs6 e s')) = leaf (some (hvArgs x)) := by kernel_rfl

theorem h6c (p : Part) (e : Int) (r : HV) (x : Nat × HV) (hx : runF p e x.1 x.2 = some r) :
    Told (sx (teng L6) 100 (p6 [1, 0, 1, 1, 0, 0, 0]) (cn6 p e x.2).as fun e s' => .leaf (obsL (teng L6) K6 (fnOf 6) rs6 e s'))
      (RoundO 0 (fun c => ∃ x' : Nat × HV, runF p e x'.1 x'.2 = some r ∧ x'.1 < x.1 ∧ c = cn6 p e x'.2) (fun c => c = cn6 p e r) (fun _ => False)) := Told.rw (t6c p e x.2) (by
  obtain ⟨f, x⟩ := x
  cases f with
  | zero => cases hx
  | succ f =>
    simp only [runF] at hx
    refine br_ok (fun h1 => ?_) (fun h1 => br_ok (fun h2 => ?_) (fun h2 => ?_))
    · rw [h1] at hx; cases hx
      exact ⟨rfl, _, rfl, rfl⟩
    · rw [h1, h2] at hx; cases hx
      exact ⟨rfl, _, rfl, rfl⟩
    · rw [h1, h2] at hx
      simp only [cond_false] at hx
      obtain ⟨h3, hx⟩ := cond_none hx
      simp only [Bool.and_eq_true] at h3
      refine need_ok h3.1 (br_ok (fun h4 => ?_) (fun h4 => ?_))
      · rw [h4] at hx
        exact ⟨_, rfl, (f, _), hx, Nat.lt_succ_self f, rfl⟩
      · rw [h4] at hx
        simp only [cond_false] at hx
        obtain ⟨h5, hx⟩ := cond_none hx
        have h3' := of_decide_eq_true h3.1
        exact need_ok h5 (need_ok (by simp; omega) (need_ok h3.2 ⟨_, rfl, (f, _), hx, Nat.lt_succ_self f, rfl⟩)))

def fuelR : Nat := 1000
def runR (h : Mach) (v : Vcpu) (p : Part) (q : Int) : Option HV := runF p (deadM h.time q) fuelR (h, v)
def runX (h : Mach) (v : Vcpu) (p : Part) (q : Int) : HV := (runR h v p q).getD (h, v)
def S6 : Summ := mkSumm [tMach.sig, tVcpu.sig, tPart.sig, (tInt .i64).sig] (sp4 tMach tVcpu tPart (tInt .i64) fun h v p q => ([(runR h v p q).isSome], hvArgs (runX h v p q)))
theorem v6 (B : Base) (h : Mach) (v : Vcpu) (p : Part) (q : Int) (hn : AllT [(runR h v p q).isSome]) :
    Gives tcx 6 (encArgs [tMach.arg h, tVcpu.arg v, tPart.arg p, (tInt .i64).arg q] 0) (s0 [tMach.arg h, tVcpu.arg v, tPart.arg p, (tInt .i64).arg q]) rs6 (hvArgs (runX h v p q)) := by
  have h0 := hn _ (List.mem_cons_self ..)
  obtain ⟨r, hr⟩ := Option.isSome_iff_exists.1 h0
  have hu : runX h v p q = r := by simp only [runX, hr]; rfl
  rw [hu]
  have hen := teng_ok B (g6 B)
  have hl := teng_loc (g6 B)
  refine gives_of (l := L6) (by kernel_rfl) (by kernel_rfl) ?_
  rw [b6]
  refine Goes.preK hen hl (K := K6a) (f := 100) (c := cn6a h v p q) (Told.rw (t6a h v p q) rfl) (Goes.scope ?_)
  refine Goes.preK hen hl (K := K6) (f := 100) (c := cn6 p (deadM h.time q) (h, v)) (Told.rw (t6b h v p q) rfl) ?_
  refine Goes.midSeq (K := K6) (fn := fnOf 6) (rs := rs6) (N := fun c => c = cn6 p (deadM h.time q) r) (Ret := fun _ => False) ?_ ?_ (fun _ _ _ h2 => h2.elim)
  · exact Goes.blockLoop (fun x : Nat × HV => cn6 p (deadM h.time q) x.2) (fun x => runF p (deadM h.time q) x.1 x.2 = some r) (fun x => x.1) (f := 100) hen hl (fun x hx => h6c p _ r x hx) (fuelR, h, v) hr
  · rintro c rfl
    exact Goes.last hen hl (f := 100) (Told.rw (t6d p _ r) rfl)
theorem o6 (B : Base) : SummOk tcx 6 S6 := summ4G (fun h v p q _ hn => v6 B h v p q hn) (by kernel_rfl)
end Go.Sx
