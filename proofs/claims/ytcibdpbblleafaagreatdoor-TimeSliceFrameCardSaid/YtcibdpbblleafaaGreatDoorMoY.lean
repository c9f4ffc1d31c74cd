/-
  The law itself, in pieces.
  Conditions: none; what each piece of the law's body does.
-/
import Derived.Test.YtcibdpbblleafaaGreatDoorMoX
namespace Go.Sx
open Go Go.RowKit Tree

def L3 : List (FuncId × Summ) := [(4, S4), (5, S5), (6, S6), (7, S7), (8, S8), (9, S9), (10, S10), (11, S11), (12, S12)]
theorem g3 (B : Base) : Good L3 :=
  ((((((((Good.nil.cons (o12 B) (mkSumm_loc _ _)).cons (o11 B) (mkSumm_loc _ _)).cons (o10 B) (mkSumm_loc _ _)).cons (o9 B) (mkSumm_loc _ _)).cons (o8 B) (mkSumm_loc _ _)).cons (o7 B) (mkSumm_loc _ _)).cons (o6 B) (mkSumm_loc _ _)).cons (o5 B) (mkSumm_loc _ _)).cons (o4 B) (mkSumm_loc _ _)
def bks3 : List (Nat × List Kd) := [(4, machKs), (5, vcpuKs), (6, partKs), (9, machKs), (10, vcpuKs)]
def K3a : CnK := ⟨[], bks3⟩
def K3 : CnK := ⟨[(12, .int .i64)], bks3⟩
structure In3 where
  h : Mach
  v : Vcpu
  p : Part
  q : Int
def In3.r (x : In3) : HV := runX x.h x.v x.p x.q
def In3.a (x : In3) : Mach := finX x.r.1
def In3.b (x : In3) : Vcpu := x.r.2
def bs3 (x : In3) : List (Nat × TypeId × List CD) := [(4, 30, x.h.cds), (5, 33, x.v.cds), (6, 35, x.p.cds), (9, 30, x.a.cds), (10, 33, x.b.cds)]
def cn3a (x : In3) : Cn := ⟨216, [], bs3 x⟩
def cn3 (x : In3) (i : Int) : Cn := ⟨216, [(12, .int .i64 i)], bs3 x⟩
def args3 (x : In3) : List Arg := [tMach.arg x.h, tVcpu.arg x.v, tPart.arg x.p, (tInt .i64).arg x.q]
noncomputable def p3 (l : List Nat) : Code := sub (bodyOf 3) l
theorem b3 : bodyOf 3 = pieces [p3 [0], p3 [1, 0], p3 [1, 1, 0], p3 [1, 1, 1, 0], p3 [1, 1, 1, 1, 0]] (.seq (pieces [p3 [1, 1, 1, 1, 1, 0, 0]] (.block 0 (.loop (p3 [1, 1, 1, 1, 1, 0, 1, 0, 0])))) (p3 [1, 1, 1, 1, 1, 1])) := by kernel_rfl
def In3.e (x : In3) : Int := deadM x.h.time x.q
abbrev retT : Tree Ob := leaf (.ret (some [tBool.arg true]))
def rest4 (x : In3) : Tree Ob := br (!validB x.b) retF (br ((x.a.mem.length : Int) != (x.h.mem.length : Int)) retF (br (decide ((x.b.out.length : Int) < (x.v.out.length : Int))) retF (br (decide ((x.b.log.length : Int) < (x.v.log.length : Int))) retF (leaf (.go (some (cn3a x)))))))
def rest3 (x : In3) : Tree Ob := br (decide (x.a.time < x.h.time)) retF (rest4 x)
def rest2 (x : In3) : Tree Ob := br (decide (x.a.time < x.e)) (br (!x.b.halted) retF (rest3 x)) (rest3 x)
def rest1 (x : In3) : Tree Ob := br (decide (x.a.time > IntKind.u64.wrap (x.e + 1))) retF (rest2 x)
def rest0 (x : In3) : Tree Ob := br (decide (x.b.done < x.v.done)) retF (br (x.b.done == x.v.done) (br (!x.v.halted) retF (rest1 x)) (rest1 x))
theorem t3a (x : In3) : (sxL (teng L3) 100 [p3 [0], p3 [1, 0], p3 [1, 1, 0], p3 [1, 1, 1, 0], p3 [1, 1, 1, 1, 0]] (entry 3 (args3 x)) fun e s' => .leaf (obsL (teng L3) K3a (fnOf 3) rsB e s')) =
    br (!true) retT (br (!fitB x.h x.v x.p x.q) retT (need (runR x.h x.v x.p x.q).isSome (rest0 x))) := by kernel_rfl
theorem t3b (x : In3) : (sxL (teng L3) 100 [p3 [1, 1, 1, 1, 1, 0, 0]] (cn3a x).as fun e s' => .leaf (e, K3.dec s')) = leaf (.normal, some (cn3 x 0)) := by kernel_rfl
def In3.out (x : In3) (i : Int) : Bool := bif pick i x.a.mem != pick i x.h.mem then (bif decide (i < IntKind.i64.wrap x.p.base) then true else decide (i ≥ IntKind.i64.wrap (IntKind.i64.wrap x.p.base + IntKind.i64.wrap x.p.size))) else false
theorem t3c (x : In3) (i : Int) : (sx (teng L3) 100 (p3 [1, 1, 1, 1, 1, 0, 1, 0, 0]) (cn3 x i).as fun e s' => .leaf (obsL (teng L3) K3 (fnOf 3) rsB e s')) =
    br (decide (i < (x.a.mem.length : Int))) (need (decide (0 ≤ i)) (need (decide (i < (x.a.mem.length : Int))) (need (decide (0 ≤ i)) (need (decide (i < (x.h.mem.length : Int))) (br (pick i x.a.mem != pick i x.h.mem) (needG (((pick i x.a.mem != pick i x.h.mem) == true) == true) 6 (br (decide (i < IntKind.i64.wrap x.p.base)) (needG ((decide (i < IntKind.i64.wrap x.p.base) == false) == false) 9 (need (((pick i x.a.mem != pick i x.h.mem) == true) == true) (need (decide (i < IntKind.i64.wrap x.p.base)) (br (bif pick i x.a.mem != pick i x.h.mem then true else false) retF (leaf (.go (some (cn3 x (IntKind.i64.wrap (i + 1)))))))))) (needG ((decide (i < IntKind.i64.wrap x.p.base) == false) == true) 9 (need (((pick i x.a.mem != pick i x.h.mem) == true) == true) (br (x.out i) retF (leaf (.go (some (cn3 x (IntKind.i64.wrap (i + 1))))))))))) (needG (((pick i x.a.mem != pick i x.h.mem) == true) == false) 7 (need (!(pick i x.a.mem != pick i x.h.mem)) (leaf (.go (some (cn3 x (IntKind.i64.wrap (i + 1))))))))))))) (leaf (.out 0 (some (cn3 x i)))) := by kernel_rfl
def In3.n1 (x : In3) : Bool := !decide (x.b.out.take x.v.out.length = x.v.out)
def In3.n2 (x : In3) : Bool := bif x.n1 then true else !decide (x.b.log.take x.v.log.length = x.v.log)
def In3.n3 (x : In3) : Bool := bif x.n2 then true else !decide (x.a.out = x.h.out)
def In3.n4 (x : In3) : Bool := bif x.n3 then true else x.a.halted
def sameT (x : In3) : Tree (Option (List Arg)) := br x.v.halted (br (sameV x.b x.v) (boolT (x.a.time == x.h.time)) (boolT false)) (boolT false)
theorem t3d (x : In3) (i : Int) : (sx (teng L3) 100 (p3 [1, 1, 1, 1, 1, 1]) (cn3 x i).as fun e s' => .leaf (obsR (teng L3) (fnOf 3) rsB e s')) =
    need (decide ((0 : Int) ≤ (x.v.out.length : Int))) (need (decide ((x.v.out.length : Int) ≤ (x.b.out.length : Int))) (br (x.n1) (needG ((x.n1 == false) == false) 10 (need (x.n1) (boolT false))) (needG ((x.n1 == false) == true) 6 (need (decide ((0 : Int) ≤ (x.v.log.length : Int))) (need (decide ((x.v.log.length : Int) ≤ (x.b.log.length : Int))) (needG ((x.n1 == false) == true) 4 (br (x.n2) (needG ((x.n2 == false) == false) 6 (need (x.n2) (boolT false))) (needG ((x.n2 == false) == true) 6 (br (x.n3) (needG ((x.n3 == false) == false) 2 (need (x.n3) (boolT false))) (needG ((x.n3 == false) == true) 2 (br (x.n4) (boolT false) (br (!x.v.halted) (br (allEq x.a.core.regs.list Regs.zero.list) (br (x.a.core.pc == 0) (br (supB x.a.core) (boolT true) (sameT x)) (sameT x)) (sameT x)) (sameT x))))))))))))) := by kernel_rfl

/-- What must hold of a time slice for the law to answer true. -/
structure Lawful (x : In3) : Prop where
  comes : (runR x.h x.v x.p x.q).isSome = true
  done : ¬ x.b.done < x.v.done
  more : x.b.done = x.v.done → x.v.halted = true
  late : ¬ x.a.time > IntKind.u64.wrap (x.e + 1)
  early : x.a.time < x.e → x.b.halted = true
  time : ¬ x.a.time < x.h.time
  valid : validB x.b = true
  memlen : x.a.mem.length = x.h.mem.length
  small : x.a.mem.length < 1000000
  outlen : x.v.out.length ≤ x.b.out.length
  loglen : x.v.log.length ≤ x.b.log.length
  mem : ∀ k : Nat, k < x.a.mem.length → x.out (k : Int) = false
  outp : x.b.out.take x.v.out.length = x.v.out
  logp : x.b.log.take x.v.log.length = x.v.log
  hout : x.a.out = x.h.out
  halt : x.a.halted = false
  same : x.v.halted = true → sameV x.b x.v = true ∧ x.a.time = x.h.time

theorem h3a (x : In3) (hx : fitB x.h x.v x.p x.q = true → Lawful x) :
    Told (sxL (teng L3) 100 [p3 [0], p3 [1, 0], p3 [1, 1, 0], p3 [1, 1, 1, 0], p3 [1, 1, 1, 1, 0]] (entry 3 (args3 x)) fun e s' => .leaf (obsL (teng L3) K3a (fnOf 3) rsB e s'))
      (MidO (fun c => c = cn3a x ∧ Lawful x) (fun r => r = [tBool.arg true])) := Told.rw (t3a x) (by
  refine br_ok (fun h => by cases h) (fun _ => br_ok (fun _ => ⟨_, rfl, rfl⟩) (fun hf => ?_))
  have hl := hx (by simpa using hf)
  have r4 : (rest4 x).Holds (MidO (fun c => c = cn3a x ∧ Lawful x) (fun r => r = [tBool.arg true])) := by
    refine br_ok (fun h => ?_) (fun _ => br_ok (fun h => ?_) (fun _ => br_ok (fun h => ?_) (fun _ => br_ok (fun h => ?_) (fun _ => ⟨_, rfl, rfl, hl⟩))))
    · rw [hl.valid] at h; cases h
    · rw [hl.memlen] at h; simp at h
    · have h := of_decide_eq_true h
      have := hl.outlen
      omega
    · have h := of_decide_eq_true h
      have := hl.loglen
      omega
  have r3 : (rest3 x).Holds (MidO (fun c => c = cn3a x ∧ Lawful x) (fun r => r = [tBool.arg true])) := br_ok (fun h => absurd (of_decide_eq_true h) hl.time) (fun _ => r4)
  have r2 : (rest2 x).Holds (MidO (fun c => c = cn3a x ∧ Lawful x) (fun r => r = [tBool.arg true])) := br_ok (fun h => br_ok (fun h2 => by rw [hl.early (of_decide_eq_true h)] at h2; cases h2) (fun _ => r3)) (fun _ => r3)
  have r1 : (rest1 x).Holds (MidO (fun c => c = cn3a x ∧ Lawful x) (fun r => r = [tBool.arg true])) := br_ok (fun h => absurd (of_decide_eq_true h) hl.late) (fun _ => r2)
  exact need_ok hl.comes (br_ok (fun h => absurd (of_decide_eq_true h) hl.done) (fun _ => br_ok (fun h => br_ok (fun h2 => by rw [hl.more (by simpa using h)] at h2; cases h2) (fun _ => r1)) (fun _ => r1))))

theorem h3c (x : In3) (hl : Lawful x) (k : Nat) (_hk : k ≤ x.a.mem.length) :
    Told (sx (teng L3) 100 (p3 [1, 1, 1, 1, 1, 0, 1, 0, 0]) (cn3 x (k : Int)).as fun e s' => .leaf (obsL (teng L3) K3 (fnOf 3) rsB e s'))
      (RoundO 0 (fun c => ∃ k' : Nat, k' ≤ x.a.mem.length ∧ x.a.mem.length - k' < x.a.mem.length - k ∧ c = cn3 x (k' : Int)) (fun c => ∃ i, c = cn3 x i) (fun _ => False)) := Told.rw (t3c x _) (by
  refine br_ok (fun h => ?_) (fun _ => ⟨rfl, _, rfl, _, rfl⟩)
  have hlt : k < x.a.mem.length := by simpa using h
  have hsm := hl.small
  have good : (leaf (.go (some (cn3 x (IntKind.i64.wrap ((k : Int) + 1))))) : Tree Ob).Holds (RoundO 0 (fun c => ∃ k' : Nat, k' ≤ x.a.mem.length ∧ x.a.mem.length - k' < x.a.mem.length - k ∧ c = cn3 x (k' : Int)) (fun c => ∃ i, c = cn3 x i) (fun _ => False)) :=
    ⟨_, rfl, k + 1, by omega, by omega, by rw [wrap_id (inR_i64.2 (by omega))]; rfl⟩
  have hm := hl.mem k hlt
  have hlen := hl.memlen
  refine need_ok (by simp) (need_ok (by simpa using hlt) (need_ok (by simp) (need_ok (by simp; omega) (br_ok (fun h1 => needG_ok (by rw [h1]; rfl) (br_ok (fun h2 => needG_ok (by rw [h2]; rfl) (need_ok (by rw [h1]; rfl) (need_ok h2 (br_ok (fun _ => ?_) (fun _ => good)))) 9)
    (fun h2 => needG_ok (by rw [h2]; rfl) (need_ok (by rw [h1]; rfl) (br_ok (fun h3 => ?_) (fun _ => good))) 9)) 6) (fun h1 => needG_ok (by rw [h1]; rfl) (need_ok (by rw [h1]; rfl) good) 7)))))
  · simp only [In3.out, h1, h2, cond_true] at hm
    cases hm
  · rw [hm] at h3; cases h3)

theorem h3d (x : In3) (hl : Lawful x) (i : Int) : Told (sx (teng L3) 100 (p3 [1, 1, 1, 1, 1, 1]) (cn3 x i).as fun e s' => .leaf (obsR (teng L3) (fnOf 3) rsB e s')) (· = some [tBool.arg true]) := Told.rw (t3d x i) (by
  have e1 : x.n1 = false := by simp only [In3.n1, hl.outp, decide_true, Bool.not_true]
  have e2 : x.n2 = false := by simp only [In3.n2, e1, hl.logp, decide_true, Bool.not_true, cond_false]
  have e3 : x.n3 = false := by simp only [In3.n3, e2, hl.hout, decide_true, Bool.not_true, cond_false]
  have e4 : x.n4 = false := by simp only [In3.n4, e3, hl.halt, cond_false]
  have ho := hl.outlen
  have hg := hl.loglen
  refine need_ok (by simp) (need_ok (by simpa using ho) (br_ok (fun h => by rw [e1] at h; cases h) (fun _ => needG_ok (by rw [e1]; rfl) (need_ok (by simp) (need_ok (by simpa using hg) (needG_ok (by rw [e1]; rfl) (br_ok (fun h => by rw [e2] at h; cases h) (fun _ => needG_ok (by rw [e2]; rfl)
    (br_ok (fun h => by rw [e3] at h; cases h) (fun _ => needG_ok (by rw [e3]; rfl) (br_ok (fun h => by rw [e4] at h; cases h) (fun _ => ?_)) 2)) 6)) 4))) 6)))
  refine br_ok (fun _ => br_ok (fun _ => br_ok (fun _ => br_ok (fun _ => rfl) (fun h => absurd h ?_)) (fun h => absurd h ?_)) (fun h => absurd h ?_)) (fun h => ?_)
  · exact Bool.not_eq_false _ ▸ (show supB x.a.core = true from rfl)
  · exact Bool.not_eq_false _ ▸ (show (x.a.core.pc == 0) = true from rfl)
  · exact Bool.not_eq_false _ ▸ (show allEq x.a.core.regs.list Regs.zero.list = true from rfl)
  · have hh : x.v.halted = true := by simpa using h
    obtain ⟨s1, s2⟩ := hl.same hh
    refine br_ok (fun _ => br_ok (fun _ => ?_) (fun h => by rw [s1] at h; cases h)) (fun h => by rw [hh] at h; cases h)
    show _ = _
    rw [s2]
    simp)

theorem v3 (B : Base) (x : In3) (hx : fitB x.h x.v x.p x.q = true → Lawful x) : Gives tcx 3 (encArgs (args3 x) 0) (s0 (args3 x)) rsB [tBool.arg true] := by
  have hen := teng_ok B (g3 B)
  have hl := teng_loc (g3 B)
  refine gives_of (l := L3) (by kernel_rfl) (by kernel_rfl) ?_
  rw [b3]
  refine Goes.piecesM (K := K3a) (fn := fnOf 3) (rs := rsB) (f := 100) (N := fun c => c = cn3a x ∧ Lawful x) (Ret := fun r => r = [tBool.arg true]) hen hl (h3a x hx) ?_ (fun _ _ h1 h2 => Fin.ret h1 h2)
  rintro c ⟨rfl, hlaw⟩
  refine Goes.midSeq (K := K3) (fn := fnOf 3) (rs := rsB) (N := fun c => ∃ i, c = cn3 x i) (Ret := fun _ => False) ?_ ?_ (fun _ _ _ h2 => h2.elim)
  · refine Goes.preK hen hl (K := K3) (f := 100) (c := cn3 x 0) (Told.rw (t3b x) rfl) ?_
    exact Goes.blockLoop (fun k : Nat => cn3 x (k : Int)) (fun k => k ≤ x.a.mem.length) (fun k => x.a.mem.length - k) (f := 100) hen hl (fun k hk => h3c x hlaw k hk) 0 (Nat.zero_le _)
  · rintro c ⟨i, rfl⟩
    exact Goes.last hen hl (f := 100) (h3d x hlaw i)
end Go.Sx
