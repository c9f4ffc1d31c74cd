/-
  The instruction in progress, read through its address: three methods; their summaries.
  Conditions: none; each summary holds of the program's method.
-/
import Derived.Test.YtcibdpbblleafaaGreatDoorMoE
namespace Go.Sx
open Go Go.RowKit Tree

def intAt (k : IntKind) (cs : List SV) (i : Nat) : Option Int :=
  match cs[i]? with
  | some (.i k' v) => bif kindB k k' then some v else none
  | some (.n k' v) => bif kindB k k' then some v else none
  | _ => none

structure StepI where
  (op imm x : Int)

def stepArgs (cs : List SV) : Option StepI :=
  bif Nat.beq cs.length 43 then (match intAt .i64 cs 33, intAt .i32 cs 37, intAt .u32 cs 38 with
    | some op, some m, some x => some ⟨op, m, x⟩
    | _, _, _ => none) else none

def canonAt (q : StepI) (i : Nat) : SV := bif Nat.beq i 33 then .i .i64 q.op else bif Nat.beq i 37 then .i .i32 q.imm else bif Nat.beq i 38 then .i .u32 q.x else .xx
def canon (q : StepI) : List SV := (List.range 43).map (canonAt q)

theorem intAt_V {E : Env} {k : IntKind} {cs : List SV} {i : Nat} {v : Int} (h : intAt k cs i = some v) {vs : List Value} (hv : VL E cs vs) : vs[i]? = some (.int k v) ∧ InR k v := by
  unfold intAt at h
  split at h <;> try (cases h; done)
  all_goals
    rename_i k' v' hc
    obtain ⟨hk, h⟩ := cond_none h
    cases h
    obtain ⟨u, h1, h2⟩ := hv.get hc
    simp only [V] at h2
    have := kindB_eq hk
    subst this
    rw [h1, h2.1]
    exact ⟨rfl, h2.2⟩

theorem canon_V {E F : Env} {cs : List SV} {q : StepI} (h : stepArgs cs = some q) {vs : List Value} (hv : VL E cs vs) : VL F (canon q) vs := by
  unfold stepArgs at h
  obtain ⟨hl, h⟩ := cond_none h
  split at h <;> try (cases h; done)
  rename_i op m x h1 h2 h3
  cases h
  have hl := Nat.eq_of_beq_eq_true hl
  obtain ⟨a1, a2⟩ := intAt_V h1 hv
  obtain ⟨b1, b2⟩ := intAt_V h2 hv
  obtain ⟨c1, c2⟩ := intAt_V h3 hv
  refine VL.ofGet (by simp [canon, hv.length, hl]) fun i s v hs hv' => ?_
  simp only [canon, List.getElem?_map] at hs
  cases hr : (List.range 43)[i]? with
  | none => rw [hr] at hs; cases hs
  | some j =>
    rw [hr] at hs
    have hj : j = i := by
      have := List.getElem?_eq_some_iff.1 hr
      obtain ⟨hlt, he⟩ := this
      rw [List.getElem_range] at he
      exact he.symm
    subst hj
    simp only [Option.map_some, Option.some.injEq] at hs
    subst hs
    unfold canonAt
    cases e1 : Nat.beq j 33 with
    | true =>
      have := Nat.eq_of_beq_eq_true e1
      subst this
      rw [a1] at hv'; cases hv'
      simp only [cond_true, V]; exact ⟨trivial, a2⟩
    | false =>
      cases e2 : Nat.beq j 37 with
      | true =>
        have := Nat.eq_of_beq_eq_true e2
        subst this
        rw [b1] at hv'; cases hv'
        simp only [cond_true, cond_false, V]; exact ⟨trivial, b2⟩
      | false =>
        cases e3 : Nat.beq j 38 with
        | true =>
          have := Nat.eq_of_beq_eq_true e3
          subst this
          rw [c1] at hv'; cases hv'
          simp only [cond_true, cond_false, V]; exact ⟨trivial, c2⟩
        | false => simp only [cond_false, V]

/-- A method that reads an integer off the instruction in progress. -/
def mkStep (k : IntKind) (f : StepI → Int) : Summ := fun xs M _ _ =>
  match xs with
  | [.p id 0] => (match M id with
    | some (.cells _ cs) => (match stepArgs cs with
      | some q => some { Eff.pure (.i k (f q)) with rd := [id] }
      | none => none)
    | _ => none)
  | _ => none

theorem mkStep_loc (k : IntKind) (f : StepI → Int) : SummLoc (mkStep k f) := by
  intro xs M M' R R' rid e h hm _
  unfold mkStep at h ⊢
  split at h <;> try (cases h; done)
  rename_i id
  split at h <;> try (cases h; done)
  rename_i ty cs hM
  have h3 := h
  split at h <;> try (cases h; done)
  have hr : e.rd = [id] := by cases h; rfl
  rw [hm id (by rw [hr]; simp), hM]
  exact h3

def sStep (ty : TypeId) (q : StepI) : AS := { T := fun _ => .u, M := fun i => bif Nat.beq i 0 then some (.cells ty (canon q)) else none, R := fun _ => none, nM := foreign, nR := 0, nT := 0 }
noncomputable def rfStep (g : FuncId) (ty : TypeId) (q : StepI) (k : IntKind) : Tree (Option (List Arg)) := runFn (teng []) 100 g [.p 0 0] (sStep ty q) (obsRes [(tInt k).sig])

theorem teng_cx (l : List (FuncId × Summ)) : (teng l).cx = tcx := rfl

theorem mkStep_ok (B : Base) {g : FuncId} {k : IntKind} {f : StepI → Int} (h : ∀ ty q, Says (rfStep g ty q k) (· = some [(tInt k).arg (f q)])) (hb : hasBody g = true) : SummOk tcx g (mkStep k f) := by
  refine ⟨hasBody_spec hb, ?_⟩
  intro W0 E M R w xs vs id rid e hg hs hnd hvs hm hfr
  unfold mkStep at hs
  split at hs <;> try (cases hs; done)
  rename_i id'
  split at hs <;> try (cases hs; done)
  rename_i ty cs hM
  split at hs <;> try (cases hs; done)
  rename_i q hq
  cases hs
  obtain ⟨v, vs', rfl, h1, h2⟩ := VL.cons.1 hvs
  have hnil := VL.nil.1 h2
  subst hnil
  simp only [V] at h1
  obtain ⟨b, hb', rfl⟩ := h1
  obtain ⟨b2, e2, vs2, k1, k2⟩ := hm.blk hM
  rw [hb'] at e2; cases e2
  let E1 : Env := { ρ := fun i => bif Nat.beq i 0 then some b else none, σ := fun _ => none, ph := fun _ => False, pw := w }
  have hρ : ∀ {i c}, E1.ρ i = some c → i = 0 ∧ c = b := by
    intro i c hi
    simp only [E1] at hi
    cases h0 : Nat.beq i 0 with
    | true => rw [h0] at hi; cases hi; exact ⟨Nat.eq_of_beq_eq_true h0, rfl⟩
    | false => rw [h0] at hi; cases hi
  have hm1 : MemR w E1 (sStep ty q).M (sStep ty q).R w := by
    refine ⟨Below.refl _ _, fun hi hj => (hρ hi).1.trans (hρ hj).1.symm, fun hi => ?_, fun {i k'} hi => ?_, fun hi => (by cases hi), fun c hc => hc.elim, fun _ hc => hc.elim, fun c hc => hc.elim⟩
    · obtain ⟨rfl, rfl⟩ := hρ hi
      exact ⟨fun h8 => absurd h8 (by decide), (hm.own hb').2⟩
    · simp only [sStep] at hi
      cases h0 : Nat.beq i 0 with
      | false => rw [h0] at hi; cases hi
      | true =>
        rw [h0] at hi; cases hi
        have := Nat.eq_of_beq_eq_true h0
        subst this
        exact ⟨b, rfl, vs2, k1, canon_V hq k2⟩
  have hv1 : VL E1 [.p 0 0] [.pointer (some ⟨b, 0, none⟩)] := VL.cons'.2 ⟨by simp only [V]; exact ⟨b, rfl, rfl⟩, VL.nil.2 rfl⟩
  have hg1 : GlobOk (teng []).cx w := by
    rw [teng_cx]
    intro g' cs' hq'
    obtain ⟨vs', ty', fr, k1, k2⟩ := hg g' cs' hq'
    exact ⟨vs', ty', fr, (hm.below.block g' (Array.getElem?_eq_some_iff.1 k1).1).trans k1, k2⟩
  have hfr1 : Fresh E1 foreign 0 := ⟨fun i hi => by
    simp only [E1]
    cases h0 : Nat.beq i 0 with
    | true => have := Nat.eq_of_beq_eq_true h0; subst this; exact absurd hi (by decide)
    | false => rfl, fun _ _ => rfl⟩
  have hsays : Says (runFn (teng []) 100 g [.p 0 0] (sStep ty q) (obsRes [(tInt k).sig])) (· = some [(tInt k).arg (f q)]) := h ty q
  have hcalls := runFn_says (teng_ok B Good.nil) (teng_loc Good.nil) hg1 hsays hv1 hm1 hfr1
  rw [teng_cx] at hcalls
  refine Calls.mono hcalls ?_
  intro en' w' hh
  cases en' with
  | panicked => exact hh.elim
  | outgrown => exact hh.elim
  | returned v =>
    obtain ⟨sv, s', E', hle, hv, hm', hp⟩ := hh
    obtain ⟨vals', q1, q2⟩ := decRes_V hm' hp hv
    have hv2 : V E (.i k (f q)) v := by
      simp only [rowsArgs, Ty.arg, tInt, rowsL, List.append_nil] at q1
      have hvn : vals' = [] := List.length_eq_zero_iff.1 (by rw [q1.length]; rfl)
      subst hvn
      have := q2 E 0 (fun i v hi => by simp at hi)
      exact this
    exact ⟨E, Did.same (hm.grow hm'.below) rfl rfl rfl rfl hv2⟩

def atM (q : StepI) : Int := IntKind.u32.wrap (q.x + IntKind.u32.wrap q.imm)
def farM (q : StepI) : Int := IntKind.u32.wrap (4 * IntKind.u32.wrap q.imm)
def sizeM (q : StepI) : Int := bif q.op == 13 then 1 else bif q.op == 14 then 1 else 4
def S105 : Summ := mkStep .u32 atM
def S109 : Summ := mkStep .u32 farM
def S106 : Summ := mkStep .i64 sizeM
theorem t105 (ty : TypeId) (q : StepI) : rfStep 105 ty q .u32 = leaf (some [(tInt .u32).arg (atM q)]) := by kernel_rfl
theorem t109 (ty : TypeId) (q : StepI) : rfStep 109 ty q .u32 = leaf (some [(tInt .u32).arg (farM q)]) := by kernel_rfl
theorem t106 (ty : TypeId) (q : StepI) : rfStep 106 ty q .i64 = br (q.op == 13) (leaf (some [(tInt .i64).arg 1])) (br (q.op == 14) (leaf (some [(tInt .i64).arg 1])) (leaf (some [(tInt .i64).arg 4]))) := by kernel_rfl
theorem o105 (B : Base) : SummOk tcx 105 S105 := mkStep_ok B (fun ty q => ⟨by rw [t105]; rfl⟩) (by kernel_rfl)
theorem o109 (B : Base) : SummOk tcx 109 S109 := mkStep_ok B (fun ty q => ⟨by rw [t109]; rfl⟩) (by kernel_rfl)
theorem h106 (ty : TypeId) (q : StepI) : Says (rfStep 106 ty q .i64) (· = some [(tInt .i64).arg (sizeM q)]) := ⟨by
  rw [t106]
  refine ⟨fun h1 => ?_, fun h1 => ⟨fun h2 => ?_, fun h2 => ?_⟩⟩
  all_goals show _ = _
  · simp only [sizeM, h1, cond_true]
  · simp only [sizeM, h1, h2, cond_true, cond_false]
  · simp only [sizeM, h1, h2, cond_false]⟩
theorem o106 (B : Base) : SummOk tcx 106 S106 := mkStep_ok B h106 (by kernel_rfl)
theorem size_oneFour (q : StepI) : oneFour (sizeM q) = true := by
  unfold sizeM
  cases q.op == 13 <;> cases q.op == 14 <;> rfl
end Go.Sx
