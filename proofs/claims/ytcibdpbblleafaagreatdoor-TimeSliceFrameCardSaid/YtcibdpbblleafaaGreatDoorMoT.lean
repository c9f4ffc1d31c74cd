/-
  Which virtual CPUs are well formed, which are valid; their summaries.
  Conditions: none; each summary holds of the program's function.
-/
import Derived.Test.YtcibdpbblleafaaGreatDoorMoS
namespace Go.Sx
open Go Go.RowKit Tree

/-! ### Form -/
def K17 : CnK := ⟨[(3, .int .i64)], [(1, vcpuKs)]⟩
def K17a : CnK := ⟨[], [(1, vcpuKs)]⟩
def cn17 (v : Vcpu) (i : Int) : Cn := ⟨77, [(3, .int .i64 i)], [(1, 33, v.cds)]⟩
def cn17a (v : Vcpu) : Cn := ⟨77, [], [(1, 33, v.cds)]⟩
noncomputable def p17 (l : List Nat) : Code := sub (bodyOf 17) l
theorem b17 : bodyOf 17 = pieces [p17 [0]] (.seq (pieces [p17 [1, 0, 0]] (.block 0 (.loop (p17 [1, 0, 1, 0, 0])))) (p17 [1, 1])) := by kernel_rfl
theorem t17a (v : Vcpu) : (sxL (teng []) 100 [p17 [0]] (entry 17 [tVcpu.arg v]) fun e s' => .leaf (e, K17a.dec s')) = leaf (.normal, some (cn17a v)) := by kernel_rfl
theorem t17b (v : Vcpu) : (sxL (teng []) 100 [p17 [1, 0, 0]] (cn17a v).as fun e s' => .leaf (e, K17.dec s')) = leaf (.normal, some (cn17 v 0)) := by kernel_rfl

def bad1 (x : Ev) : Bool := decide (x.kind < 1)
def bad2 (x : Ev) : Bool := bif bad1 x then true else decide (x.kind > 3)
def bad3 (x : Ev) : Bool := bif bad2 x then true else decide (x.at_ < 0)
def bad4 (d : Int) (x : Ev) : Bool := bif bad3 x then true else decide (x.at_ ≥ d)
def bad5 (d : Int) (l : List Ev) (i : Int) : Bool := bif bad4 d (evAt l i) then true else bif decide (i > 0) then decide ((evAt l i).at_ ≤ (evAt l (IntKind.i64.wrap (i - 1))).at_) else false
abbrev retF : Tree Ob := leaf (.ret (some [tBool.arg false]))
theorem t17c (v : Vcpu) (i : Int) : (sx (teng []) 100 (p17 [1, 0, 1, 0, 0]) (cn17 v i).as fun e s' => .leaf (obsL (teng []) K17 (fnOf 17) rsB e s')) =
    br (decide (i < (v.log.length : Int)))
      (need (decide (0 ≤ i)) (need (decide (i < (v.log.length : Int))) (gT (bad1 (evAt v.log i)) false 3 3 (need (bad1 (evAt v.log i)) retF) (gT (bad2 (evAt v.log i)) false 3 3 (need (bad2 (evAt v.log i)) retF) (gT (bad3 (evAt v.log i)) false 5 5 (need (bad3 (evAt v.log i)) retF)
        (br (bad4 v.done (evAt v.log i)) (needG ((bad4 v.done (evAt v.log i) == false) == false) 4 (need (bad4 v.done (evAt v.log i)) retF)) (needG ((bad4 v.done (evAt v.log i) == false) == true) 3
          (br (decide (i > 0))
            (needG ((decide (i > 0) == true) == true) 7 (need (decide (0 ≤ IntKind.i64.wrap (i - 1))) (need (decide (IntKind.i64.wrap (i - 1) < (v.log.length : Int))) (needG ((decide (i > 0) == true) == true) 3 (need ((bad4 v.done (evAt v.log i) == false) == true) (br (bad5 v.done v.log i) retF (leaf (.go (some (cn17 v (IntKind.i64.wrap (i + 1)))))))))))) 
            (needG ((decide (i > 0) == true) == false) 10 (need ((bad4 v.done (evAt v.log i) == false) == true) (need (!decide (i > 0)) (br (bif bad4 v.done (evAt v.log i) then true else false) retF (leaf (.go (some (cn17 v (IntKind.i64.wrap (i + 1))))))))))))))))))
      (leaf (.out 0 (some (cn17 v i)))) := by kernel_rfl
def coreB (v : Vcpu) : Bool := bif v.core.regs.r0 == 0 then (bif v.core.csr.c7 == 0 then (bif v.core.csr.c8 == 0 then decide (v.done ≥ 0) else false) else false) else false
def formB (v : Vcpu) : Bool := bif (List.range v.log.length).all (fun k => !bad5 v.done v.log (k : Int)) then coreB v else false
theorem t17d (v : Vcpu) (i : Int) : (sx (teng []) 100 (p17 [1, 1]) (cn17 v i).as fun e s' => .leaf (obsR (teng []) (fnOf 17) rsB e s')) =
    br (v.core.regs.r0 == 0) (br (v.core.csr.c7 == 0) (br (v.core.csr.c8 == 0) (boolT (decide (v.done ≥ 0))) (boolT false)) (boolT false)) (boolT false) := by kernel_rfl

abbrev I17 (v : Vcpu) (k : Nat) : Prop := k ≤ v.log.length ∧ ∀ j, j < k → bad5 v.done v.log (j : Int) = false
theorem all_range {n : Nat} {f : Nat → Bool} : (List.range n).all f = true ↔ ∀ k, k < n → f k = true := by
  simp [List.all_eq_true]
theorem formB_bad {v : Vcpu} {k : Nat} (hk : k < v.log.length) (h : bad5 v.done v.log (k : Int) = true) : formB v = false := by
  unfold formB
  have : (List.range v.log.length).all (fun k => !bad5 v.done v.log (k : Int)) = false := by
    rw [Bool.eq_false_iff]
    intro ha
    have := all_range.1 ha k hk
    rw [h] at this
    cases this
  rw [this, cond_false]
theorem h17c (v : Vcpu) (hs : v.log.length < 4611686018427387904) (k : Nat) (hk : I17 v k) :
    Told (sx (teng []) 100 (p17 [1, 0, 1, 0, 0]) (cn17 v (k : Int)).as fun e s' => .leaf (obsL (teng []) K17 (fnOf 17) rsB e s'))
      (RoundO 0 (fun c => ∃ k' : Nat, I17 v k' ∧ v.log.length - k' < v.log.length - k ∧ c = cn17 v (k' : Int)) (fun c => (∃ i, c = cn17 v i) ∧ formB v = coreB v) (fun r => r = [tBool.arg (formB v)])) := Told.rw (t17c v _) (by
  refine ⟨fun h => ?_, fun h => ?_⟩
  · have hlt : k < v.log.length := by simpa using h
    have bad : bad5 v.done v.log (k : Int) = true → retF.Holds (RoundO 0 (fun c => ∃ k' : Nat, I17 v k' ∧ v.log.length - k' < v.log.length - k ∧ c = cn17 v (k' : Int)) (fun c => (∃ i, c = cn17 v i) ∧ formB v = coreB v) (fun r => r = [tBool.arg (formB v)])) := fun h => ⟨_, rfl, by rw [formB_bad hlt h]⟩
    have good : bad5 v.done v.log (k : Int) = false → (leaf (.go (some (cn17 v (IntKind.i64.wrap ((k : Int) + 1))))) : Tree Ob).Holds (RoundO 0 (fun c => ∃ k' : Nat, I17 v k' ∧ v.log.length - k' < v.log.length - k ∧ c = cn17 v (k' : Int)) (fun c => (∃ i, c = cn17 v i) ∧ formB v = coreB v) (fun r => r = [tBool.arg (formB v)])) := fun h =>
      ⟨_, rfl, k + 1, ⟨by omega, fun j hj => by
        rcases Nat.lt_or_ge j k with h1 | h1
        · exact hk.2 j h1
        · have : j = k := by omega
          subst this; exact h⟩, by omega, by rw [wrap_id (inR_i64.2 (by omega))]; rfl⟩
    refine ⟨by simp, by simpa using hlt, gT_ok (fun h1 => ⟨h1, bad ?_⟩) (fun h1 => gT_ok (fun h2 => ⟨h2, bad ?_⟩) (fun h2 => gT_ok (fun h3 => ⟨h3, bad ?_⟩) (fun h3 => br_ok (fun h4 => needG_ok (by rw [h4]; rfl) (need_ok h4 (bad ?_)) 4) (fun h4 => needG_ok (by rw [h4]; rfl) (br_ok (fun h5 => ?_) (fun h5 => ?_)) 3))))⟩
    · simp only [bad5, bad4, bad3, bad2, h1, cond_true]
    · simp only [bad5, bad4, bad3, h2, cond_true]
    · simp only [bad5, bad4, h3, cond_true]
    · simp only [bad5, h4, cond_true]
    · have hk1 : 1 ≤ k := by
        have h5 : (0 : Int) < (k : Int) := of_decide_eq_true h5
        omega
      have hw : IntKind.i64.wrap ((k : Int) - 1) = (k : Int) - 1 := wrap_id (inR_i64.2 (by omega))
      refine needG_ok (by rw [h5]; rfl) (need_ok (by rw [hw]; simp; omega) (need_ok (by rw [hw]; simp; omega) (needG_ok (by rw [h5]; rfl) (need_ok (by rw [h4]; rfl) (br_ok (fun h6 => bad h6) (fun h6 => good h6))) 3))) 7
    · refine needG_ok (by rw [h5]; rfl) (need_ok (by rw [h4]; rfl) (need_ok (by rw [h5]; rfl) (br_ok (fun h6 => ?_) (fun h6 => good ?_)))) 10
      · rw [h4, cond_false] at h6; cases h6
      · simp only [bad5, h4, h5, cond_false]
  · have hge : k = v.log.length := by
      have := hk.1
      have h : ¬ ((k : Int) < (v.log.length : Int)) := by simpa using h
      omega
    refine ⟨rfl, _, rfl, ⟨_, rfl⟩, ?_⟩
    unfold formB
    rw [all_range.2 (fun j hj => by rw [hk.2 j (by omega)]; rfl), cond_true])

def S17 : Summ := mkSumm [tVcpu.sig] (sp1 tVcpu fun v => ([], [tBool.arg (formB v)]))
theorem okVlog {l : List Arg} {v : Vcpu} (h : OkAs l) (hm : tVcpu.arg v ∈ l) : (∀ e ∈ v.log, InR .i64 e.kind ∧ InR .i64 e.at_ ∧ InR .u64 e.time) ∧ v.log.length < 4611686018427387904 := h _ hm (.evs v.log) (by simp [Ty.arg, tVcpu, Vcpu.cds])
theorem v17 (B : Base) (v : Vcpu) (hok : OkAs [tVcpu.arg v]) : Gives tcx 17 (encArgs [tVcpu.arg v] 0) (s0 [tVcpu.arg v]) rsB [tBool.arg (formB v)] := by
  have hs := (okVlog hok (v := v) (by simp)).2
  have hen := teng_ok B Good.nil
  have hl := teng_loc Good.nil
  refine gives_of (l := []) (by kernel_rfl) (by kernel_rfl) ?_
  rw [b17]
  refine Goes.preK hen hl (K := K17a) (f := 100) (c := cn17a v) (Told.rw (t17a v) rfl) ?_
  refine Goes.midSeq (K := K17) (fn := fnOf 17) (rs := rsB) (N := fun c => (∃ i, c = cn17 v i) ∧ formB v = coreB v) (Ret := fun r => r = [tBool.arg (formB v)]) ?_ ?_ (fun _ _ h1 h2 => Fin.ret h1 h2)
  · refine Goes.preK hen hl (K := K17) (f := 100) (c := cn17 v 0) (Told.rw (t17b v) rfl) ?_
    exact Goes.blockLoop (fun k : Nat => cn17 v (k : Int)) (I17 v) (fun k => v.log.length - k) (f := 100) hen hl (fun k hk => h17c v hs k hk) 0 ⟨Nat.zero_le _, fun j hj => absurd hj (Nat.not_lt_zero j)⟩
  · rintro c ⟨⟨i, rfl⟩, he⟩
    rw [he]
    exact Goes.last hen hl (f := 100) (Told.rw (t17d v i) (holds_bifG (fun x => some [tBool.arg x]) (fun _ => holds_bifG (fun x => some [tBool.arg x]) (fun _ => holds_bifG (fun x => some [tBool.arg x]) (fun _ => rfl) (fun _ => rfl)) (fun _ => rfl)) (fun _ => rfl)))
theorem o17 (B : Base) : SummOk tcx 17 S17 := summ1G (fun v hok _ => v17 B v hok) (by kernel_rfl)

/-! ### Valid -/
def K8 : CnK := ⟨[(3, .int .i64), (31, .evs), (32, .int .i64), (33, .int .i64)], [(1, vcpuKs)]⟩
def K8a : CnK := ⟨[], [(1, vcpuKs)]⟩
def K8b : CnK := ⟨[(3, .int .i64)], [(1, vcpuKs)]⟩
def cn8 (v : Vcpu) (last i : Int) : Cn := ⟨61, [(3, .int .i64 last), (31, .evs v.log), (32, .int .i64 (v.log.length : Int)), (33, .int .i64 i)], [(1, 33, v.cds)]⟩
def cn8a (v : Vcpu) : Cn := ⟨61, [], [(1, 33, v.cds)]⟩
def cn8b (v : Vcpu) : Cn := ⟨61, [(3, .int .i64 (-1))], [(1, 33, v.cds)]⟩
noncomputable def p8 (l : List Nat) : Code := sub (bodyOf 8) l
theorem b8 : bodyOf 8 = pieces [p8 [0], p8 [1, 0]] (pieces [p8 [1, 1, 0]] (.seq (pieces [p8 [1, 1, 1, 0, 0]] (.block 0 (.loop (p8 [1, 1, 1, 0, 1, 0, 0])))) (p8 [1, 1, 1, 1]))) := by kernel_rfl
def lastAt (l : List Ev) : Nat → Int
  | 0 => -1
  | k + 1 => (evAt l (k : Int)).at_
def badV (d last : Int) (x : Ev) : Bool := bif decide (x.kind < 1) then true else bif decide (x.kind > 3) then true else bif decide (x.at_ ≤ last) then true else decide (x.at_ ≥ d)
def logB (v : Vcpu) : Bool := (List.range v.log.length).all fun k => !badV v.done (lastAt v.log k) (evAt v.log (k : Int))
def validB (v : Vcpu) : Bool := bif v.core.regs.r0 != 0 then false else bif v.core.csr.c7 != 0 then false else bif v.core.csr.c8 != 0 then false else bif decide (v.done < 0) then false else logB v
theorem t8a (v : Vcpu) : (sxL (teng []) 100 [p8 [0], p8 [1, 0]] (entry 8 [tVcpu.arg v]) fun e s' => .leaf (obsL (teng []) K8a (fnOf 8) rsB e s')) =
    br (v.core.regs.r0 != 0) retF (br (v.core.csr.c7 != 0) retF (br (v.core.csr.c8 != 0) retF (br (decide (v.done < 0)) retF (leaf (.go (some (cn8a v))))))) := by kernel_rfl
theorem t8b (v : Vcpu) : (sxL (teng []) 100 [p8 [1, 1, 0]] (cn8a v).as fun e s' => .leaf (e, K8b.dec s')) = leaf (.normal, some (cn8b v)) := by kernel_rfl
theorem t8c (v : Vcpu) : (sxL (teng []) 100 [p8 [1, 1, 1, 0, 0]] (cn8b v).as fun e s' => .leaf (e, K8.dec s')) = leaf (.normal, some (cn8 v (-1) 0)) := by kernel_rfl
theorem t8d (v : Vcpu) (last i : Int) : (sx (teng []) 100 (p8 [1, 1, 1, 0, 1, 0, 0]) (cn8 v last i).as fun e s' => .leaf (obsL (teng []) K8 (fnOf 8) rsB e s')) =
    br (decide (i < (v.log.length : Int))) (need (decide (0 ≤ i)) (need (decide (i < (v.log.length : Int)))
      (br (decide ((evAt v.log i).kind < 1)) retF (br (decide ((evAt v.log i).kind > 3)) retF (br (decide ((evAt v.log i).at_ ≤ last)) retF (br (decide ((evAt v.log i).at_ ≥ v.done)) retF (leaf (.go (some (cn8 v (evAt v.log i).at_ (IntKind.i64.wrap (i + 1))))))))))))
      (leaf (.out 0 (some (cn8 v last i)))) := by kernel_rfl
theorem t8e (v : Vcpu) (last i : Int) : (sx (teng []) 100 (p8 [1, 1, 1, 1]) (cn8 v last i).as fun e s' => .leaf (obsR (teng []) (fnOf 8) rsB e s')) = leaf (some [tBool.arg true]) := by kernel_rfl

abbrev I8 (v : Vcpu) (k : Nat) : Prop := k ≤ v.log.length ∧ ∀ j, j < k → badV v.done (lastAt v.log j) (evAt v.log (j : Int)) = false
theorem logB_bad {v : Vcpu} {k : Nat} (hk : k < v.log.length) (h : badV v.done (lastAt v.log k) (evAt v.log (k : Int)) = true) : logB v = false := by
  unfold logB
  rw [Bool.eq_false_iff]
  intro ha
  have := all_range.1 ha k hk
  rw [h] at this
  cases this
theorem h8d (v : Vcpu) (hs : v.log.length < 4611686018427387904) (k : Nat) (hk : I8 v k) :
    Told (sx (teng []) 100 (p8 [1, 1, 1, 0, 1, 0, 0]) (cn8 v (lastAt v.log k) (k : Int)).as fun e s' => .leaf (obsL (teng []) K8 (fnOf 8) rsB e s'))
      (RoundO 0 (fun c => ∃ k' : Nat, I8 v k' ∧ v.log.length - k' < v.log.length - k ∧ c = cn8 v (lastAt v.log k') (k' : Int)) (fun c => (∃ j i, c = cn8 v j i) ∧ logB v = true) (fun r => r = [tBool.arg (logB v)])) := Told.rw (t8d v _ _) (by
  refine ⟨fun h => ?_, fun h => ?_⟩
  · have hlt : k < v.log.length := by simpa using h
    have bad : badV v.done (lastAt v.log k) (evAt v.log (k : Int)) = true → retF.Holds (RoundO 0 (fun c => ∃ k' : Nat, I8 v k' ∧ v.log.length - k' < v.log.length - k ∧ c = cn8 v (lastAt v.log k') (k' : Int)) (fun c => (∃ j i, c = cn8 v j i) ∧ logB v = true) (fun r => r = [tBool.arg (logB v)])) := fun h => ⟨_, rfl, by rw [logB_bad hlt h]⟩
    refine ⟨by simp, by simpa using hlt, fun h1 => bad ?_, fun h1 => ⟨fun h2 => bad ?_, fun h2 => ⟨fun h3 => bad ?_, fun h3 => ⟨fun h4 => bad ?_, fun h4 => ⟨_, rfl, k + 1, ⟨by omega, fun j hj => ?_⟩, by omega, ?_⟩⟩⟩⟩⟩
    · simp only [badV, h1, cond_true]
    · simp only [badV, h1, h2, cond_true, cond_false]
    · simp only [badV, h1, h2, h3, cond_true, cond_false]
    · simp only [badV, h1, h2, h3, h4, cond_false]
    · rcases Nat.lt_or_ge j k with h5 | h5
      · exact hk.2 j h5
      · have : j = k := by omega
        subst this
        simp only [badV, h1, h2, h3, h4, cond_false]
    · rw [wrap_id (inR_i64.2 (by omega))]; rfl
  · have hge : k = v.log.length := by
      have := hk.1
      have h : ¬ ((k : Int) < (v.log.length : Int)) := by simpa using h
      omega
    refine ⟨rfl, _, rfl, ⟨_, _, rfl⟩, ?_⟩
    unfold logB
    exact all_range.2 (fun j hj => by rw [hk.2 j (by omega)]; rfl))

def S8 : Summ := mkSumm [tVcpu.sig] (sp1 tVcpu fun v => ([], [tBool.arg (validB v)]))
theorem v8 (B : Base) (v : Vcpu) (hok : OkAs [tVcpu.arg v]) : Gives tcx 8 (encArgs [tVcpu.arg v] 0) (s0 [tVcpu.arg v]) rsB [tBool.arg (validB v)] := by
  have hs := (okVlog hok (v := v) (by simp)).2
  have hen := teng_ok B Good.nil
  have hl := teng_loc Good.nil
  refine gives_of (l := []) (by kernel_rfl) (by kernel_rfl) ?_
  rw [b8]
  refine Goes.piecesM (K := K8a) (fn := fnOf 8) (rs := rsB) (f := 100) (N := fun c => c = cn8a v ∧ validB v = logB v) (Ret := fun r => r = [tBool.arg (validB v)]) hen hl (Told.rw (t8a v) ?_) ?_ (fun _ _ h1 h2 => Fin.ret h1 h2)
  · refine ⟨fun h1 => ⟨_, rfl, ?_⟩, fun h1 => ⟨fun h2 => ⟨_, rfl, ?_⟩, fun h2 => ⟨fun h3 => ⟨_, rfl, ?_⟩, fun h3 => ⟨fun h4 => ⟨_, rfl, ?_⟩, fun h4 => ⟨_, rfl, rfl, ?_⟩⟩⟩⟩⟩
    all_goals simp only [validB, *, cond_true, cond_false]
  · rintro c ⟨rfl, hv⟩
    rw [hv]
    refine Goes.preK hen hl (K := K8b) (f := 100) (c := cn8b v) (Told.rw (t8b v) rfl) ?_
    refine Goes.midSeq (K := K8) (fn := fnOf 8) (rs := rsB) (N := fun c => (∃ j i, c = cn8 v j i) ∧ logB v = true) (Ret := fun r => r = [tBool.arg (logB v)]) ?_ ?_ (fun _ _ h1 h2 => Fin.ret h1 h2)
    · refine Goes.preK hen hl (K := K8) (f := 100) (c := cn8 v (-1) 0) (Told.rw (t8c v) rfl) ?_
      exact Goes.blockLoop (fun k : Nat => cn8 v (lastAt v.log k) (k : Int)) (I8 v) (fun k => v.log.length - k) (f := 100) hen hl (fun k hk => h8d v hs k hk) 0 ⟨Nat.zero_le _, fun j hj => absurd hj (Nat.not_lt_zero j)⟩
    · rintro c ⟨⟨j, i, rfl⟩, he⟩
      rw [he]
      exact Goes.last hen hl (f := 100) (Told.rw (t8e v j i) rfl)
theorem o8 (B : Base) : SummOk tcx 8 S8 := summ1G (fun v hok _ => v8 B v hok) (by kernel_rfl)
end Go.Sx
