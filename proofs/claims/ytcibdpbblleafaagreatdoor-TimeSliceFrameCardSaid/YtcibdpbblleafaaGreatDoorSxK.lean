/-
  A symbolic executor for the bodies of Go functions: regions whose order is fixed, tests, loops, calls of bodies.
  Conditions: none; the lemmas that lead from single operations to whole bodies.
-/
import Derived.Test.YtcibdpbblleafaaGreatDoorSxJ
import Derived.Laws.IdiomRangeMap
namespace Go.Sx
open Go Go.RowKit

theorem needsT_holds {α : Type} {p : α → Prop} : ∀ {l : List Bool} {t : Tree α}, (needsT l t).Holds p → AllT l ∧ t.Holds p
  | [], _, h => ⟨(by intro b hb; cases hb), h⟩
  | b :: bs, t, h => by
    obtain ⟨h1, h2⟩ := h
    obtain ⟨h3, h4⟩ := needsT_holds h2
    exact ⟨(by intro c hc; cases hc with
      | head => exact h1
      | tail _ hm => exact h3 c hm), h4⟩

def Fresh (E : Env) (nM nR : Nat) : Prop := (∀ i, nM ≤ i → E.ρ i = none) ∧ (∀ r, nR ≤ r → E.σ r = none)

/-- The state of a run and its symbolic image. -/
structure St (W0 : World) (E : Env) (s : AS) (a : Act) (w : World) : Prop where
  tmps : TmpsOk E s.T a
  nT : a.tmps.size = s.nT
  defers : a.defers = []
  mem : MemR W0 E s.M s.R w
  fresh : Fresh E s.nM s.nR

theorem put_size (a : Act) (dst : Option Tmp) (v : Value) : (a.put dst v).tmps.size = a.tmps.size := by cases dst <;> simp [Act.put]
theorem put_defers (a : Act) (dst : Option Tmp) (v : Value) : (a.put dst v).defers = a.defers := by cases dst <;> rfl

theorem TmpsOk.put {E F : Env} {T : Nat → SV} {a : Act} {n : Nat} (h : TmpsOk E T a) (hn : a.tmps.size = n) (hle : E.Le F) {dst : Option Tmp} (hd : (match dst with | some d => Nat.blt d n | none => true) = true) {sv : SV} {v : Value} (hv : V F sv v) :
    TmpsOk F (putT T dst sv) (a.put dst v) := by
  intro j
  cases dst with
  | none => exact (h j).mono hle
  | some d =>
    have hd : d < n := by
      unfold Nat.blt at hd
      exact Nat.le_of_ble_eq_true hd
    simp only [Act.put, putT]
    rw [upd_apply]
    split
    · rename_i hj; subst hj
      have : (a.tmps.setIfInBounds j v).getD j undef = v := by simp [hn, hd]
      rw [this]; exact hv
    · rename_i hj
      have : (a.tmps.setIfInBounds d v).getD j undef = a.tmps.getD j undef := by simp [Array.getElem?_setIfInBounds_ne (Ne.symm hj)]
      rw [this]; exact (h j).mono hle

theorem Fresh.next {W0 : World} {E F : Env} {M : Nat → Option Blk} {R : Nat → Option RowE} {e : Eff} {nM nR : Nat} {v : Value} {w' : World} (h : Fresh E nM nR) (d : Did W0 E M R e nM nR v w' F) : Fresh F (nM + 1) (nR + rowsEach * 1) := by
  refine ⟨fun i hi => ?_, fun r hr => ?_⟩
  · rw [d.ρ i (by omega)]; exact h.1 i (by omega)
  · rw [d.σ r (.inr (by omega))]; exact h.2 r (by omega)

def exitOf : Ex → Exit
  | .normal => .normal
  | .exit id => .exit id
  | .ret => .ret

section
variable {en : Eng} {W0 : World} {α : Type} {p : α → Prop}

/-- What calling a body by the engine must give. -/
def CallOk (en : Eng) (W0 : World) (p : α → Prop) (call : FuncId → List SV → AS → (SV → AS → Tree α) → Tree α) : Prop :=
  ∀ (g : FuncId) (xs : List SV) (s : AS) (k : SV → AS → Tree α) (E : Env) (w : World) (vs : List Value) (R : Value → World → Prop),
    (call g xs s k).Holds p → VL E xs vs → MemR W0 E s.M s.R w → Fresh E s.nM s.nR →
    (∀ x v s' E' w', E.Le E' → V E' x v → s'.T = s.T → s'.nT = s.nT → MemR W0 E' s'.M s'.R w' → Fresh E' s'.nM s'.nR → (k x s').Holds p → R v w') →
    (∃ fn c, en.cx.P.funcs[g]? = some fn ∧ fn.body = some c) ∧ Calls en.cx.P g vs.toArray w fun | .returned v, w' => R v w' | _, _ => False

theorem findNow_ok {E : Env} : ∀ {es : List (Int × SV)} {l : List MapEntry} {n : Int} {i : Nat}, MapOk E es l →
    ((es.all fun e => !(n == e.1)) = true ∧ Instr.findNow (.int .i64) (.int .i64 n) l i = some none) ∨
    ∃ pre k s post v j, es = pre ++ (k, s) :: post ∧ (pre.all fun e => !(n == e.1)) = true ∧ (n == k) = true ∧ V E s v ∧ Instr.findNow (.int .i64) (.int .i64 n) l i = some (some (j, v))
  | [], l, n, i, h => by simp only [MapOk] at h; subst h; exact .inl ⟨rfl, rfl⟩
  | (k, s) :: es, l, n, i, h => by
    simp only [MapOk] at h
    obtain ⟨x, rest, rfl, h1, h2, h3⟩ := h
    cases hk : (n == k) with
    | true => exact .inr ⟨[], k, s, es, x.val, i, rfl, rfl, hk, h2, by simp [Instr.findNow, h1, Instr.sameNow, hk]⟩
    | false =>
      rcases findNow_ok (n := n) (i := i + 1) h3 with ⟨q1, q2⟩ | ⟨pre, k', s', post, v, j, q1, q2, q3, q4, q5⟩
      · exact .inl ⟨by simp [hk, q1], by simp [Instr.findNow, h1, Instr.sameNow, hk, q2]⟩
      · exact .inr ⟨(k, s) :: pre, k', s', post, v, j, by rw [q1]; rfl, by simp [hk, q2], q3, q4, by simp [Instr.findNow, h1, Instr.sameNow, hk, q5]⟩

theorem lookTree_ok {known : Bool} {zero : SV} {s : AS} {dst : Option Tmp} {k : AS → Tree α} {n : Int} : ∀ {es : List (Int × SV)}, (lookTree known n zero s dst k es).Holds p →
    ((es.all fun e => !(n == e.1)) = true → (k (s.put dst (.t [zero, .kb false]))).Holds p) ∧
    (∀ pre key v post, es = pre ++ (key, v) :: post → (pre.all fun e => !(n == e.1)) = true → (n == key) = true → (k (s.put dst (.t [v, .kb true]))).Holds p)
  | [], h => ⟨fun _ => h, fun pre key v post he => (by cases pre <;> cases he)⟩
  | (key, v) :: rest, h => by
    have h2 : ((n == key) = true → (k (s.put dst (.t [v, .kb true]))).Holds p) ∧ ((n == key) = false → (lookTree known n zero s dst k rest).Holds p) := by
      cases known with
      | true =>
        simp only [lookTree] at h
        cases hk : (n == key) <;> simp only [hk, cond_true, cond_false] at h
        · exact ⟨fun e => (by cases e), fun _ => h⟩
        · exact ⟨fun _ => h, fun e => (by cases e)⟩
      | false =>
        simp only [lookTree] at h
        exact h
    refine ⟨fun ha => ?_, fun pre key' v' post he hp hk => ?_⟩
    · simp only [List.all_cons, Bool.and_eq_true, Bool.not_eq_true'] at ha
      exact (lookTree_ok (h2.2 ha.1)).1 ha.2
    · cases pre with
      | nil =>
        cases he
        exact h2.1 hk
      | cons q pre =>
        cases he
        simp only [List.all_cons, Bool.and_eq_true, Bool.not_eq_true'] at hp
        exact (lookTree_ok (h2.2 hp.1)).2 pre key' v' post rfl hp.2 hk

theorem zero1_ok {P : Program} {t : TypeId} {z : SV} {w : World} (h : zero1 P t = some z) : ∃ v, (zeroValue t).run P w = .ok v w ∧ ∀ E, V E z v := by
  unfold zero1 at h
  split at h <;> try (cases h; done)
  rename_i i hi
  split at h <;> try (cases h; done)
  rename_i z' hne hz
  cases h
  exact ⟨z', by simp [zeroValue, typeInfo, hi, hz], fun E => constSV_V E z'⟩

theorem nextAll_ok {s : AS} {dst : Option Tmp} {i q n : Nat} {seen : List Nat} {k : AS → Tree α} : ∀ {js : List Nat}, (nextAll s dst i q n seen k js).Holds p → ∀ j ∈ js, (k (s.handed dst i q n seen j)).Holds p
  | [], h, _, _ => h.elim
  | [j], h, x, hx => by simp at hx; subst hx; exact h
  | j :: j2 :: js, h, x, hx => by
    obtain ⟨h1, h2⟩ := h
    cases hx with
    | head => exact h1
    | tail _ hm => exact nextAll_ok h2 x hm

theorem mem_freeOf {n j : Nat} {seen : List Nat} : j ∈ freeOf n seen ↔ j < n ∧ j ∉ seen := by
  simp only [freeOf, List.mem_filter, List.mem_range, Bool.not_eq_true']
  refine and_congr_right fun _ => ?_
  rw [List.any_eq_false]
  constructor
  · intro h hm
    exact h j hm (Nat.beq_refl j)
  · intro h x hx hb
    have := Nat.eq_of_beq_eq_true hb
    subst this
    exact h hx

/-- The next entry of a map that has not turned since the loop began. -/
theorem run_next_iter {P : Program} {w : World} {r bm n : Nat} {seen : List Nat} {ents : List MapEntry} (hb : w.heap[bm]? = some (.map ents.toArray n)) (hr : w.heap[r]? = some (.mapIter (some bm) n seen.toArray n)) (hn : n = ents.length)
    (hborn : ∀ (i : Nat) e, ents[i]? = some e → e.born = i) (ty : TypeId) :
    (freeOf n seen = [] ∧ (Instr.next (.pointer (some ⟨r, 0, none⟩)) false ty).run P w = .ok (.tuple #[.bool false]) w) ∨
    ∃ (j : Nat) (e : MapEntry) (w1 : World), j ∈ freeOf n seen ∧ ents[j]? = some e ∧ (w1 = w ∨ w1 = w.drew) ∧
      (Instr.next (.pointer (some ⟨r, 0, none⟩)) false ty).run P w = .ok (.tuple #[.bool true, e.key, e.val]) { w1 with heap := w1.heap.setIfInBounds r (.mapIter (some bm) n (seen ++ [j]).toArray n) } := by
  have hold : ∀ x ∈ ents.toArray.toList, x.born < n := fun x hx => by
    obtain ⟨i, hi⟩ := List.getElem?_of_mem hx
    have h1 := hborn i x (by simpa using hi)
    have h2 := (List.getElem?_eq_some_iff.1 hi).1
    simp at h2
    omega
  simp only [Instr.next, getObj, Sem.run_bind, Sem.run, hr, hb, Result.andThen, next_test_false seen.toArray ents.toArray n n hold (Nat.le_refl n), Bool.false_eq_true, if_false]
  have hL : ∀ x ∈ (Array.filter (fun e => !seen.toArray.contains e.born) ents.toArray).toList, ∃ j, j ∈ freeOf n seen ∧ ents[j]? = some x := fun x hx => by
    simp only [Array.toList_filter, List.mem_filter, Bool.not_eq_true'] at hx
    obtain ⟨i, hi⟩ := List.getElem?_of_mem hx.1
    have hi : ents[i]? = some x := by simpa using hi
    have h1 := hborn i x hi
    have h2 := (List.getElem?_eq_some_iff.1 hi).1
    refine ⟨i, mem_freeOf.2 ⟨by omega, fun hm => ?_⟩, hi⟩
    have := hx.2
    rw [h1] at this
    simp at this
    exact this hm
  have hmem : ∀ x ∈ (Array.filter (fun e => !seen.toArray.contains e.born) ents.toArray).toList, x.born < n := fun x hx => hold x (by simp at hx ⊢; exact hx.1)
  have hempty : (Array.filter (fun e => !seen.toArray.contains e.born) ents.toArray).size = 0 → freeOf n seen = [] := fun h0 => by
    rw [List.eq_nil_iff_forall_not_mem]
    intro j hj
    obtain ⟨h1, h2⟩ := mem_freeOf.1 hj
    have hlt : j < ents.length := by omega
    have hjb := hborn j ents[j] (List.getElem?_eq_getElem hlt)
    have : ents[j] ∈ (Array.filter (fun e => !seen.toArray.contains e.born) ents.toArray).toList := by
      simp only [Array.toList_filter, List.mem_filter, Bool.not_eq_true']
      refine ⟨by simp, ?_⟩
      rw [hjb]
      simp
      exact h2
    have hz := Array.eq_empty_of_size_eq_zero h0
    rw [hz] at this
    simp at this
  generalize Array.filter (fun e => !seen.toArray.contains e.born) ents.toArray = L at hmem hL hempty ⊢
  have e1 : L.filter (fun x => decide (x.born < n)) = L := Array.filter_eq_self.2 (fun x hx => by simpa using hmem x (by simpa using hx))
  have e2 : L.filter (fun x => decide (x.born ≥ n)) = #[] := by
    rw [Array.filter_eq_empty_iff]
    intro x hx
    have := hmem x (by simpa using hx)
    simp
    omega
  simp only [e1, e2, Array.append_empty]
  by_cases h0 : L.size = 0
  · left
    have hz : L = #[] := Array.eq_empty_of_size_eq_zero h0
    refine ⟨hempty h0, ?_⟩
    subst hz
    simp [choose, Sem.run, Question.forced]
  · right
    have hne : L.isEmpty = false := by simp [Array.isEmpty, h0]
    simp only [hne, Bool.false_eq_true, if_false, Array.empty_append, Array.size_map]
    have hch : ∃ (j : Nat) (w1 : World), j < L.size ∧ (w1 = w ∨ w1 = w.drew) ∧ (choose (Question.mapNext L.size)).run P w = .ok j w1 := by
      by_cases hf : L.size ≤ 1
      · exact ⟨0, w, by omega, .inl rfl, by simp [choose, Sem.run, Question.forced, hf]⟩
      · exact ⟨_, w.drew, Nat.mod_lt _ (by omega), .inr rfl, by
          simp only [choose, Sem.run, Question.forced, decide_eq_true_eq, hf, if_false, Question.cut]
          rfl⟩
    obtain ⟨j, w1, hj, hal, hrun⟩ := hch
    obtain ⟨i, hi1, hi2⟩ := hL L[j] (by simp)
    refine ⟨i, L[j], w1, hi1, hi2, hal, ?_⟩
    have hr1 : w1.heap[r]? = some (.mapIter (some bm) n seen.toArray n) := by
      rcases hal with rfl | rfl
      · exact hr
      · exact hr
    have hset : ∀ (o' : Obj), (setObj r o').run P w1 = .ok () ({ w1 with heap := w1.heap.setIfInBounds r o' } : World) := fun o' => by
      simp only [setObj, Sem.run, hr1]
    simp only [hrun, Array.getElem?_map, Array.getElem?_eq_getElem hj, Option.map_some, Sem.run_bind, hset, Result.andThen, hborn i _ hi2]
    simp

theorem run_entry_iter {P : Program} {w : World} {r bm n j : Nat} {seen : List Nat} {ents : List MapEntry} {e : MapEntry} (hb : w.heap[bm]? = some (.map ents.toArray n)) (hr : w.heap[r]? = some (.mapIter (some bm) n seen.toArray n))
    (hborn : ∀ (i : Nat) e, ents[i]? = some e → e.born = i) (hl : seen.getLast? = some j) (hj : ents[j]? = some e) :
    (Instr.entry (.pointer (some ⟨r, 0, none⟩))).run P w = .ok (.tuple #[e.key, e.val]) w := by
  have hback : seen.toArray.back? = some j := by rw [List.back?_toArray]; exact hl
  have hfind : ents.toArray.find? (fun x => x.born == j) = some e := by
    rw [List.find?_toArray, List.find?_eq_some_iff_getElem]
    obtain ⟨h1, h2⟩ := List.getElem?_eq_some_iff.1 hj
    refine ⟨by simpa using hborn j e hj, j, h1, h2, fun i hi => ?_⟩
    have := hborn i ents[i] (List.getElem?_eq_getElem (by omega))
    simp [this]
    omega
  simp [Instr.entry, getObj, Sem.run_bind, Sem.run, hr, hb, Result.andThen, hback, hfind]

theorem exO_sound (hen : EngOk en) (hg : GlobOk en.cx W0) {call : FuncId → List SV → AS → (SV → AS → Tree α) → Tree α} (hcall : CallOk en W0 p call) {o : Oper} {s : AS} {k : AS → Tree α} {E : Env} {a : Act} {w : World}
    {K : Act → World → Prop} {Q : Exit → Act → World → Prop} (hs : St W0 E s a w) (h : (exO en call o s k).Holds p)
    (hK : ∀ s' E' a' w', E.Le E' → St W0 E' s' a' w' → (k s').Holds p → K a' w') : o.wp en.cx.P a w K Q := by
  have plain : (match evOp en.cx en.summ s s.nM s.nR o.op with
    | some e => bif decide (e.nr.length ≤ rowsEach) && okDst s o.dst then needsT e.needs (k ((s.app o.dst e s.nM s.nR).next 1)) else .fail
    | none => .fail).Holds p → o.wp en.cx.P a w K Q := by
    intro h
    split at h
    · rename_i e he
      cases hc : (decide (e.nr.length ≤ rowsEach) && okDst s o.dst) <;> simp only [hc, cond_true, cond_false] at h
      · exact h.elim
      · simp only [Bool.and_eq_true] at hc
        obtain ⟨hnd, hk⟩ := needsT_holds h
        refine evOp_sound hen hg he hnd hs.tmps hs.mem (hs.fresh.1 _ (Nat.le_refl _)) (fun j _ => hs.fresh.2 _ (Nat.le_add_right _ _)) fun v w' F hd => ?_
        refine hK _ F _ _ hd.le ⟨?_, by rw [put_size]; exact hs.nT, by rw [put_defers]; exact hs.defers, hd.mem, hs.fresh.next hd⟩ hk
        exact hs.tmps.put hs.nT hd.le (by have := hc.2; unfold okDst at this; exact this) hd.v
    · exact h.elim
  obtain ⟨dst, op, type, pos, after, guard⟩ := o
  unfold exO at h
  dsimp only at h
  split at h
  · -- a call
    rename_i f args ats
    split at h
    · rename_i g xs ht
      cases hc : (en.inl g && okDst s dst) <;> simp only [hc, cond_true, cond_false] at h
      · exact plain h
      · simp only [Bool.and_eq_true] at hc
        have hargs := opnds_V hs.tmps args
        have hxs : ∃ vs : List Value, VL E xs vs ∧ ∀ fn c, en.cx.P.funcs[g]? = some fn → fn.body = some c → (execOp a.eval ⟨dst, .call ⟨.value f, args, ats⟩, type, pos, after, guard⟩).run en.cx.P w = .ok (.enter g vs.toArray) w := by
          unfold target at ht
          split at ht <;> try (cases ht; done)
          rename_i fn first caps hsf
          cases ht
          have hv := opnd_V hs.tmps f
          rw [hsf] at hv
          simp only [V] at hv
          obtain ⟨fs, cs, hfv, h1, h2⟩ := hv
          refine ⟨fs ++ (args.map a.eval).toList ++ cs, VL.append (VL.append h1 hargs) h2, fun fn' c hf hb => ?_⟩
          have : (fs ++ (args.map a.eval).toList ++ cs).toArray = fs.toArray ++ args.map a.eval ++ cs.toArray := by simp
          rw [this]
          have hrun := run_call_enter (w := w) hen hf hb (fs.toArray ++ args.map a.eval ++ cs.toArray)
          show (do let d ← Deferred.ofValue (a.eval f) (args.map a.eval); invoke d.target d.args : Sem Next).run en.cx.P w = _
          rw [hfv]
          simp only [Deferred.ofValue, Sem.run_bind, Sem.run_pure, Result.andThen_ok, invoke]
          exact hrun
        obtain ⟨vs, hvs, hrun⟩ := hxs
        obtain ⟨⟨fn, c, hf, hb⟩, hcalls⟩ := hcall g xs s _ E w vs (fun v w' => K (a.put dst v) w') h hvs hs.mem hs.fresh (by
          intro x v s' E' w' hle hv hT hnT hmem hfr hk
          refine hK (s'.put dst x) E' _ _ hle ⟨?_, by rw [put_size]; show _ = s'.nT; rw [hnT]; exact hs.nT, by rw [put_defers]; exact hs.defers, hmem, hfr⟩ hk
          have := hs.tmps.put hs.nT hle (dst := dst) (by have := hc.2; unfold okDst at this; exact this) hv
          show TmpsOk E' (putT s'.T dst x) (a.put dst v)
          rw [hT]; exact this)
        unfold Oper.wp
        rw [hrun fn c hf hb]
        refine Calls.mono hcalls ?_
        intro en' w' hh
        cases en' with
        | returned v => exact hh
        | panicked => exact hh.elim
        | outgrown => exact hh.elim
    · exact h.elim
  · -- a look into a map
    rename_i t m ix
    split at h
    · rename_i kt vt q hu hmq
      split at h
      · rename_i z es hkt hz hM
        cases hc : okDst s dst <;> simp only [hc, cond_true, cond_false] at h
        · exact h.elim
        · have hvm := opnd_V hs.tmps m
          rw [hmq] at hvm
          simp only [V] at hvm
          obtain ⟨b, hb, hvm⟩ := hvm
          obtain ⟨b', hb', ents, clock, hh, hmo, _⟩ := hs.mem.blk hM
          rw [hb] at hb'; cases hb'
          obtain ⟨zv, hzr, hzv⟩ := zero1_ok (P := en.cx.P) (w := w) hz
          have key : ∀ (known : Bool) (n : Int), a.eval ix = .int .i64 n → (lookTree known n z s dst k es).Holds p → Oper.wp en.cx.P ⟨dst, .lookup t m ix true, type, pos, after, guard⟩ a w K Q := by
            intro known n hix h
            have hkey : MapKept.IsKey (.int .i64) (.int .i64 n) := by simp [MapKept.IsKey]
            obtain ⟨l1, l2⟩ := lookTree_ok h
            have fin : ∀ (sv : SV) (v : Value), V E sv v → (k (s.put dst sv)).Holds p → K (a.put dst v) w := fun sv v hv hk =>
              hK (s.put dst sv) E _ _ (.refl E) ⟨hs.tmps.put hs.nT (.refl E) (by unfold okDst at hc; exact hc) hv, by rw [put_size]; exact hs.nT, by rw [put_defers]; exact hs.defers, hs.mem, hs.fresh⟩ hk
            have run : ∀ r : Option (Nat × Value), Instr.findNow (.int .i64) (.int .i64 n) ents 0 = some r → (Instr.lookup t (.map (some b)) (.int .i64 n) true).run en.cx.P w = .ok (match r with | some (_, v) => .tuple #[v, .bool true] | none => .tuple #[zv, .bool false]) w := by
              intro r hr
              simp only [Instr.lookup, Sem.run_bind, run_underlying' hu, Result.andThen_ok, MapKept.run_getObj_map hh, Sem.run_pure, MapKept.run_checkKey hkt hkey, MapKept.run_findKey hkt hr]
              cases r with
              | none => simp [hzr]
              | some q => simp
            rcases findNow_ok (n := n) (i := 0) hmo with ⟨q1, q2⟩ | ⟨pre, kk, sv, post, v, j, q1, q2, q3, q4, q5⟩
            · refine wp_value (v := .tuple #[zv, .bool false]) (w' := w) ?_ (fin (.t [z, .kb false]) _ ?_ (l1 q1))
              · refine run_v (S := Instr.lookup t (a.eval m) (a.eval ix) true) ?_
                rw [hvm, hix]; exact run none q2
              · simp only [V]; exact ⟨[zv, .bool false], rfl, VL.cons'.2 ⟨hzv E, VL.cons'.2 ⟨by simp only [V], VL.nil.2 rfl⟩⟩⟩
            · refine wp_value (v := .tuple #[v, .bool true]) (w' := w) ?_ (fin (.t [sv, .kb true]) _ ?_ (l2 pre kk sv post q1 q2 q3))
              · refine run_v (S := Instr.lookup t (a.eval m) (a.eval ix) true) ?_
                rw [hvm, hix]; exact run (some (j, v)) q5
              · simp only [V]; exact ⟨[v, .bool true], rfl, VL.cons'.2 ⟨q4, VL.cons'.2 ⟨by simp only [V], VL.nil.2 rfl⟩⟩⟩
          have hvx := opnd_V hs.tmps ix
          split at h
          · rename_i n hx
            rw [hx] at hvx; simp only [V] at hvx
            exact key true n hvx.1 h
          · rename_i n hx
            rw [hx] at hvx; simp only [V] at hvx
            exact key false n hvx.1 h
          · exact h.elim
      · exact h.elim
    · exact h.elim
  · -- a loop over a map begins
    rename_i t m
    split at h
    · rename_i kt vt q hu hmq
      split at h
      · rename_i es hM
        cases hc : okDst s dst <;> simp only [hc, cond_true, cond_false] at h
        · exact h.elim
        · have hvm := opnd_V hs.tmps m
          rw [hmq] at hvm
          simp only [V] at hvm
          obtain ⟨b, hb, hvm⟩ := hvm
          obtain ⟨b', hb', ents, clock, hh, hmo, hcl, hborn⟩ := hs.mem.blk hM
          rw [hb] at hb'; cases hb'
          have hlen := hmo.length
          have hrun : (Instr.range t (.map (some b))).run en.cx.P w = .ok (.pointer (some ⟨w.heap.size, 0, none⟩)) (w.alloc (.mapIter (some b) clock #[] clock)) := run_range_map w t kt vt b ents.toArray clock hu hh
          have hd : Did W0 E s.M s.R { Eff.pure (.p s.nM 0) with nb := some (.iter q [] es.length) } s.nM s.nR (.pointer (some ⟨w.heap.size, 0, none⟩)) (w.alloc (.mapIter (some b) clock #[] clock)) (E.own s.nM w.heap.size) := by
            refine did_new hs.mem rfl rfl rfl rfl (hs.fresh.1 _ (Nat.le_refl _)) ⟨b, hb, ?_⟩ (own_p ..)
            rw [heap_alloc_new, hcl, hlen]
          refine wp_value (v := .pointer (some ⟨w.heap.size, 0, none⟩)) (w' := w.alloc (.mapIter (some b) clock #[] clock)) (run_v (S := Instr.range t (a.eval m)) (by rw [hvm]; exact hrun)) (hK _ _ _ _ hd.le ⟨?_, by rw [put_size]; exact hs.nT, by rw [put_defers]; exact hs.defers, hd.mem, hs.fresh.next hd⟩ h)
          exact hs.tmps.put hs.nT hd.le (by unfold okDst at hc; exact hc) hd.v
      · exact h.elim
    · exact h.elim
  · -- its next entry
    rename_i x
    split at h
    · rename_i i hx
      split at h
      · rename_i q seen n hM
        cases hc : (okDst s dst && Nat.ble foreign i) <;> simp only [hc, cond_true, cond_false] at h
        · exact h.elim
        · simp only [Bool.and_eq_true] at hc
          split at h
          · rename_i es hMq
            cases hn : Nat.beq es.length n <;> simp only [hn, cond_true, cond_false] at h
            · exact h.elim
            · have hn := Nat.eq_of_beq_eq_true hn
              have hvx := opnd_V hs.tmps x
              rw [hx] at hvx
              simp only [V] at hvx
              obtain ⟨r, hr, hvx⟩ := hvx
              obtain ⟨r', hr', bm, hbm, hit⟩ := hs.mem.blk hM
              rw [hr] at hr'; cases hr'
              obtain ⟨b', hb', ents, clock, hh, hmo, hcl, hborn⟩ := hs.mem.blk hMq
              rw [hbm] at hb'; cases hb'
              have hlen := hmo.length
              have hcn : clock = n := by omega
              subst hcn
              rcases run_next_iter (P := en.cx.P) hh hit hcl hborn type with ⟨g1, g2⟩ | ⟨j, e, w1, g1, g2, g3, g4⟩
              · rw [g1] at h
                refine wp_value (v := .tuple #[.bool false]) (w' := w) (run_v (S := Instr.next (a.eval x) false type) (by rw [hvx]; exact g2)) ?_
                refine hK (s.put dst (.t [.kb false])) E _ _ (.refl E) ⟨hs.tmps.put hs.nT (.refl E) (by have := hc.1; unfold okDst at this; exact this) ?_, by rw [put_size]; exact hs.nT, by rw [put_defers]; exact hs.defers, hs.mem, hs.fresh⟩ h
                simp only [V]; exact ⟨[.bool false], rfl, VL.cons'.2 ⟨by simp only [V], VL.nil.2 rfl⟩⟩
              · have hk : (k (s.handed dst i q clock seen j)).Holds p := by
                  split at h
                  · rename_i hf; rw [hf] at g1; cases g1
                  · rename_i j0 js hf
                    rw [hf] at g1
                    exact nextAll_ok h j g1
                have hm1 : MemR W0 E s.M s.R w1 := by
                  rcases g3 with rfl | rfl
                  · exact hs.mem
                  · exact hs.mem.drew
                have hit1 : w1.heap[r]? = some (.mapIter (some bm) clock seen.toArray clock) := by
                  rcases g3 with rfl | rfl <;> exact hit
                obtain ⟨q1, q2⟩ := MapKept.heap_set (o' := .mapIter (some bm) clock (seen ++ [j]).toArray clock) hit1
                have hfor := Nat.le_of_ble_eq_true hc.2
                have hm2 : MemR W0 E (upd s.M i (some (.iter q (seen ++ [j]) clock))) s.R { w1 with heap := w1.heap.setIfInBounds r (.mapIter (some bm) clock (seen ++ [j]).toArray clock) } :=
                  hm1.put (w' := { w1 with heap := w1.heap.setIfInBounds r (.mapIter (some bm) clock (seen ++ [j]).toArray clock) }) hr hfor rfl rfl rfl (by simp) (fun j hj => q2 j hj) ⟨bm, hbm, q1⟩
                refine wp_value (run_v (S := Instr.next (a.eval x) false type) (by rw [hvx]; exact g4)) ?_
                refine hK (s.handed dst i q clock seen j) E _ _ (.refl E) ⟨?_, by rw [put_size]; exact hs.nT, by rw [put_defers]; exact hs.defers, hm2, hs.fresh⟩ hk
                refine hs.tmps.put hs.nT (.refl E) (by have := hc.1; unfold okDst at this; exact this) ?_
                simp only [V]; exact ⟨[.bool true, e.key, e.val], rfl, VL.cons'.2 ⟨by simp only [V], VL.cons'.2 ⟨by simp only [V], VL.cons'.2 ⟨by simp only [V], VL.nil.2 rfl⟩⟩⟩⟩
          · exact h.elim
      · exact h.elim
    · exact h.elim
  · -- the entry at hand
    rename_i x
    split at h
    · rename_i i hx
      split at h
      · rename_i q seen n hM
        cases hc : okDst s dst <;> simp only [hc, cond_true, cond_false] at h
        · exact h.elim
        · split at h
          · rename_i es j hMq hlast
            cases hn : Nat.beq es.length n <;> simp only [hn, cond_true, cond_false] at h
            · exact h.elim
            · have hn := Nat.eq_of_beq_eq_true hn
              split at h
              · rename_i kk v hj
                cases hin : inRb .i64 kk <;> simp only [hin, cond_true, cond_false] at h
                · exact h.elim
                · have hvx := opnd_V hs.tmps x
                  rw [hx] at hvx
                  simp only [V] at hvx
                  obtain ⟨r, hr, hvx⟩ := hvx
                  obtain ⟨r', hr', bm, hbm, hit⟩ := hs.mem.blk hM
                  rw [hr] at hr'; cases hr'
                  obtain ⟨b', hb', ents, clock, hh, hmo, hcl, hborn⟩ := hs.mem.blk hMq
                  rw [hbm] at hb'; cases hb'
                  have hlen := hmo.length
                  have hcn : clock = n := by omega
                  subst hcn
                  obtain ⟨e, k1, k2, k3⟩ := hmo.get hj
                  have hrun := run_entry_iter (P := en.cx.P) hh hit hborn hlast k1
                  refine wp_value (run_v (S := Instr.entry (a.eval x)) (by rw [hvx]; exact hrun)) ?_
                  refine hK (s.put dst (.t [.n .i64 kk, v])) E _ _ (.refl E) ⟨hs.tmps.put hs.nT (.refl E) (by unfold okDst at hc; exact hc) ?_, by rw [put_size]; exact hs.nT, by rw [put_defers]; exact hs.defers, hs.mem, hs.fresh⟩ h
                  simp only [V]
                  refine ⟨[e.key, e.val], rfl, VL.cons'.2 ⟨?_, VL.cons'.2 ⟨k3, VL.nil.2 rfl⟩⟩⟩
                  simp only [V]
                  simp only [inRb, Bool.and_eq_true, decide_eq_true_eq] at hin
                  exact ⟨k2, hin⟩
              · exact h.elim
          · exact h.elim
      · exact h.elim
    · exact h.elim
  · exact plain h

theorem getD_bool {tmps : Array Value} {g : Nat} {c : Bool} (h : tmps.getD g undef = .bool c) : tmps[g]? = some (.bool c) := by
  cases hg : tmps[g]? with
  | none => simp [hg, undef] at h
  | some v => simp [hg] at h; rw [h]

/-- What a guard says. -/
theorem guard_ok {E : Env} {s : AS} {a : Act} (hT : TmpsOk E s.T a) {ops : Array Oper} {o : Oper} {j : Nat} {want : Bool} (hgd : o.guard = some (j, want)) {g : Tmp} (hg : guardT ops j = some g) {c : Bool} (hc : s.T g = .kb c ∨ s.T g = .b c) :
    Region.wanted o (yielded ops a.tmps) = (c == want) := by
  have hv := hT g
  have hv' : a.tmps.getD g undef = .bool c := by
    rcases hc with h | h <;> rw [h] at hv <;> simpa only [V] using hv
  have hb := getD_bool hv'
  unfold guardT at hg
  cases ho : ops[j]? with
  | none => rw [ho] at hg; cases hg
  | some oj =>
    rw [ho] at hg
    dsimp only at hg
    have hy : yielded ops a.tmps j = some c := by
      simp only [yielded, ho, Option.bind_some, hg, hb]
    simp only [Region.wanted, hgd, hy]
    cases c <;> cases want <;> rfl

/-- A guard that was skipped itself. -/
theorem guard_none {E : Env} {s : AS} {a : Act} (hT : TmpsOk E s.T a) {ops : Array Oper} {o : Oper} {j : Nat} {want : Bool} (hgd : o.guard = some (j, want)) {g : Tmp} (hg : guardT ops j = some g) (hc : s.T g = .u) :
    Region.wanted o (yielded ops a.tmps) = false := by
  have hv := hT g
  rw [hc] at hv
  simp only [V] at hv
  unfold guardT at hg
  cases ho : ops[j]? with
  | none => rw [ho] at hg; cases hg
  | some oj =>
    rw [ho] at hg
    dsimp only at hg
    have hy : yielded ops a.tmps j = none := by
      simp only [yielded, ho, Option.bind_some, hg]
      cases hgg : a.tmps[g]? with
      | none => rfl
      | some v =>
        have : v = undef := by simpa [hgg] using hv
        subst this; rfl
    simp only [Region.wanted, hgd, hy]
    cases want <;> rfl

theorem St.skip {E : Env} {s : AS} {a : Act} {w : World} (hs : St W0 E s a w) {dst : Option Tmp} (hd : okDst s dst = true) : St W0 E (s.put dst .u) (a.put dst undef) w :=
  ⟨hs.tmps.put hs.nT (.refl E) (by unfold okDst at hd; exact hd) (by simp only [V]), by rw [put_size]; exact hs.nT, by rw [put_defers]; exact hs.defers, hs.mem, hs.fresh⟩

theorem St.know {E : Env} {s : AS} {a : Act} {w : World} (hs : St W0 E s a w) {g : Tmp} {c : Bool} (hc : s.T g = .b c) : St W0 E (s.know g c) a w := by
  refine ⟨fun j => ?_, hs.nT, hs.defers, hs.mem, hs.fresh⟩
  have hv := hs.tmps j
  show V E (upd s.T g (.kb c) j) _
  rw [upd_apply]
  split
  · rename_i hj; subst hj; rw [hc] at hv; simpa only [V] using hv
  · exact hv

theorem seqOps_sound (hen : EngOk en) (hg : GlobOk en.cx W0) {call : FuncId → List SV → AS → (SV → AS → Tree α) → Tree α} (hcall : CallOk en W0 p call) {ops : Array Oper} {k : AS → Tree α} {Q : Exit → Act → World → Prop} :
    ∀ {rest : List Oper} {s : AS} {E : Env} {a : Act} {w : World}, St W0 E s a w → (seqOps en call ops rest s k).Holds p →
    (∀ s' E' a' w', E.Le E' → St W0 E' s' a' w' → (k s').Holds p → Q .normal a' w') → wpList en.cx.P ops Q rest a w := by
  intro rest
  induction rest with
  | nil => intro s E a w hs h hk; exact hk s E a w (.refl E) hs h
  | cons o rest ih =>
    intro s E a w hs h hk
    have go : (exO en call o s fun s => seqOps en call ops rest s k).Holds p → o.wp en.cx.P a w (wpList en.cx.P ops Q rest) Q := fun h =>
      exO_sound hen hg hcall hs h fun s' E' a' w' hle hs' h' => ih hs' h' fun s2 E2 a2 w2 hle2 hs2 h2 => hk s2 E2 a2 w2 (hle.trans hle2) hs2 h2
    have skip : okDst s o.dst = true → (seqOps en call ops rest (s.put o.dst .u) k).Holds p → wpList en.cx.P ops Q rest (a.put o.dst undef) w := fun hd h =>
      ih (hs.skip hd) h hk
    simp only [seqOps] at h
    simp only [wpList]
    split at h
    · rename_i hgd
      have : Region.wanted o (yielded ops a.tmps) = true := by simp [Region.wanted, hgd]
      rw [if_pos this]
      exact .inl (go h)
    · rename_i j want hgd
      cases hd : okDst s o.dst <;> simp only [hd, cond_true, cond_false] at h
      · exact h.elim
      · split at h
        · rename_i g hgt
          split at h
          · rename_i c hc
            have hw := guard_ok hs.tmps hgd hgt (.inl hc)
            rw [hw]
            cases hcw : (c == want) <;> simp only [hcw, cond_true, cond_false] at h
            · exact skip hd h
            · exact .inl (go h)
          · rename_i c hc
            have hw := guard_ok hs.tmps hgd hgt (.inr hc)
            rw [hw]
            have hkn := hs.know hc
            have gon : ∀ s', St W0 E s' a w → (exO en call o s' fun s => seqOps en call ops rest s k).Holds p → o.wp en.cx.P a w (wpList en.cx.P ops Q rest) Q := fun s' hs' h =>
              exO_sound hen hg hcall hs' h fun s' E' a' w' hle hs' h' => ih hs' h' fun s2 E2 a2 w2 hle2 hs2 h2 => hk s2 E2 a2 w2 (hle.trans hle2) hs2 h2
            have skipn : ∀ s', St W0 E s' a w → okDst s' o.dst = true → (seqOps en call ops rest (s'.put o.dst .u) k).Holds p → wpList en.cx.P ops Q rest (a.put o.dst undef) w := fun s' hs' hd h =>
              ih (hs'.skip hd) h hk
            cases want <;> cases c <;> dsimp only at h <;> obtain ⟨h1, h2⟩ := h
            · exact .inl (gon _ hkn (h2 rfl))
            · exact skipn _ hkn hd (h1 rfl)
            · exact skipn _ hkn hd (h2 rfl)
            · exact .inl (gon _ hkn (h1 rfl))
          · rename_i hc
            rw [guard_none hs.tmps hgd hgt hc]
            exact skip hd h
          · exact h.elim
        · exact h.elim

/-! ### Results -/
theorem loadAt_asAddr {P : Program} {w : World} {t : TypeId} {x v : Value} (h : (Instr.loadAt t x).run P w = .ok v w) : (do loadVar t (← asAddr x) : Sem Value).run P w = .ok v w := by
  cases x
  case pointer a =>
    cases a with
    | none => simp [Instr.loadAt, Instr.sureAddr] at h
    | some a => exact h
  all_goals simp [Instr.loadAt, Instr.sureAddr] at h

theorem resultOf_ok (hg : GlobOk en.cx W0) {E : Env} {s : AS} {a : Act} {w : World} (hs : St W0 E s a w) {r : ResultVar} {sv : SV} (h : resultOf en s r = some sv) :
    ∃ v, (match r with | .tmp t => pure (a.tmps.getD t undef) | .cell c t => do loadVar t (← asAddr (a.tmps.getD c undef)) : Sem Value).run en.cx.P w = .ok v w ∧ V E sv v := by
  unfold resultOf at h
  split at h
  · cases h
    exact ⟨_, rfl, hs.tmps _⟩
  · rename_i c t
    split at h <;> try (cases h; done)
    rename_i e he
    cases h
    obtain ⟨v, h1, h2, _⟩ := evLoad_ok hg hs.mem he (hs.tmps c)
    exact ⟨v, loadAt_asAddr h1, h2⟩

theorem resultsOf_ok (hg : GlobOk en.cx W0) {E : Env} {s : AS} {a : Act} {w : World} (hs : St W0 E s a w) : ∀ {rs : List ResultVar} {svs : List SV}, resultsOf en s rs = some svs →
    ∃ vs : List Value, (rs.mapM fun r => (match r with | .tmp t => pure (a.tmps.getD t undef) | .cell c t => do loadVar t (← asAddr (a.tmps.getD c undef)) : Sem Value)).run en.cx.P w = .ok vs w ∧ VL E svs vs
  | [], svs, h => by
    simp only [resultsOf, Option.some.injEq] at h; subst h
    exact ⟨[], rfl, VL.nil.2 rfl⟩
  | r :: rs, svs, h => by
    simp only [resultsOf] at h
    split at h <;> try (cases h; done)
    rename_i sv hv
    split at h <;> try (cases h; done)
    rename_i svs' hvs
    cases h
    obtain ⟨v, h1, h2⟩ := resultOf_ok hg hs hv
    obtain ⟨vs, h3, h4⟩ := resultsOf_ok hg hs hvs
    refine ⟨v :: vs, ?_, VL.cons'.2 ⟨h2, h4⟩⟩
    rw [List.mapM_cons]
    simp only [Sem.run_bind, h1, Result.andThen_ok, h3]
    rfl

theorem resultSV_ok (hg : GlobOk en.cx W0) {E : Env} {s : AS} {a : Act} {w : World} (hs : St W0 E s a w) {fn : Func} {sv : SV} (h : resultSV en s fn = some sv) :
    ∃ v, (results fn a.tmps).run en.cx.P w = .ok v w ∧ V E sv v := by
  unfold resultSV at h
  have run : ∀ (vs : List Value), (fn.results.toList.mapM fun r => (match r with | .tmp t => pure (a.tmps.getD t undef) | .cell c t => do loadVar t (← asAddr (a.tmps.getD c undef)) : Sem Value)).run en.cx.P w = .ok vs w →
      (results fn a.tmps).run en.cx.P w = .ok (if h : vs.toArray.size = 1 then vs.toArray[0] else .tuple vs.toArray) w := by
    intro vs h
    unfold results
    rw [Array.mapM_eq_mapM_toList]
    simp only [Sem.run_bind, Sem.run_map]
    erw [h]
    rfl
  split at h
  · rename_i sv' hr
    cases h
    obtain ⟨vs, h1, h2⟩ := resultsOf_ok hg hs hr
    obtain ⟨v, vs', rfl, h3, h4⟩ := VL.cons.1 h2
    have := VL.nil.1 h4
    subst this
    exact ⟨v, run _ h1, h3⟩
  · rename_i svs hne hr
    cases h
    obtain ⟨vs, h1, h2⟩ := resultsOf_ok hg hs hr
    have hl := h2.length
    have hne1 : ¬ vs.toArray.size = 1 := by
      intro h1
      simp at h1
      rw [h1] at hl
      match svs, hl with
      | [x], _ => exact hne x rfl
    refine ⟨.tuple vs.toArray, ?_, by simp only [V]; exact ⟨vs, rfl, h2⟩⟩
    rw [run _ h1, dif_neg hne1]
  · cases h
end
end Go.Sx
