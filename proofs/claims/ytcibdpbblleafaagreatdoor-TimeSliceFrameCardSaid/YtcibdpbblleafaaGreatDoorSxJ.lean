/-
  A symbolic executor for the bodies of Go functions: every operation that it takes does what the model's does.
  Conditions: none; the lemma about one operation.
-/
import Derived.Test.YtcibdpbblleafaaGreatDoorSxI
namespace Go.Sx
open Go Go.RowKit

/-- A callee's summary holds. -/
def SummOk (cx : Cx) (g : FuncId) (S : Summ) : Prop :=
  (∃ fn c, cx.P.funcs[g]? = some fn ∧ fn.body = some c) ∧
  ∀ (W0 : World) (E : Env) (M : Nat → Option Blk) (R : Nat → Option RowE) (w : World) (xs : List SV) (vs : List Value) (id rid : Nat) (e : Eff),
    GlobOk cx W0 → S xs M R rid = some e → AllT e.needs → VL E xs vs → MemR W0 E M R w → (∀ j, j < rowsEach → E.σ (rid + j) = none) →
    Calls cx.P g vs.toArray w fun
      | .returned v, w' => ∃ F, Did W0 E M R e id rid v w' F
      | _, _ => False

structure EngOk (en : Eng) : Prop where
  eq : EqOk en.cx
  names : ∀ (g : FuncId) (fn : Func), en.cx.P.funcs[g]? = some fn → (fn.name == "runtime.NumGoroutine") = false
  mixed : en.cx.P.follows .mixedOrders = true
  summ : ∀ g S, en.summ g = some S → SummOk en.cx g S

section
variable {P : Program} {o : Oper} {a : Act} {w w' : World} {K : Act → World → Prop} {Q : Exit → Act → World → Prop}

theorem wp_value {v : Value} (h : (execOp a.eval o).run P w = .ok (.value v) w') (hk : K (a.put o.dst v) w') : o.wp P a w K Q := by
  unfold Oper.wp; rw [h]; exact hk
theorem wp_skipped (h : (execOp a.eval o).run P w = .ok .skip w') (hk : K (a.put o.dst undef) w') : o.wp P a w K Q := by
  unfold Oper.wp; rw [h]; exact hk
theorem run_v {S : Sem Value} {v : Value} (h : S.run P w = .ok v w') : (do pure (.value (← S)) : Sem Next).run P w = .ok (.value v) w' := by
  simp only [Sem.run_bind, h]; rfl
theorem run_u {S : Sem Unit} (h : S.run P w = .ok () w') : (do S; pure .skip : Sem Next).run P w = .ok .skip w' := by
  simp only [Sem.run_bind, h]; rfl
end

theorem weak_V {E : Env} {s : SV} {v : Value} (h : V E s v) : V E (weak s) v := by
  cases s <;> simp only [weak] <;> try exact h
  · simp only [V] at h ⊢; obtain ⟨vs, rfl, hv⟩ := h
    refine ⟨vs, rfl, ?_⟩
    rename_i cs
    have aux : ∀ (cs : List SV) (vs : List Value), VL E cs vs → VL E (cs.map fun c => match c with | .n k v => .i k v | .kb b => .b b | c => c) vs := by
      intro cs
      induction cs with
      | nil => intro vs h; exact h
      | cons c cs ih =>
        intro vs h
        obtain ⟨v, vs, rfl, h1, h2⟩ := VL.cons.1 h
        refine VL.cons'.2 ⟨?_, ih vs h2⟩
        cases c <;> exact h1
    exact aux cs vs hv

theorem weakL_V {E : Env} : ∀ {ss : List SV} {vs : List Value}, VL E ss vs → VL E (ss.map weak) vs
  | [], _, h => h
  | _ :: _, _, h => by
    obtain ⟨v, vs, rfl, h1, h2⟩ := VL.cons.1 h
    exact VL.cons'.2 ⟨weak_V h1, weakL_V h2⟩

def TmpsOk (E : Env) (T : Nat → SV) (a : Act) : Prop := ∀ j, V E (T j) (a.tmps.getD j undef)

theorem opnd_V {E : Env} {T : Nat → SV} {a : Act} (h : TmpsOk E T a) (x : Operand) : V E (opnd T x) (a.eval x) := by
  cases x with
  | tmp t => exact h t
  | const v => exact constSV_V E v
  | global g => simp only [opnd, V, Act.eval]
  | func f =>
    simp only [opnd, V, Act.eval]
    exact ⟨[], [], rfl, VL.nil.2 rfl, VL.nil.2 rfl⟩

theorem opnds_V {E : Env} {T : Nat → SV} {a : Act} (h : TmpsOk E T a) (xs : Array Operand) : VL E (xs.toList.map (opnd T)) (xs.map a.eval).toList := by
  rw [Array.toList_map]
  exact VL.ofMap _ _ _ fun x _ => opnd_V h x

theorem optSV_V {E : Env} {T : Nat → SV} {a : Act} (h : TmpsOk E T a) (x : Option Operand) : OptV E (optSV T x) (x.map a.eval) := by
  cases x with
  | none => rfl
  | some x => exact ⟨_, rfl, opnd_V h x⟩

section
variable {en : Eng} {W0 : World} {E : Env} {s : AS} {a : Act} {w : World} {K : Act → World → Prop} {Q : Exit → Act → World → Prop}

theorem run_call_enter (hen : EngOk en) {g : FuncId} {fn : Func} {c : Code} (hf : en.cx.P.funcs[g]? = some fn) (hb : fn.body = some c) (args : Array Value) :
    (callFunc g args).run en.cx.P w = .ok (.enter g args) w := by
  have hn := hen.names g fn hf
  simp only [beq_eq_false_iff_ne, ne_eq] at hn
  simp [callFunc, hf, hn, hb]

theorem run_call (hen : EngOk en) {g : FuncId} {fn : Func} {c : Code} (hf : en.cx.P.funcs[g]? = some fn) (hb : fn.body = some c) {sf : SV} {fv : Value} (hv : V E sf fv) {sargs xs : List SV} (ht : target sf sargs = some (g, xs)) {args : Array Value} (ha : VL E sargs args.toList) :
    ∃ vs : List Value, VL E xs vs ∧ (do let d ← Deferred.ofValue fv args; invoke d.target d.args : Sem Next).run en.cx.P w = .ok (.enter g vs.toArray) w := by
  unfold target at ht
  split at ht <;> try (cases ht; done)
  cases ht
  simp only [V] at hv
  obtain ⟨fs, cs, rfl, h1, h2⟩ := hv
  refine ⟨fs ++ args.toList ++ cs, VL.append (VL.append h1 ha) h2, ?_⟩
  have : (fs ++ args.toList ++ cs).toArray = fs.toArray ++ args ++ cs.toArray := by simp
  rw [this]
  simp only [Deferred.ofValue, Sem.run_bind, Sem.run_pure, Result.andThen_ok, invoke]
  exact run_call_enter hen hf hb _

theorem evFieldV_ok {cx : Cx} {t : TypeId} {sv : SV} {fd : Nat} {e : Eff} (h : evFieldV cx t sv fd = some e) {x : Value} (hx : V E sv x) :
    ∃ v, (Instr.field t x fd).run cx.P w = .ok v w ∧ V E e.v v ∧ e.Quiet ∧ e.needs = [] := by
  unfold evFieldV at h
  split at h <;> try (cases h; done)
  rename_i o ft hf
  unfold fieldT at hf
  split at hf <;> try (cases hf; done)
  rename_i fields hu
  split at hf <;> try (cases hf; done)
  rename_i q hq
  simp only [Option.some.injEq, Prod.mk.injEq] at hf
  obtain ⟨rfl, rfl⟩ := hf
  split at h <;> try (cases h; done)
  · rename_i n cs ha hn
    split at h <;> try (cases h; done)
    rename_i l hl
    rw [forceL_eq] at h
    cases h
    simp only [V] at hx
    obtain ⟨vs, rfl, hvs⟩ := hx
    obtain ⟨us, q1, q2, q3⟩ := hvs.slice hl
    have hext : List.take n (List.drop q.offset vs) = us := by
      apply List.ext_getElem?
      intro i
      simp only [List.getElem?_take, List.getElem?_drop]
      by_cases hi : i < n
      · rw [if_pos (by omega)]
        have hu' : us[i]? = some us[i] := List.getElem?_eq_getElem (by omega)
        rw [hu', q3 i _ hu']
      · rw [if_neg (by omega)]
        rw [List.getElem?_eq_none (by omega)]
    refine ⟨.agg us.toArray, ?_, by simp only [Eff.pure, V]; exact ⟨us, rfl, q2⟩, ⟨rfl, rfl, rfl, rfl⟩, rfl⟩
    simp [Instr.field, run_underlying' hu, hq, asAgg, part, run_isAgg' ha, run_sizeOf' hn, hext]
  · rename_i n cs ha hn
    split at h <;> try (cases h; done)
    rename_i v hv
    cases h
    simp only [V] at hx
    obtain ⟨vs, rfl, hvs⟩ := hx
    obtain ⟨u, q1, q2⟩ := hvs.get hv
    refine ⟨u, ?_, q2, ⟨rfl, rfl, rfl, rfl⟩, rfl⟩
    simp [Instr.field, run_underlying' hu, hq, asAgg, part, run_isAgg' ha, q1]

theorem evOp_sound (hen : EngOk en) (hg : GlobOk en.cx W0) {o : Oper} {e : Eff} {id rid : Nat} (h : evOp en.cx en.summ s id rid o.op = some e) (hnd : AllT e.needs) (hT : TmpsOk E s.T a) (hm : MemR W0 E s.M s.R w)
    (hfi : E.ρ id = none) (hfr : ∀ j, j < rowsEach → E.σ (rid + j) = none) (hK : ∀ v w' F, Did W0 E s.M s.R e id rid v w' F → K (a.put o.dst v) w') : o.wp en.cx.P a w K Q := by
  have hfr0 : E.σ rid = none := hfr 0 (by decide)
  have quiet : ∀ {S : Sem Value}, execOp a.eval o = (do pure (.value (← S))) → (∃ v, S.run en.cx.P w = .ok v w ∧ V E e.v v ∧ e.Quiet) → o.wp en.cx.P a w K Q := by
    rintro S he ⟨v, h1, h2, h3, h4, h5, h6⟩
    exact wp_value (by rw [he]; exact run_v h1) (hK v w E (Did.same hm h3 h4 h5 h6 h2))
  have quiet' : ∀ {S : Sem Value}, execOp a.eval o = (do pure (.value (← S))) → (∃ v, S.run en.cx.P w = .ok v w ∧ V E e.v v ∧ e.Quiet ∧ e.needs = []) → o.wp en.cx.P a w K Q := by
    rintro S he ⟨v, h1, h2, h3, _⟩
    exact quiet he ⟨v, h1, h2, h3⟩
  have does : ∀ {S : Sem Value}, execOp a.eval o = (do pure (.value (← S))) → (∃ v w' F, S.run en.cx.P w = .ok v w' ∧ Did W0 E s.M s.R e id rid v w' F) → o.wp en.cx.P a w K Q := by
    rintro S he ⟨v, w', F, h1, h2⟩
    exact wp_value (by rw [he]; exact run_v h1) (hK v w' F h2)
  obtain ⟨dst, op, type, pos, after, guard⟩ := o
  dsimp only at h
  unfold evOp at h
  dsimp only at h
  split at h
  · -- move
    cases h
    exact wp_value (v := a.eval _) rfl (hK _ w E (Did.same hm rfl rfl rfl rfl (opnd_V hT _)))
  · cases h
    exact wp_value (v := a.eval _) rfl (hK _ w E (Did.same hm rfl rfl rfl rfl (opnd_V hT _)))
  · -- pick
    rename_i c x y
    obtain ⟨v, h1, h2, h3⟩ := evPick_ok (cx := en.cx) (w := w) h hnd (opnd_V hT c) (opnd_V hT x) (opnd_V hT y)
    refine wp_value (v := v) ?_ (hK v w E (Did.same hm h3.1 h3.2.1 h3.2.2.1 h3.2.2.2 h2))
    have : execOp a.eval ⟨dst, .pick c x y, type, pos, after, guard⟩ = (do pure (.value (if ← asBool (a.eval c) then a.eval x else a.eval y))) := rfl
    rw [this]
    simp only [Sem.run_bind] at h1 ⊢
    cases hr : (asBool (a.eval c)).run en.cx.P w with
    | ok b w1 =>
      rw [hr] at h1
      simp only [Result.andThen_ok, Sem.run_pure] at h1 ⊢
      cases h1; rfl
    | halt hh w1 => rw [hr] at h1; cases h1
  · -- alloc
    split at h <;> try (cases h; done)
    rename_i cs hz
    rw [forceL_eq] at h
    cases h
    obtain ⟨v, w', h1, h2⟩ := alloc_ok hm hz id rid hfi
    exact does rfl ⟨v, w', _, h1, h2⟩
  · -- box
    rename_i x
    split at h <;> try (cases h; done)
    rename_i cs hz
    cases h
    obtain ⟨v, w', h1, h2⟩ := box_ok (cx := en.cx) hm hz (opnd_V hT x) id rid hfi
    exact does rfl ⟨v, w', _, h1, h2⟩
  · -- build
    rename_i t parts
    split at h <;> try (cases h; done)
    rename_i z place hz hp
    split at h <;> try (cases h; done)
    rename_i cs hcs
    rw [forceL_eq] at h
    cases h
    have hpv : PartsV E (parts.toList.map fun q => (q.1, opnd s.T q.2)) (parts.map fun q => (q.1, a.eval q.2)).toList := by
      rw [Array.toList_map]
      exact PartsV.ofMap _ _ _ fun q _ => opnd_V hT q.2
    obtain ⟨us, h1, h2⟩ := build_ok (w := w) hz hp hcs hpv
    exact quiet rfl ⟨_, h1, by simp only [Eff.pure, V]; exact ⟨us, rfl, h2⟩, ⟨rfl, rfl, rfl, rfl⟩⟩
  · -- buildSlice
    rename_i t len parts
    split at h <;> try (cases h; done)
    rename_i elem hu
    split at h <;> try (cases h; done)
    rename_i n z hn hz
    have hc := cond_none h
    clear h
    obtain ⟨hc, h⟩ := hc
    simp only [Bool.and_eq_true, decide_eq_true_eq] at hc
    split at h <;> try (cases h; done)
    rename_i cs hcs
    rw [forceL_eq] at h
    cases h
    have hpv : PartsV E (parts.toList.map fun q => (q.1, opnd s.T q.2)) (parts.map fun q => (q.1, a.eval q.2)).toList := by
      rw [Array.toList_map]
      exact PartsV.ofMap _ _ _ fun q _ => opnd_V hT q.2
    obtain ⟨v, w', h1, h2⟩ := buildSlice_ok hm hu hn hz hc.1.1 (Nat.eq_of_beq_eq_true hc.1.2) (Nat.le_of_ble_eq_true hc.2) hcs hpv id rid hfi
    exact does rfl ⟨v, w', _, h1, h2⟩
  · -- load
    exact quiet' rfl (evLoad_ok hg hm h (opnd_V hT _))
  · -- store
    obtain ⟨w', h1, h2, _⟩ := evStore_ok hm h (opnd_V hT _) (opnd_V hT _) id rid
    exact wp_skipped (run_u h1) (hK undef w' E h2)
  · -- nilCheck
    rename_i x
    split at h <;> try (cases h; done)
    rename_i id' off hx
    cases h
    have hv := opnd_V hT x
    rw [hx] at hv
    have hv' := hv
    simp only [V] at hv
    obtain ⟨b, hb, hv⟩ := hv
    rw [hv] at hv'
    refine wp_value (v := .pointer (some ⟨b, off, none⟩)) ?_ (hK _ w E (Did.same hm rfl rfl rfl rfl hv'))
    simp only [execOp, hv]; rfl
  · -- binOp
    obtain ⟨v, h1, h2, h3⟩ := evBinR_ok (w := w) hen.eq hm h hnd (opnd_V hT _) (opnd_V hT _) _ _
    exact quiet rfl ⟨v, h1, h2, h3⟩
  · exact quiet' rfl (evUn_ok h (opnd_V hT _))
  · exact quiet' rfl (evConv_ok h (opnd_V hT _))
  · -- makeFunc
    rename_i f first caps
    cases h
    refine quiet (S := Instr.makeFunc (.func f) (first.map a.eval) (caps.map a.eval)) rfl ⟨_, rfl, ?_, ⟨rfl, rfl, rfl, rfl⟩⟩
    simp only [Eff.pure, V]
    exact ⟨(first.map a.eval).toList, (caps.map a.eval).toList, by rw [Array.toArray_toList, Array.toArray_toList], opnds_V hT first, opnds_V hT caps⟩
  · -- makeMap
    split at h <;> try (cases h; done)
    cases h
    obtain ⟨v, w', h1, h2⟩ := makeMap_ok (cx := en.cx) (t := by assumption) hm id rid hfi
    exact does rfl ⟨v, w', _, h1, h2⟩
  · -- makeSlice
    rename_i t l c
    split at h <;> try (cases h; done)
    rename_i elem hu
    split at h <;> try (cases h; done)
    rename_i x y z hl hcc hz
    have hc := cond_none h
    clear h
    obtain ⟨hc, h⟩ := hc
    simp only [Bool.and_eq_true, decide_eq_true_eq] at hc
    obtain ⟨hc1, ⟨h0, h1⟩, hxy⟩ := hc
    subst hxy
    cases h
    have hvl := opnd_V hT l
    have hvc := opnd_V hT c
    rw [hl] at hvl
    rw [hcc] at hvc
    simp only [V] at hvl hvc
    obtain ⟨v, w', h1, h2⟩ := makeSlice_ok (cx := en.cx) hm hu hz hc1 h0 h1 .i64 .i64 id rid hfr0
    refine does (S := Instr.makeSlice t (a.eval l) (a.eval c)) rfl ⟨v, w', _, ?_, h2⟩
    rw [hvl.1, hvc.1]; exact h1
  · -- insert
    rename_i t m k v
    split at h <;> try (cases h; done)
    rename_i q kk kt et hmq hk hu
    split at h <;> try (cases h; done)
    rename_i es hM hkt
    cases hanyq : ((es.any fun e => e.1 == kk) || Nat.blt q foreign) with
    | true => rw [hanyq] at h; cases h
    | false =>
      rw [hanyq] at h
      cases h
      simp only [Bool.or_eq_false_iff] at hanyq
      have hany := hanyq.1
      have hfor : foreign ≤ q := by
        have := hanyq.2
        unfold Nat.blt at this
        rcases Nat.lt_or_ge q foreign with hlt | hge
        · rw [Nat.ble_eq_true_of_le hlt] at this; cases this
        · exact hge
      have hvm := opnd_V hT m
      have hvk := opnd_V hT k
      rw [hmq] at hvm
      rw [hk] at hvk
      simp only [V] at hvm hvk
      obtain ⟨b, hb, hvm⟩ := hvm
      obtain ⟨w', h1, h2⟩ := insert_ok (cx := en.cx) hm hu hkt hM hany hb hfor (opnd_V hT v) id rid
      refine wp_skipped ?_ (hK undef w' E h2)
      refine run_u (S := Instr.mapUpdate t (a.eval m) (a.eval k) (a.eval v)) ?_
      rw [hvm, hvk.1]; exact h1
  · -- slice
    rename_i t x lo hi mx
    split at h <;> try (cases h; done)
    rename_i e' he
    cases h
    obtain ⟨v, F, h1, h2⟩ := evSlice_ok hm he hnd (opnd_V hT x) (optSV_V hT lo) (optSV_V hT hi) (optSV_V hT mx) id rid hfr0
    exact does rfl ⟨v, w, F, h1, h2⟩
  · exact quiet' rfl (evField_ok h (opnd_V hT _))
  · exact quiet' rfl (evFieldV_ok h (opnd_V hT _))
  · obtain ⟨v, h1, h2, h3⟩ := evIndexAddr_ok hm h hnd (opnd_V hT _) (opnd_V hT _)
    exact quiet rfl ⟨v, h1, h2, h3⟩
  · obtain ⟨v, h1, h2, h3⟩ := evIndex_ok (w := w) h hnd (opnd_V hT _) (opnd_V hT _)
    exact quiet rfl ⟨v, h1, h2, h3⟩
  · -- extract
    rename_i x q
    split at h <;> try (cases h; done)
    rename_i vs hx
    split at h <;> try (cases h; done)
    rename_i sv hsv
    cases h
    have hv := opnd_V hT x
    rw [hx] at hv
    obtain ⟨v, h1, h2⟩ := extract_ok (cx := en.cx) (w := w) hsv hv
    exact quiet rfl ⟨v, h1, h2, ⟨rfl, rfl, rfl, rfl⟩⟩
  · -- built-ins
    rename_i bt args ats
    split at h <;> try (cases h; done)
    rename_i e' he
    cases h
    obtain ⟨v, w', F, h1, h2⟩ := evBuiltin_ok hm he hnd (opnds_V hT args) type (args.map fun | .const _ => true | _ => false) id rid hfr0
    refine wp_value (v := v) (w' := w') ?_ (hK v w' F h2)
    rw [Array.toArray_toList, Array.toArray_toList] at h1
    exact h1
  · -- a call by its summary
    rename_i f args ats
    split at h <;> try (cases h; done)
    rename_i g xs ht
    split at h <;> try (cases h; done)
    rename_i S hS
    obtain ⟨⟨fn, c, hf, hb⟩, hsum⟩ := hen.summ g S hS
    obtain ⟨vs, h1, h2⟩ := run_call (w := w) hen hf hb (opnd_V hT f) ht (args := args.map a.eval) (opnds_V hT args)
    have hrun : (execOp a.eval ⟨dst, .call ⟨.value f, args, ats⟩, type, pos, after, guard⟩).run en.cx.P w = .ok (.enter g vs.toArray) w := h2
    unfold Oper.wp
    rw [hrun]
    refine Calls.mono (hsum W0 E s.M s.R w _ vs id rid e hg h hnd (weakL_V h1) hm hfr) ?_
    intro en' w' hh
    cases en' with
    | returned v => obtain ⟨F, hd⟩ := hh; exact hK v w' F hd
    | panicked => exact hh.elim
    | outgrown => exact hh.elim
  · cases h
end
end Go.Sx
