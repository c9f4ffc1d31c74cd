/-
  A symbolic executor for the bodies of Go functions: the whole.
  Conditions: none; what the tree of a body says holds of every run of the body.
-/
import Derived.Test.YtcibdpbblleafaaGreatDoorSxN
namespace Go.Sx
open Go Go.RowKit

section
variable {en : Eng} {W0 : World} {α : Type} {p : α → Prop}

theorem entry_tmps {E : Env} {xs : List SV} {vs : List Value} (h : VL E xs vs) {n : Nat} : TmpsOk E (entryT xs) { tmps := vs.toArray ++ Array.replicate (n - vs.toArray.size) undef, defers := [] } := by
  intro j
  unfold entryT
  have hl := h.length
  cases hx : xs[j]? with
  | some sv =>
    obtain ⟨v, h1, h2⟩ := h.get hx
    have hj : j < vs.length := (List.getElem?_eq_some_iff.1 h1).1
    have hv : vs[j] = v := (List.getElem?_eq_some_iff.1 h1).2
    dsimp only
    have : (vs.toArray ++ Array.replicate (n - vs.toArray.size) undef).getD j undef = v := by
      simp [Array.getElem?_append, hj, hv]
    rw [this]; exact h2
  | none =>
    have hj : xs.length ≤ j := List.getElem?_eq_none_iff.1 hx
    dsimp only
    have : (vs.toArray ++ Array.replicate (n - vs.toArray.size) undef).getD j undef = undef := by
      have hn : ¬ j < vs.length := by omega
      simp only [Array.getD_eq_getD_getElem?, Array.getElem?_append, List.size_toArray, hn, if_false, Array.getElem?_replicate]
      split <;> rfl
    rw [this]; simp only [V]

/-- A body entered, given that the engine is right about its code. -/
theorem body_calls {f : Nat} (_hen : EngOk en) (hg : GlobOk en.cx W0)
    (ih : ∀ (c : Code) (s : AS) (k : Ex → AS → Tree α) (E : Env) (a : Act) (w : World) (Q : Exit → Act → World → Prop), St W0 E s a w → (sx en f c s k).Holds p →
      (∀ e s' E' a' w', E.Le E' → St W0 E' s' a' w' → (k e s').Holds p → Q (exitOf e) a' w') → c.wp en.cx.P Q a w)
    {g : FuncId} {fn : Func} {c : Code} (hf : en.cx.P.funcs[g]? = some fn) (hb : fn.body = some c) {xs : List SV} {s : AS} {k : SV → AS → Tree α} {E : Env} {w : World} {vs : List Value} {R : Value → World → Prop} (hlen : xs.length ≤ fn.ntmps)
    (h : (sx en f c { s with T := entryT xs, nT := fn.ntmps } fun e s' => (match e with
        | .exit _ => .fail
        | _ => (match resultSV en s' fn with | some v => k v { s' with T := s.T, nT := s.nT } | none => .fail))).Holds p)
    (hvs : VL E xs vs) (hm : MemR W0 E s.M s.R w) (hfr : Fresh E s.nM s.nR)
    (hR : ∀ x v s' E' w', E.Le E' → V E' x v → s'.T = s.T → s'.nT = s.nT → MemR W0 E' s'.M s'.R w' → Fresh E' s'.nM s'.nR → (k x s').Holds p → R v w') :
    Calls en.cx.P g vs.toArray w fun | .returned v, w' => R v w' | _, _ => False := by
  have hl := hvs.length
  refine calls_of_wp hf hb (ih c { s with T := entryT xs, nT := fn.ntmps } _ E _ w _ ⟨entry_tmps hvs, ?_, rfl, hm, hfr⟩ h ?_)
  · show (vs.toArray ++ Array.replicate (fn.ntmps - vs.toArray.size) undef).size = fn.ntmps
    simp; omega
  · intro e s' E' a' w' hle hs' hk
    have fin : (match resultSV en s' fn with | some v => k v { s' with T := s.T, nT := s.nT } | none => .fail : Tree α).Holds p → a'.defers = [] ∧ ∃ v, (results fn a'.tmps).run en.cx.P w' = .ok v w' ∧ R v w' := by
      intro h
      split at h
      · rename_i sv hsv
        obtain ⟨v, h1, h2⟩ := resultSV_ok hg hs' hsv
        exact ⟨hs'.defers, v, h1, hR sv v { s' with T := s.T, nT := s.nT } E' w' hle h2 rfl rfl hs'.mem hs'.fresh h⟩
      · exact h.elim
    cases e with
    | normal => exact fin hk
    | ret => exact fin hk
    | exit id => exact hk.elim

theorem sx_sound (hen : EngOk en) (hl : ∀ g S, en.summ g = some S → SummLoc S) (hg : GlobOk en.cx W0) : ∀ (f : Nat) (c : Code) (s : AS) (k : Ex → AS → Tree α) (E : Env) (a : Act) (w : World) (Q : Exit → Act → World → Prop), St W0 E s a w → (sx en f c s k).Holds p →
      (∀ e s' E' a' w', E.Le E' → St W0 E' s' a' w' → (k e s').Holds p → Q (exitOf e) a' w') → c.wp en.cx.P Q a w := by
  intro f
  induction f with
  | zero => intro c s k E a w Q hs h; exact h.elim
  | succ f ih =>
    intro c s k E a w Q hs h hQ
    cases c with
    | skip => exact wp_skip (hQ .normal s E a w (.refl E) hs h)
    | label l => exact wp_label (hQ .normal s E a w (.refl E) hs h)
    | ret => exact wp_ret (hQ .ret s E a w (.refl E) hs h)
    | exit id => exact wp_exit (hQ (.exit id) s E a w (.refl E) hs h)
    | seq x y =>
      refine wp_seq (ih x s _ E a w _ hs h fun e s' E' a' w' hle hs' hk => ?_)
      cases e with
      | normal => exact ih y s' k E' a' w' Q hs' hk fun e2 s2 E2 a2 w2 hle2 hs2 hk2 => hQ e2 s2 E2 a2 w2 (hle.trans hle2) hs2 hk2
      | exit id => exact hQ (.exit id) s' E' a' w' hle hs' hk
      | ret => exact hQ .ret s' E' a' w' hle hs' hk
    | cond q x y =>
      simp only [sx] at h
      have hv := opnd_V hs.tmps q
      split at h
      · rename_i hq
        rw [hq] at hv; simp only [V] at hv
        exact wp_cond_true hv (ih x s k E a w Q hs h hQ)
      · rename_i hq
        rw [hq] at hv; simp only [V] at hv
        exact wp_cond_false hv (ih y s k E a w Q hs h hQ)
      · rename_i b hq
        rw [hq] at hv; simp only [V] at hv
        exact wp_cond_split hv (fun hb => ih x s k E a w Q hs (h.1 hb) hQ) (fun hb => ih y s k E a w Q hs (h.2 hb) hQ)
      · exact h.elim
    | block id b =>
      refine wp_block (ih b s _ E a w _ hs h fun e s' E' a' w' hle hs' hk => ?_)
      cases e with
      | normal => exact hQ .normal s' E' a' w' hle hs' hk
      | ret => exact hQ .ret s' E' a' w' hle hs' hk
      | exit j =>
        simp only [exitOf, Exit.inBlock]
        dsimp only at hk
        cases hj : Nat.beq j id <;> simp only [hj, cond_true, cond_false] at hk
        · rw [if_neg (fun e => by subst e; rw [Nat.beq_refl] at hj; cases hj)]
          exact hQ (.exit j) s' E' a' w' hle hs' hk
        · rw [if_pos (Nat.eq_of_beq_eq_true hj)]
          exact hQ .normal s' E' a' w' hle hs' hk
    | loop b =>
      have key : ∀ (n : Nat) (s : AS) (E1 : Env) (a : Act) (w : World), E.Le E1 → St W0 E1 s a w → (rounds (sx en f b) n s k).Holds p → Code.rounds en.cx.P b Q n a w := by
        intro n
        induction n with
        | zero => intro s E1 a w _ _ h; exact h.elim
        | succ n ihn =>
          intro s E1 a w hle1 hs h
          rw [rounds_succ]
          refine ih b s _ E1 a w _ hs h fun e s' E' a' w' hle hs' hk => ?_
          cases e with
          | normal => exact ihn s' E' a' w' (hle1.trans hle) hs' hk
          | exit id => exact hQ (.exit id) s' E' a' w' (hle1.trans hle) hs' hk
          | ret => exact hQ .ret s' E' a' w' (hle1.trans hle) hs' hk
      exact wp_loop_rounds f (key f s E a w (.refl E) hs h)
    | region id ops draw =>
      cases draw with
      | false =>
        refine wp_region_list (seqOps_sound hen hg ?_ hs h fun s' E' a' w' hle hs' hk => hQ .normal s' E' a' w' hle hs' hk)
        intro g xs s1 k1 E1 w1 vs R h1 hvs hm hfr hR
        dsimp only at h1
        split at h1
        · rename_i fn hf
          split at h1
          · rename_i c hb
            cases hc : decide (xs.length ≤ fn.ntmps) <;> simp only [hc, cond_true, cond_false] at h1
            · exact h1.elim
            · exact ⟨⟨fn, c, hf, hb⟩, body_calls hen hg ih hf hb (by simpa using hc) h1 hvs hm hfr hR⟩
          · exact h1.elim
        · exact h1.elim
      | true => exact region_draw_sound hen hl hg hs h fun s' E' a' w' hle hs' hk => hQ .normal s' E' a' w' hle hs' hk
    | rangeFunc => exact h.elim
    | scope => exact h.elim
    | goto => exact h.elim
    | refuse => exact h.elim

/-- A whole function, by its tree. -/
theorem runFn_sound (hen : EngOk en) (hl : ∀ g S, en.summ g = some S → SummLoc S) (hg : GlobOk en.cx W0) {fuel : Nat} {g : FuncId} {xs : List SV} {s : AS} {obs : SV → AS → α} (h : (runFn en fuel g xs s obs).Holds p)
    {E : Env} {w : World} {vs : List Value} (hvs : VL E xs vs) (hm : MemR W0 E s.M s.R w) (hfr : Fresh E s.nM s.nR) :
    Calls en.cx.P g vs.toArray w fun
      | .returned v, w' => ∃ sv s' E', E.Le E' ∧ V E' sv v ∧ MemR W0 E' s'.M s'.R w' ∧ p (obs sv s')
      | _, _ => False := by
  unfold runFn at h
  split at h
  · rename_i fn hf
    split at h
    · rename_i c hb
      cases hc : decide (xs.length ≤ fn.ntmps) <;> simp only [hc, cond_true, cond_false] at h
      · exact h.elim
      · refine calls_of_wp hf hb (sx_sound hen hl hg fuel c { s with T := entryT xs, nT := fn.ntmps } _ E _ w _ ⟨entry_tmps hvs, ?_, rfl, hm, hfr⟩ h ?_)
        · have hl := hvs.length
          have hc := of_decide_eq_true hc
          show (vs.toArray ++ Array.replicate (fn.ntmps - vs.toArray.size) undef).size = fn.ntmps
          simp; omega
        · intro e s' E' a' w' hle hs' hk
          have fin : (match resultSV en s' fn with | some v => .leaf (obs v s') | none => .fail : Tree α).Holds p → a'.defers = [] ∧ ∃ v, (results fn a'.tmps).run en.cx.P w' = .ok v w' ∧ ∃ sv s' E', E.Le E' ∧ V E' sv v ∧ MemR W0 E' s'.M s'.R w' ∧ p (obs sv s') := by
            intro h
            split at h
            · rename_i sv hsv
              obtain ⟨v, h1, h2⟩ := resultSV_ok hg hs' hsv
              exact ⟨hs'.defers, v, h1, sv, s', E', hle, h2, hs'.mem, h⟩
            · exact h.elim
          cases e with
          | normal => exact fin hk
          | ret => exact fin hk
          | exit id => exact hk.elim
    · exact h.elim
  · exact h.elim
end
end Go.Sx
