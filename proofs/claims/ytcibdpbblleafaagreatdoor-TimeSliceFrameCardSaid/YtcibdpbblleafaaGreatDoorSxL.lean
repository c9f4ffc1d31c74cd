/-
  A symbolic executor for the bodies of Go functions: what an operation reads, and when two of them may change places.
  Conditions: none; lemmas about symbolic effects.
-/
import Derived.Test.YtcibdpbblleafaaGreatDoorSxK
namespace Go.Sx
open Go Go.RowKit

/-- Two states that agree on what was read. -/
structure Agree (e : Eff) (s s' : AS) : Prop where
  M : ∀ q ∈ e.rd, s'.M q = s.M q
  R : ∀ r ∈ e.rdR, s'.R r = s.R r

theorem Agree.of {e e' : Eff} {s s' : AS} (h : Agree e s s') (h1 : e'.rd = e.rd) (h2 : e'.rdR = e.rdR) : Agree e' s s' := ⟨by rw [h1]; exact h.M, by rw [h2]; exact h.R⟩

section
variable {cx : Cx} {s s' : AS}

theorem evLoad_loc {t : TypeId} {addr : SV} {e : Eff} (h : evLoad cx s t addr = some e) (ha : Agree e s s') : evLoad cx s' t addr = some e := by
  have out : ∀ {agg : Bool} {l : List SV} {rd rdR : List Nat}, loadOut agg l rd rdR = some e → e.rd = rd ∧ e.rdR = rdR := by
    intro agg l rd rdR h
    cases agg with
    | true => cases h; exact ⟨rfl, rfl⟩
    | false =>
      simp only [loadOut] at h
      split at h <;> try (cases h; done)
      cases h; exact ⟨rfl, rfl⟩
  have h0 := h
  simp only [evLoad] at h ⊢
  split at h <;> try (cases h; done)
  rename_i agg n h1 h2
  split at h <;> try (cases h; done)
  · rename_i id off
    split at h <;> try (cases h; done)
    rename_i ty cs hM
    have h3 := h
    split at h <;> try (cases h; done)
    rename_i l hl
    rw [forceL_eq] at h
    have := (out h).1
    rw [ha.M id (by rw [this]; simp), hM]
    exact h3
  · rename_i id off stride cnt ix
    split at h <;> try (cases h; done)
    rename_i ty cs hM
    have h3 := h
    split at h <;> try (cases h; done)
    rename_i l hl
    rw [forceL_eq] at h
    have := (out h).1
    rw [ha.M id (by rw [this]; simp), hM]
    exact h3
  · exact h
  · exact h
  · rename_i r st off ix
    split at h <;> try (cases h; done)
    rename_i x hR
    have h3 := h
    have hr : e.rdR = [r] := by
      split at h <;> first | (cases h; done) | (cases h; rfl)
    rw [ha.R r (by rw [hr]; simp), hR]
    exact h3

theorem evStore_loc {t : TypeId} {addr val : SV} {e : Eff} (h : evStore cx s t addr val = some e) (ha : Agree e s s') : evStore cx s' t addr val = some e := by
  simp only [evStore] at h ⊢
  split at h <;> try (cases h; done)
  rename_i n ws h2 hws
  have hc := cond_none h
  clear h
  obtain ⟨hc, h⟩ := hc
  rw [hc]
  simp only [cond_true]
  split at h <;> try (cases h; done)
  · rename_i id' off
    rw [(cond_none h).1]
    simp only [cond_true]
    replace h := (cond_none h).2
    split at h <;> try (cases h; done)
    rename_i ty cs hM
    have h3 := h
    split at h <;> try (cases h; done)
    rename_i l hl
    rw [forceL_eq] at h
    have hr : e.rd = [id'] := by cases h; rfl
    rw [ha.M id' (by rw [hr]; simp), hM]
    exact h3
  · rename_i id' off stride cnt ix
    rw [(cond_none h).1]
    simp only [cond_true]
    replace h := (cond_none h).2
    split at h <;> try (cases h; done)
    rename_i ty cs hM
    have h3 := h
    have hr : e.rd = [id'] := by
      split at h <;> try (cases h; done)
      all_goals
        split at h <;> try (cases h; done)
        rw [forceL_eq] at h
        cases h; rfl
    rw [ha.M id' (by rw [hr]; simp), hM]
    exact h3
  · rename_i r ix
    split at h <;> try (cases h; done)
    rename_i l hR
    have h3 := h
    have hr : e.rdR = [r] := by
      split at h <;> first | (cases h; done) | (cases h; rfl)
    rw [ha.R r (by rw [hr]; simp), hR]
    exact h3

theorem evIndexAddr_loc {t : TypeId} {base ix : SV} {e : Eff} (h : evIndexAddr cx s t base ix = some e) (ha : Agree e s s') : evIndexAddr cx s' t base ix = some e := by
  unfold evIndexAddr at h ⊢
  split at h <;> try (cases h; done)
  · exact h
  · split at h <;> try (cases h; done)
    split at h <;> try (cases h; done)
    · exact h
    all_goals
      split at h <;> try (cases h; done)
      rename_i r _ _ _ x hR
      have h3 := h
      have hc := cond_none h
      have hr : e.rdR = [r] := by have := hc.2; cases this; rfl
      dsimp only
      rw [ha.R r (by rw [hr]; simp), hR]
      exact h3

theorem evCut_loc {r : Nat} {hv : Int} {e : Eff} (h : evCut s r hv = some e) (ha : Agree e s s') : evCut s' r hv = some e := by
  unfold evCut at h ⊢
  split at h <;> try (cases h; done)
  all_goals
    rename_i l o hR
    have hr : e.rdR = [r] := by cases h; rfl
    rw [ha.R r (by rw [hr]; simp), hR]
    exact h

theorem evSlice_loc {t : TypeId} {x : SV} {lo hi mx : Option SV} {e : Eff} (h : evSlice cx s t x lo hi mx = some e) (ha : Agree e s s') : evSlice cx s' t x lo hi mx = some e := by
  unfold evSlice at h ⊢
  split at h <;> try (cases h; done)
  split at h <;> try (cases h; done)
  split at h <;> try (cases h; done)
  · exact h
  · exact evCut_loc h ha
  · exact evCut_loc h ha
  · rename_i r _ _ _ _
    split at h <;> try (cases h; done)
    rename_i c hR
    have hr : e.rdR = [r] := by cases h; rfl
    dsimp only
    rw [ha.R r (by rw [hr]; simp), hR]
    exact h

theorem evBuiltin_loc {bt : Builtin} {ats : List TypeId} {sargs : List SV} {e : Eff} (h : evBuiltin cx s bt ats sargs = some e) (ha : Agree e s s') : evBuiltin cx s' bt ats sargs = some e := by
  unfold evBuiltin at h ⊢
  split at h <;> try (cases h; done)
  · split at h <;> try (cases h; done)
    split at h <;> try (cases h; done)
    · exact h
    · exact h
    · rename_i r
      split at h <;> try (cases h; done)
      rename_i xr hR
      have hr : e.rdR = [r] := by cases h; rfl
      dsimp only
      rw [ha.R r (by rw [hr]; simp), hR]
      exact h
  · exact h
  · exact h
  · rename_i st xt r id'
    split at h <;> try (cases h; done)
    all_goals
      rename_i hu hu2 hR hM
      have h3 := h
      have hc := cond_none h
      clear h
      obtain ⟨hc, h⟩ := hc
      split at h <;> try (cases h; done)
      have hr : e.rdR = [r] := by cases h; rfl
      have hm : e.rd = [id'] := by cases h; rfl
      dsimp only
      rw [ha.R r (by rw [hr]; simp), hR, ha.M id' (by rw [hm]; simp), hM, hu, hu2]
      exact h3
  · rename_i st xt id' r
    split at h <;> try (cases h; done)
    rename_i hu hu2 hR
    have h3 := h
    have hc := cond_none h
    clear h
    obtain ⟨hc, h⟩ := hc
    have hr : e.rdR = [r] := by cases h; rfl
    dsimp only
    rw [ha.R r (by rw [hr]; simp), hR, hu, hu2]
    exact h3
  · exact h
  · rename_i st xt q r
    split at h <;> try (cases h; done)
    rename_i hu hu2 hR hR2
    have h3 := h
    have hc := cond_none h
    clear h
    obtain ⟨hc, h⟩ := hc
    have hr : e.rdR = [q, r] := by cases h; rfl
    dsimp only
    rw [ha.R q (by rw [hr]; simp), hR, ha.R r (by rw [hr]; simp), hR2, hu, hu2]
    exact h3
  · rename_i st xt q id'
    split at h <;> try (cases h; done)
    rename_i hu hu2 hR hM
    have h3 := h
    have hc := cond_none h
    clear h
    obtain ⟨hc, h⟩ := hc
    split at h <;> try (cases h; done)
    have hr : e.rdR = [q] := by cases h; rfl
    have hm : e.rd = [id'] := by cases h; rfl
    dsimp only
    rw [ha.R q (by rw [hr]; simp), hR, ha.M id' (by rw [hm]; simp), hM, hu, hu2]
    exact h3
  · exact h

theorem evBinR_loc {op : BinOp} {t : TypeId} {x y : SV} {e : Eff} (h : evBinR cx s op t x y = some e) (ha : Agree e s s') : evBinR cx s' op t x y = some e := by
  unfold evBinR at h ⊢
  split at h
  · rename_i r
    unfold evNil at h ⊢
    split at h <;> try (cases h; done)
    rename_i xr el hR hu
    have hr : e.rdR = [r] := by cases h; rfl
    dsimp only
    rw [ha.R r (by rw [hr]; simp), hR, hu]
    exact h
  · rename_i hne
    exact h

/-- A summary reads no more than it says. -/
def SummLoc (S : Summ) : Prop := ∀ (xs : List SV) (M M' : Nat → Option Blk) (R R' : Nat → Option RowE) (rid : Nat) (e : Eff),
  S xs M R rid = some e → (∀ q ∈ e.rd, M' q = M q) → (∀ r ∈ e.rdR, R' r = R r) → S xs M' R' rid = some e

theorem evOp_loc {summ : FuncId → Option Summ} (hl : ∀ g S, summ g = some S → SummLoc S) {id rid : Nat} {o : Op} {e : Eff} (h : evOp cx summ s id rid o = some e) (ha : Agree e s s')
    (ho : ∀ x ∈ o.operands, opnd s'.T x = opnd s.T x) : evOp cx summ s' id rid o = some e := by
  have arr : ∀ (xs : Array Operand), (∀ x ∈ xs, opnd s'.T x = opnd s.T x) → xs.toList.map (opnd s'.T) = xs.toList.map (opnd s.T) := fun xs hx =>
    List.map_congr_left fun x hm => hx x (by simpa using hm)
  have prs : ∀ (ps : Array (Nat × Operand)), (∀ x ∈ (ps.toList.map (·.2)).toArray, opnd s'.T x = opnd s.T x) → (ps.toList.map fun q => (q.1, opnd s'.T q.2)) = ps.toList.map fun q => (q.1, opnd s.T q.2) := fun ps hx =>
    List.map_congr_left fun q hm => by rw [hx q.2 (by simp; exact ⟨q.1, by simpa using hm⟩)]
  have opt : ∀ (x : Option Operand), (∀ y, x = some y → opnd s'.T y = opnd s.T y) → optSV s'.T x = optSV s.T x := by
    intro x hx
    cases x with
    | none => rfl
    | some y => simp only [optSV, hx y rfl]
  unfold evOp at h ⊢
  dsimp only at h ⊢
  split at h
  · rw [ho _ (by simp [Op.operands])]; exact h
  · rw [ho _ (by simp [Op.operands])]; exact h
  · rw [ho _ (by simp [Op.operands]), ho _ (by simp [Op.operands]), ho _ (by simp [Op.operands])]; exact h
  · exact h
  · rw [ho _ (by simp [Op.operands])]; exact h
  · rw [prs _ (by simpa only [Op.operands] using ho)]; exact h
  · rw [prs _ (by simpa only [Op.operands] using ho)]; exact h
  · rw [ho _ (by simp [Op.operands])]; exact evLoad_loc h ha
  · rw [ho _ (by simp [Op.operands]), ho _ (by simp [Op.operands])]; exact evStore_loc h ha
  · rw [ho _ (by simp [Op.operands])]; exact h
  · rw [ho _ (by simp [Op.operands]), ho _ (by simp [Op.operands])]; exact evBinR_loc h ha
  · rw [ho _ (by simp [Op.operands])]; exact h
  · rw [ho _ (by simp [Op.operands])]; exact h
  · rw [arr _ (fun x hx => ho x (by simp [Op.operands, hx])), arr _ (fun x hx => ho x (by simp [Op.operands, hx]))]; exact h
  · exact h
  · rw [ho _ (by simp [Op.operands]), ho _ (by simp [Op.operands])]; exact h
  · rename_i t m k v
    rw [ho _ (by simp [Op.operands]), ho _ (by simp [Op.operands]), ho _ (by simp [Op.operands])]
    split at h <;> try (cases h; done)
    rename_i q kk kt et hmq hk hu
    split at h <;> try (cases h; done)
    rename_i es hM hkt
    have h3 := h
    have hm : e.rd = [q] := by
      cases hany : ((es.any fun e => e.1 == kk) || Nat.blt q foreign) with
      | true => rw [hany] at h; cases h
      | false => rw [hany] at h; cases h; rfl
    rw [ha.M q (by rw [hm]; simp), hM, hkt]
    exact h3
  · rename_i t x lo hi mx
    rw [ho _ (by simp [Op.operands]), opt lo (fun y hy => ho y (by simp [Op.operands, hy])), opt hi (fun y hy => ho y (by simp [Op.operands, hy])), opt mx (fun y hy => ho y (by simp [Op.operands, hy]))]
    split at h <;> try (cases h; done)
    rename_i e' he
    cases h
    rw [evSlice_loc he (ha.of rfl rfl)]
  · rw [ho _ (by simp [Op.operands])]; exact h
  · rw [ho _ (by simp [Op.operands])]; exact h
  · rw [ho _ (by simp [Op.operands]), ho _ (by simp [Op.operands])]; exact evIndexAddr_loc h ha
  · rw [ho _ (by simp [Op.operands]), ho _ (by simp [Op.operands])]; exact h
  · rw [ho _ (by simp [Op.operands])]; exact h
  · rename_i bt args ats
    rw [arr args (fun x hx => ho x (by simp [Op.operands, Call.operands, hx]))]
    split at h <;> try (cases h; done)
    rename_i e' he
    cases h
    rw [evBuiltin_loc he (ha.of rfl rfl)]
  · rename_i f args ats
    rw [arr args (fun x hx => ho x (by simp [Op.operands, Call.operands, hx])), ho f (by simp [Op.operands, Call.operands])]
    split at h <;> try (cases h; done)
    rename_i g xs ht
    split at h <;> try (cases h; done)
    rename_i S hS
    exact hl g S hS _ _ _ _ _ _ _ h ha.M ha.R
  · cases h
end
end Go.Sx
