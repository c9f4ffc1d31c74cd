/-
  A symbolic executor for the bodies of Go functions: regions that draw their order.
  Conditions: none; the lemma that every order that may be drawn ends in the state of the text's order.
-/
import Derived.Test.YtcibdpbblleafaaGreatDoorSxL
namespace Go.Sx
open Go Go.RowKit

theorem hits_false {a b : List Nat} (h : hits a b = false) {x : Nat} (hx : x ∈ a) (hy : x ∈ b) : False := by
  have h2 : hits a b = true := by
    simp only [hits, List.any_eq_true]
    exact ⟨x, hx, x, hy, Nat.beq_refl x⟩
  rw [h] at h2; cases h2

theorem updW_not {M : Nat → Option Blk} : ∀ {l : List (Nat × Blk)} {q : Nat}, q ∉ l.map (·.1) → updW M l q = M q
  | [], _, _ => rfl
  | (k, v) :: l, q, h => by
    simp only [List.map_cons, List.mem_cons, not_or] at h
    simp only [updW]
    rw [updW_not h.2, upd_other _ _ h.1]

theorem updW_in {M M' : Nat → Option Blk} : ∀ {l : List (Nat × Blk)} {q : Nat}, q ∈ l.map (·.1) → updW M l q = updW M' l q
  | (k, v) :: l, q, h => by
    simp only [updW]
    by_cases hq : q ∈ l.map (·.1)
    · exact updW_in hq
    · rw [updW_not hq, updW_not hq]
      simp only [List.map_cons, List.mem_cons] at h
      have : q = k := h.resolve_right hq
      subst this
      rw [upd_self, upd_self]

theorem appM_not {e : Eff} {M : Nat → Option Blk} {id q : Nat} (h : q ∉ e.ws id) : e.appM M id q = M q := by
  unfold Eff.ws at h
  unfold Eff.appM
  cases hn : e.nb with
  | none => rw [hn] at h; simp only [List.nil_append] at h; exact updW_not h
  | some b =>
    rw [hn] at h
    simp only [List.singleton_append, List.mem_cons, not_or] at h
    dsimp only
    rw [upd_other _ _ h.1]; exact updW_not h.2

theorem appM_in {e : Eff} {M M' : Nat → Option Blk} {id q : Nat} (h : q ∈ e.ws id) : e.appM M id q = e.appM M' id q := by
  unfold Eff.ws at h
  unfold Eff.appM
  cases hn : e.nb with
  | none => rw [hn] at h; simp only [List.nil_append] at h; exact updW_in h
  | some b =>
    rw [hn] at h
    simp only [List.singleton_append, List.mem_cons] at h
    dsimp only
    by_cases hq : q = id
    · subst hq; rw [upd_self, upd_self]
    · rw [upd_other _ _ hq, upd_other _ _ hq]; exact updW_in (h.resolve_left hq)

theorem updL_not {R : Nat → Option RowE} : ∀ {l : List RowE} {k q : Nat}, (q < k ∨ k + l.length ≤ q) → updL R k l q = R q
  | [], _, _, _ => rfl
  | v :: l, k, q, h => by
    simp only [updL]
    simp only [List.length_cons] at h
    rw [updL_not (by omega), upd_other _ _ (by omega)]

theorem updL_in {R R' : Nat → Option RowE} : ∀ {l : List RowE} {k q : Nat}, k ≤ q → q < k + l.length → updL R k l q = updL R' k l q
  | [], k, q, h1, h2 => by simp at h2; omega
  | v :: l, k, q, h1, h2 => by
    simp only [updL]
    simp only [List.length_cons] at h2
    by_cases hq : q = k
    · subst hq
      rw [updL_not (by omega), updL_not (by omega), upd_self, upd_self]
    · exact updL_in (by omega) (by omega)

/-- An operation of a region: what its effect keeps to. -/
def EffFit (e : Eff) : Prop := e.nr.length ≤ rowsEach ∧ e.only = none

theorem appR_not {e : Eff} (he : EffFit e) {R : Nat → Option RowE} {rid q : Nat} (h : q < rid ∨ rid + rowsEach ≤ q) : e.appR R rid q = R q := by
  unfold Eff.appR
  rw [he.2]
  exact updL_not (by have := he.1; omega)

theorem appR_free {e : Eff} (he : EffFit e) {R R' : Nat → Option RowE} {rid q : Nat} (h : R q = R' q) : e.appR R rid q = e.appR R' rid q := by
  unfold Eff.appR
  rw [he.2]
  dsimp only
  by_cases h1 : rid ≤ q ∧ q < rid + e.nr.length
  · exact updL_in h1.1 h1.2
  · rw [updL_not (by omega), updL_not (by omega), h]

theorem putT_comm {T : Nat → SV} {x y : Option Tmp} {v1 v2 : SV} (h : ∀ d, x = some d → y ≠ some d) : putT (putT T x v1) y v2 = putT (putT T y v2) x v1 := by
  cases x with
  | none => rfl
  | some d =>
    cases y with
    | none => rfl
    | some e =>
      have hne : d ≠ e := fun he => h d rfl (by rw [he])
      funext j
      simp only [putT, upd_apply]
      by_cases h1 : j = d
      · have : ¬ j = e := fun he => hne (h1.symm.trans he)
        simp [h1, hne]
      · simp [h1]

section
variable {en : Eng} {W0 : World} {α : Type} {p : α → Prop} {ops : Array Oper} {id0 rid0 : Nat}

/-- The state behind one operation of the region. -/
def step1 (ops : Array Oper) (id0 rid0 : Nat) (s : AS) (x : It) : AS := s.app (guardT ops x.i) x.e (id0 + x.i) (rid0 + rowsEach * x.i)

def Runs (en : Eng) (ops : Array Oper) (id0 rid0 : Nat) : AS → List It → AS → Prop
  | s, [], sf => s = sf
  | s, x :: rest, sf => drawEff en ops id0 rid0 s x.i x.flag = some x.e ∧ AllT x.e.needs ∧ Runs en ops id0 rid0 (step1 ops id0 rid0 s x) rest sf

theorem drawEff_fit {s : AS} {i : Nat} {flag : Bool} {e : Eff} (h : drawEff en ops id0 rid0 s i flag = some e) : EffFit e := by
  have body : ∀ {o : Oper} {flag : Bool} {e : Eff}, bodyEff en id0 rid0 s i o flag = some e → EffFit e := by
    intro o flag e h
    cases flag with
    | false => cases h; exact ⟨by simp [Eff.pure], rfl⟩
    | true =>
      simp only [bodyEff] at h
      split at h <;> try (cases h; done)
      obtain ⟨hc, h⟩ := cond_none h
      cases h
      simp only [Bool.and_eq_true] at hc
      exact ⟨Nat.le_of_ble_eq_true hc.1, by simpa using hc.2⟩
  unfold drawEff at h
  split at h <;> try (cases h; done)
  obtain ⟨hc, h⟩ := cond_none h
  split at h
  · split at h <;> try (cases h; done)
    exact body h
  · split at h <;> try (cases h; done)
    split at h <;> try (cases h; done)
    · exact body (cond_none h).2
    · split at h <;> try (cases h; done)
      rename_i e' he
      cases h
      have hb := body he
      exact ⟨hb.1, hb.2⟩
    · split at h <;> try (cases h; done)
      exact body h

/-- The effect of an operation does not turn where what it looks at does not. -/
theorem drawEff_loc (hl : ∀ g S, en.summ g = some S → SummLoc S) {s s' : AS} {i : Nat} {flag : Bool} {e : Eff} {o : Oper} (ho : ops[i]? = some o) (h : drawEff en ops id0 rid0 s i flag = some e) (ha : Agree e s s') (hn : s'.nT = s.nT)
    (hT : ∀ t ∈ o.looksAt ops, s'.T t = s.T t) : drawEff en ops id0 rid0 s' i flag = some e := by
  have hopnd : ∀ x ∈ o.op.operands, opnd s'.T x = opnd s.T x := by
    intro x hx
    cases x with
    | tmp t => exact hT t (List.mem_append_left _ (List.mem_filterMap.2 ⟨.tmp t, by simpa using hx, rfl⟩))
    | const v => rfl
    | global g => rfl
    | func f => rfl
  have body : ∀ {e : Eff} {flag : Bool}, Agree e s s' → bodyEff en id0 rid0 s i o flag = some e → bodyEff en id0 rid0 s' i o flag = some e := by
    intro e flag ha h
    cases flag with
    | false => exact h
    | true =>
      simp only [bodyEff] at h ⊢
      split at h <;> try (cases h; done)
      rename_i e' he
      have h3 := h
      obtain ⟨hc, h⟩ := cond_none h
      cases h
      rw [evOp_loc hl he ha hopnd]
      exact h3
  unfold drawEff at h ⊢
  rw [ho] at h ⊢
  dsimp only at h ⊢
  have hd : okDst s' o.dst = okDst s o.dst := by unfold okDst; rw [hn]
  rw [hd]
  have h3 := h
  obtain ⟨hc, h⟩ := cond_none h
  rw [hc]
  simp only [cond_true]
  split at h
  · split at h <;> try (cases h; done)
    exact body ha h
  · rename_i j want hg
    split at h <;> try (cases h; done)
    rename_i g hgt
    have hgT : s'.T g = s.T g := by
      refine hT g (List.mem_append_right _ ?_)
      unfold guardT at hgt
      rw [hg]
      dsimp only
      cases hj : ops[j]? with
      | none => rw [hj] at hgt; cases hgt
      | some oj => rw [hj] at hgt; dsimp only at hgt; simp [hgt]
    rw [hgT]
    split at h <;> try (cases h; done)
    · obtain ⟨hq, h⟩ := cond_none h
      rw [hq]
      exact body ha h
    · split at h <;> try (cases h; done)
      rename_i e' he
      cases h
      have ha' : Agree e' s s' := ha.of rfl rfl
      rw [body ha' he]
    · split at h <;> try (cases h; done)
      exact body ha h

theorem indep_spec {x y : It} (h : indep ops id0 rid0 x y = true) : ∃ ox oy, ops[x.i]? = some ox ∧ ops[y.i]? = some oy ∧ Oper.apart ops ox oy = true ∧
    hits (x.e.ws (id0 + x.i)) (y.e.rd ++ y.e.ws (id0 + y.i)) = false ∧ hits (y.e.ws (id0 + y.i)) x.e.rd = false ∧
    (∀ q ∈ y.e.rdR, q < rid0 + rowsEach * x.i ∨ rid0 + rowsEach * x.i + rowsEach ≤ q) ∧ (∀ q ∈ x.e.rdR, q < rid0 + rowsEach * y.i ∨ rid0 + rowsEach * y.i + rowsEach ≤ q) := by
  unfold indep at h
  split at h <;> try (cases h; done)
  rename_i ox oy hx hy
  simp only [Bool.and_eq_true, Bool.not_eq_true'] at h
  obtain ⟨⟨⟨⟨h1, h2⟩, h3⟩, h4⟩, h5⟩ := h
  refine ⟨ox, oy, hx, hy, h1, h2, h3, fun q hq => ?_, fun q hq => ?_⟩
  · have := List.any_eq_false.1 h4 q hq
    simp only [Bool.and_eq_true, decide_eq_true_eq] at this
    omega
  · have := List.any_eq_false.1 h5 q hq
    simp only [Bool.and_eq_true, decide_eq_true_eq] at this
    omega

theorem step1_T {s : AS} {x : It} {ox : Oper} (hx : ops[x.i]? = some ox) {t : Tmp} (ht : ∀ d, ox.dst = some d → d ≠ t) : (step1 ops id0 rid0 s x).T t = s.T t := by
  have hg : guardT ops x.i = ox.dst := by simp [guardT, hx]
  show putT s.T (guardT ops x.i) x.e.v t = s.T t
  rw [hg]
  cases hd : ox.dst with
  | none => rfl
  | some d => exact upd_other _ _ fun e => ht d hd e.symm

/-- Two independent operations may change places. -/
theorem swap_runs (hl : ∀ g S, en.summ g = some S → SummLoc S) {s : AS} {x y : It} (hne : x.i ≠ y.i) (hi : indep ops id0 rid0 x y = true) (hx : drawEff en ops id0 rid0 s x.i x.flag = some x.e)
    (hy : drawEff en ops id0 rid0 (step1 ops id0 rid0 s x) y.i y.flag = some y.e) :
    drawEff en ops id0 rid0 s y.i y.flag = some y.e ∧ drawEff en ops id0 rid0 (step1 ops id0 rid0 s y) x.i x.flag = some x.e ∧
    step1 ops id0 rid0 (step1 ops id0 rid0 s x) y = step1 ops id0 rid0 (step1 ops id0 rid0 s y) x := by
  obtain ⟨ox, oy, hox, hoy, hap, h1, h2, h3, h4⟩ := indep_spec hi
  obtain ⟨a1, a2, a3⟩ := Oper.apart_spec hap
  have fx := drawEff_fit hx
  have fy := drawEff_fit hy
  have hgx : guardT ops x.i = ox.dst := by simp [guardT, hox]
  have hgy : guardT ops y.i = oy.dst := by simp [guardT, hoy]
  have far : ∀ {i j : Nat}, i ≠ j → ∀ q, rid0 + rowsEach * i ≤ q → q < rid0 + rowsEach * i + rowsEach → q < rid0 + rowsEach * j ∨ rid0 + rowsEach * j + rowsEach ≤ q := by
    intro i j hij q hq1 hq2
    unfold rowsEach at *
    omega
  have hy' : drawEff en ops id0 rid0 s y.i y.flag = some y.e := by
    refine drawEff_loc hl hoy hy ⟨fun q hq => ?_, fun r hr => ?_⟩ rfl fun t ht => ?_
    · show s.M q = x.e.appM s.M (id0 + x.i) q
      exact (appM_not fun hm => hits_false h1 hm (List.mem_append_left _ hq)).symm
    · show s.R r = x.e.appR s.R (rid0 + rowsEach * x.i) r
      exact (appR_not fx (h3 r hr)).symm
    · exact (step1_T hox fun d hd e => a1 d hd (by rw [e]; exact ht)).symm
  have hx' : drawEff en ops id0 rid0 (step1 ops id0 rid0 s y) x.i x.flag = some x.e := by
    refine drawEff_loc hl hox hx ⟨fun q hq => ?_, fun r hr => ?_⟩ rfl fun t ht => ?_
    · show y.e.appM s.M (id0 + y.i) q = s.M q
      exact appM_not fun hm => hits_false h2 hm hq
    · show y.e.appR s.R (rid0 + rowsEach * y.i) r = s.R r
      exact appR_not fy (h4 r hr)
    · exact step1_T hoy fun d hd e => a3 d hd (by rw [e]; exact ht)
  refine ⟨hy', hx', ?_⟩
  have hT : (step1 ops id0 rid0 (step1 ops id0 rid0 s x) y).T = (step1 ops id0 rid0 (step1 ops id0 rid0 s y) x).T := by
    show putT (putT s.T (guardT ops x.i) x.e.v) (guardT ops y.i) y.e.v = putT (putT s.T (guardT ops y.i) y.e.v) (guardT ops x.i) x.e.v
    rw [hgx, hgy]
    exact putT_comm a2
  have hM : (step1 ops id0 rid0 (step1 ops id0 rid0 s x) y).M = (step1 ops id0 rid0 (step1 ops id0 rid0 s y) x).M := by
    funext q
    show y.e.appM (x.e.appM s.M (id0 + x.i)) (id0 + y.i) q = x.e.appM (y.e.appM s.M (id0 + y.i)) (id0 + x.i) q
    by_cases qx : q ∈ x.e.ws (id0 + x.i)
    · have qy : q ∉ y.e.ws (id0 + y.i) := fun hm => hits_false h1 qx (List.mem_append_right _ hm)
      rw [appM_not qy]; exact appM_in qx
    · rw [appM_not qx]
      by_cases qy : q ∈ y.e.ws (id0 + y.i)
      · exact appM_in qy
      · rw [appM_not qy, appM_not qy, appM_not qx]
  have hR : (step1 ops id0 rid0 (step1 ops id0 rid0 s x) y).R = (step1 ops id0 rid0 (step1 ops id0 rid0 s y) x).R := by
    funext q
    show y.e.appR (x.e.appR s.R (rid0 + rowsEach * x.i)) (rid0 + rowsEach * y.i) q = x.e.appR (y.e.appR s.R (rid0 + rowsEach * y.i)) (rid0 + rowsEach * x.i) q
    by_cases qx : rid0 + rowsEach * x.i ≤ q ∧ q < rid0 + rowsEach * x.i + rowsEach
    · have qy := far hne q qx.1 qx.2
      rw [appR_not fy qy]; exact appR_free fx (appR_not fy qy).symm
    · rw [appR_not fx (by omega : q < rid0 + rowsEach * x.i ∨ rid0 + rowsEach * x.i + rowsEach ≤ q)]
      exact appR_free fy (appR_not fx (by omega))
  show (⟨_, _, _, _, _, _⟩ : AS) = ⟨_, _, _, _, _, _⟩
  have e1 : (step1 ops id0 rid0 (step1 ops id0 rid0 s x) y) = ⟨(step1 ops id0 rid0 (step1 ops id0 rid0 s x) y).T, (step1 ops id0 rid0 (step1 ops id0 rid0 s x) y).M, (step1 ops id0 rid0 (step1 ops id0 rid0 s x) y).R, s.nM, s.nR, s.nT⟩ := rfl
  have e2 : (step1 ops id0 rid0 (step1 ops id0 rid0 s y) x) = ⟨(step1 ops id0 rid0 (step1 ops id0 rid0 s y) x).T, (step1 ops id0 rid0 (step1 ops id0 rid0 s y) x).M, (step1 ops id0 rid0 (step1 ops id0 rid0 s y) x).R, s.nM, s.nR, s.nT⟩ := rfl
  rw [hT] at e1
  rw [hM] at e1
  rw [hR] at e1
  exact e1.trans e2.symm

/-- An operation that is independent of all before it may be taken first. -/
theorem take_runs (hl : ∀ g S, en.summ g = some S → SummLoc S) {x : It} {post : List It} {sf : AS} : ∀ {pre : List It} {s : AS}, (∀ y ∈ pre, y.i ≠ x.i ∧ indep ops id0 rid0 y x = true) → Runs en ops id0 rid0 s (pre ++ x :: post) sf →
    drawEff en ops id0 rid0 s x.i x.flag = some x.e ∧ AllT x.e.needs ∧ Runs en ops id0 rid0 (step1 ops id0 rid0 s x) (pre ++ post) sf
  | [], _, _, h => h
  | y :: pre, s, hp, h => by
    obtain ⟨h1, h2, h3⟩ := h
    obtain ⟨q1, q2, q3⟩ := take_runs hl (fun z hz => hp z (List.mem_cons_of_mem _ hz)) h3
    obtain ⟨hne, hin⟩ := hp y (List.mem_cons_self ..)
    obtain ⟨r1, r2, r3⟩ := swap_runs hl hne hin h1 q1
    refine ⟨r1, q2, r2, h2, ?_⟩
    rw [← r3]; exact q3
end
end Go.Sx
