/-
  A symbolic executor for the bodies of Go functions: addresses, numbers, comparisons, choices.
  Conditions: none; lemmas about single operations.
-/
import Derived.Test.YtcibdpbblleafaaGreatDoorSxE
namespace Go.Sx
open Go Go.RowKit

/-! ### Numbers -/
theorem bits_pos (k : IntKind) : 1 ≤ k.bits := by cases k <;> simp [IntKind.bits]

theorem wrap_InR (k : IntKind) (n : Int) : InR k (k.wrap n) := by
  cases k <;> simp only [InR, IntKind.wrap, IntKind.min, IntKind.max, IntKind.bits, IntKind.signed] <;> simp <;> first | omega | (split <;> omega)

theorem zero_InR (k : IntKind) : k.min ≤ 0 ∧ 0 ≤ k.max := by cases k <;> decide

theorem emod_le_self {a b : Int} (h0 : 0 ≤ a) (hb : 0 < b) : a % b ≤ a := by
  have q := Int.ediv_nonneg h0 (Int.le_of_lt hb)
  have m := Int.mul_nonneg (Int.le_of_lt hb) q
  have d := Int.emod_def a b
  omega

theorem tmod_InR {k : IntKind} {a b : Int} (h : InR k a) : InR k (a.tmod b) := by
  obtain ⟨z1, z2⟩ := zero_InR k
  obtain ⟨h1, h2⟩ := h
  rcases Int.le_total 0 a with h0 | h0
  · have q1 : 0 ≤ a.tmod b := Int.tmod_nonneg b h0
    have q2 : a.tmod b ≤ a := by
      rw [Int.tmod_eq_emod_of_nonneg h0]
      rcases Int.lt_trichotomy b 0 with hb | hb | hb
      · rw [← Int.emod_neg]; exact emod_le_self h0 (by omega)
      · subst hb; simp
      · exact emod_le_self h0 hb
    exact ⟨by omega, by omega⟩
  · have hn : 0 ≤ -a := by omega
    have q1 : 0 ≤ (-a).tmod b := Int.tmod_nonneg b hn
    have q2 : (-a).tmod b ≤ -a := by
      rw [Int.tmod_eq_emod_of_nonneg hn]
      rcases Int.lt_trichotomy b 0 with hb | hb | hb
      · rw [← Int.emod_neg]; exact emod_le_self hn (by omega)
      · subst hb; simp
      · exact emod_le_self hn hb
    rw [Int.neg_tmod] at q1 q2
    exact ⟨by omega, by omega⟩

theorem fdiv_InR {k : IntKind} {a : Int} {n : Nat} (h : InR k a) : InR k (a.fdiv (2 ^ n)) := by
  obtain ⟨z1, z2⟩ := zero_InR k
  obtain ⟨h1, h2⟩ := h
  have hp : (0 : Int) < 2 ^ n := Int.pow_pos (by omega)
  rw [Int.fdiv_eq_ediv_of_nonneg a (by omega)]
  rcases Int.le_total 0 a with h0 | h0
  · have q1 : 0 ≤ a / 2 ^ n := Int.ediv_nonneg h0 (by omega)
    have q2 : a / 2 ^ n ≤ a := Int.ediv_le_self _ h0
    exact ⟨by omega, by omega⟩
  · have q1 : a / 2 ^ n ≤ 0 := by
      rcases Int.lt_or_eq_of_le h0 with hlt | heq
      · exact Int.le_of_lt (Int.ediv_neg_of_neg_of_pos hlt hp)
      · subst heq; simp
    have q2 : a ≤ a / 2 ^ n := by
      rw [Int.le_ediv_iff_mul_le hp]
      have h1 : (1 : Int) ≤ 2 ^ n := by omega
      have h3 : a * (2 ^ n) ≤ a * 1 := Int.mul_le_mul_of_nonpos_left h0 h1
      omega
    exact ⟨by omega, by omega⟩

section
variable {cx : Cx} {W0 : World} {E : Env} {s : AS} {w : World}

theorem evUn_ok {op : UnOp} {sv : SV} {e : Eff} (h : evUn op sv = some e) {x : Value} (hx : V E sv x) :
    ∃ v, (Op.unary op x).run cx.P w = .ok v w ∧ V E e.v v ∧ e.Quiet ∧ e.needs = [] := by
  unfold evUn at h
  split at h <;> try (cases h; done)
  all_goals
    cases h
    simp only [V] at hx
  · subst hx; exact ⟨_, rfl, by simp only [Eff.pure, V], ⟨rfl, rfl, rfl, rfl⟩, rfl⟩
  · subst hx; exact ⟨_, rfl, by simp only [Eff.pure, V], ⟨rfl, rfl, rfl, rfl⟩, rfl⟩
  · obtain ⟨rfl, hr⟩ := hx; exact ⟨_, rfl, by simp only [Eff.pure, V]; exact ⟨trivial, wrap_InR _ _⟩, ⟨rfl, rfl, rfl, rfl⟩, rfl⟩
  · obtain ⟨rfl, hr⟩ := hx; exact ⟨_, rfl, by simp only [Eff.pure, V]; exact ⟨trivial, wrap_InR _ _⟩, ⟨rfl, rfl, rfl, rfl⟩, rfl⟩

theorem evConv_ok {a b : TypeId} {sv : SV} {e : Eff} (h : evConv cx a b sv = some e) {x : Value} (hx : V E sv x) :
    ∃ v, (convert a b x).run cx.P w = .ok v w ∧ V E e.v v ∧ e.Quiet ∧ e.needs = [] := by
  unfold evConv at h
  split at h <;> try (cases h; done)
  rename_i d k h1 h2
  split at h <;> try (cases h; done)
  all_goals
    cases h
    simp only [V] at hx
    obtain ⟨rfl, hr⟩ := hx
    refine ⟨.int k (k.wrap _), ?_, by simp only [Eff.pure, V]; exact ⟨rfl, wrap_InR _ _⟩, ⟨rfl, rfl, rfl, rfl⟩, rfl⟩
    simp only [convert, Sem.run_bind, run_underlying' h1, run_underlying' h2, Result.andThen_ok]
    rfl

theorem evPick_ok {c a b : SV} {e : Eff} (h : evPick c a b = some e) (hnd : AllT e.needs) {x y z : Value} (hx : V E c x) (hy : V E a y) (hz : V E b z) :
    ∃ v, (do pure (if ← asBool x then y else z) : Sem Value).run cx.P w = .ok v w ∧ V E e.v v ∧ e.Quiet := by
  unfold evPick at h
  split at h <;> try (cases h; done)
  · cases h; simp only [V] at hx; subst hx
    exact ⟨y, by simp [asBool], hy, ⟨rfl, rfl, rfl, rfl⟩⟩
  · cases h; simp only [V] at hx; subst hx
    exact ⟨z, by simp [asBool], hz, ⟨rfl, rfl, rfl, rfl⟩⟩
  · rename_i q
    simp only [V] at hx; subst hx
    split at h <;> try (cases h; done)
    iterate 4
      next =>
        cases h
        simp only [V] at hy hz
        subst hy hz
        exact ⟨_, by simp [asBool]; rfl, by simp only [Eff.pure, V]; cases q <;> rfl, ⟨rfl, rfl, rfl, rfl⟩⟩
    · cases h
      have hq : q = true := hnd q (by simp)
      subst hq
      exact ⟨y, by simp [asBool], hy, ⟨rfl, rfl, rfl, rfl⟩⟩
    · cases h
      have hq : q = false := by simpa using hnd (!q) (by simp)
      subst hq
      exact ⟨z, by simp [asBool], hz, ⟨rfl, rfl, rfl, rfl⟩⟩

theorem evField_ok {t : TypeId} {addr : SV} {fd : Nat} {e : Eff} (h : evField cx t addr fd = some e) {x : Value} (hx : V E addr x) :
    ∃ v, (Instr.fieldAt t x fd).run cx.P w = .ok v w ∧ V E e.v v ∧ e.Quiet ∧ e.needs = [] := by
  unfold evField at h
  split at h <;> try (cases h; done)
  rename_i o ft hf
  split at h <;> try (cases h; done)
  rename_i n hn
  unfold fieldT at hf
  split at hf <;> try (cases hf; done)
  rename_i fields hu
  split at hf <;> try (cases hf; done)
  rename_i q hq
  simp only [Option.some.injEq, Prod.mk.injEq] at hf
  obtain ⟨rfl, rfl⟩ := hf
  have run : ∀ b off, (Instr.fieldAt t (.pointer (some ⟨b, off, none⟩)) fd).run cx.P w = .ok (.pointer (some ⟨b, off + q.offset, none⟩)) w := by
    intro b off
    simp [Instr.fieldAt, run_underlying' hu, hq, Instr.sureAddr, fieldPlace, run_sizeOf' hn, add_mk]
  split at h <;> try (cases h; done)
  all_goals
    cases h
    simp only [V] at hx
  · obtain ⟨b, hb, rfl⟩ := hx
    exact ⟨_, run .., by simp only [Eff.pure, V]; exact ⟨b, hb, rfl⟩, ⟨rfl, rfl, rfl, rfl⟩, rfl⟩
  · obtain ⟨b, hb, i0, i1, rfl⟩ := hx
    exact ⟨_, run .., by simp only [Eff.pure, V]; exact ⟨b, hb, i0, i1, by congr 3; omega⟩, ⟨rfl, rfl, rfl, rfl⟩, rfl⟩
  · subst hx
    exact ⟨_, run .., by simp only [Eff.pure, V], ⟨rfl, rfl, rfl, rfl⟩, rfl⟩
  · obtain ⟨i0, i1, rfl⟩ := hx
    exact ⟨_, run .., by simp only [Eff.pure, V]; exact ⟨i0, i1, by congr 3; omega⟩, ⟨rfl, rfl, rfl, rfl⟩, rfl⟩
  · obtain ⟨b, o', len, cap, hb, i0, i1, rfl⟩ := hx
    exact ⟨_, run .., by simp only [Eff.pure, V]; exact ⟨b, o', len, cap, hb, i0, i1, by congr 3; omega⟩, ⟨rfl, rfl, rfl, rfl⟩, rfl⟩

theorem run_indexAt_array {t elem : TypeId} {len n b off : Nat} {k : IntKind} {v : Int} (hu : cx.P.underlying t = some (.array len elem)) (hn : sizeT cx.P elem = some n) (h0 : 0 ≤ v) (h1 : v < (len : Int)) :
    (Instr.indexAt t (.pointer (some ⟨b, off, none⟩)) (.int k v)).run cx.P w = .ok (.pointer (some ⟨b, off + v.toNat * n, none⟩)) w := by
  simp [Instr.indexAt, asIntOf, run_underlying' hu, Instr.sureAddr, run_sizeOf' hn, h0, h1, add_mk]

theorem run_indexAt_slice {t elem : TypeId} {len cap n b off : Nat} {k : IntKind} {v : Int} (hu : cx.P.underlying t = some (.slice elem)) (hn : sizeT cx.P elem = some n) (h0 : 0 ≤ v) (h1 : v < (len : Int)) :
    (Instr.indexAt t (.slice (some ⟨b, off, none⟩) len cap) (.int k v)).run cx.P w = .ok (.pointer (some ⟨b, off + v.toNat * n, none⟩)) w := by
  simp [Instr.indexAt, asIntOf, run_underlying' hu, run_sizeOf' hn, h0, h1, add_mk]

theorem and_dec {p q : Prop} [Decidable p] [Decidable q] (h : (decide p && decide q) = true) : p ∧ q := by simpa using h

theorem AllT.two {p q : Prop} [Decidable p] [Decidable q] (h : AllT [decide p, decide q]) : p ∧ q :=
  ⟨by simpa using h (decide p) (by simp), by simpa using h (decide q) (by simp)⟩

theorem evIndexAddr_ok (hm : MemR W0 E s.M s.R w) {t : TypeId} {base ix : SV} {e : Eff} (h : evIndexAddr cx s t base ix = some e) (hnd : AllT e.needs) {x y : Value} (hx : V E base x) (hy : V E ix y) :
    ∃ v, (Instr.indexAt t x y).run cx.P w = .ok v w ∧ V E e.v v ∧ e.Quiet := by
  unfold evIndexAddr at h
  split at h
  · rename_i len elem hu
    split at h <;> try (cases h; done)
    rename_i n hn
    split at h
    · obtain ⟨hc, h⟩ := cond_none h
      cases h
      obtain ⟨h0, h1⟩ := and_dec hc
      simp only [V] at hx hy
      obtain ⟨b, hb, rfl⟩ := hx
      rw [hy.1]
      exact ⟨_, run_indexAt_array hu hn h0 h1, by simp only [Eff.pure, V]; exact ⟨b, hb, rfl⟩, ⟨rfl, rfl, rfl, rfl⟩⟩
    · obtain ⟨hc, h⟩ := cond_none h
      cases h
      obtain ⟨h0, h1⟩ := and_dec hc
      simp only [V] at hx hy
      subst hx
      rw [hy.1]
      exact ⟨_, run_indexAt_array hu hn h0 h1, by simp only [Eff.pure, V], ⟨rfl, rfl, rfl, rfl⟩⟩
    · cases h
      obtain ⟨h0, h1⟩ := AllT.two hnd
      simp only [V] at hx hy
      obtain ⟨b, hb, rfl⟩ := hx
      rw [hy.1]
      exact ⟨_, run_indexAt_array hu hn h0 h1, by simp only [Eff.pure, V]; exact ⟨b, hb, h0, h1, by rw [Nat.mul_comm]⟩, ⟨rfl, rfl, rfl, rfl⟩⟩
    · cases h
      obtain ⟨h0, h1⟩ := AllT.two hnd
      simp only [V] at hx hy
      subst hx
      rw [hy.1]
      exact ⟨_, run_indexAt_array hu hn h0 h1, by simp only [Eff.pure, V]; exact ⟨h0, h1, by rw [Nat.mul_comm]⟩, ⟨rfl, rfl, rfl, rfl⟩⟩
    · cases h
  · rename_i elem hu
    split at h <;> try (cases h; done)
    rename_i n hn
    have row : ∀ (r : Nat) (v : Int) (k : IntKind), V E (.r r) x → y = .int k v → (match s.R r with
        | some x => bif rowIs cx.P elem x.c then some { Eff.pure (.pr r (n + 1) 0 v) with needs := [decide (0 ≤ v), decide (v < (x.c.len : Int))], rdR := [r] } else none
        | none => none) = some e → ∃ v, (Instr.indexAt t x y).run cx.P w = .ok v w ∧ V E e.v v ∧ e.Quiet := by
      intro r v k hx hy h
      subst hy
      simp only [V] at hx
      obtain ⟨hx, a, len, cap, rfl⟩ := hx
      split at h <;> try (cases h; done)
      rename_i xr hR
      obtain ⟨hc, h⟩ := cond_none h
      cases h
      obtain ⟨h0, h1⟩ := AllT.two hnd
      obtain ⟨⟨c1, a', cap', hv, c2, c3⟩, _⟩ := row_val hm hR hx
      cases hv
      cases a with
      | none => simp only at c3; omega
      | some p =>
        obtain ⟨b, o, sp⟩ := p
        simp only at c3
        obtain ⟨rfl, c4, c5⟩ := c3
        exact ⟨_, run_indexAt_slice hu hn h0 h1, by simp only [Eff.pure, V]; exact ⟨b, o, _, _, hx, h0, h1, by rw [Nat.mul_comm]; rfl⟩, ⟨rfl, rfl, rfl, rfl⟩⟩
    split at h
    · obtain ⟨hc, h⟩ := cond_none h
      cases h
      obtain ⟨h0, h1⟩ := and_dec hc
      simp only [V] at hx hy
      obtain ⟨b, hb, rfl⟩ := hx
      rw [hy.1]
      exact ⟨_, run_indexAt_slice hu hn h0 h1, by simp only [Eff.pure, V]; exact ⟨b, hb, by simp⟩, ⟨rfl, rfl, rfl, rfl⟩⟩
    · simp only [V] at hy
      exact row _ _ _ hx hy.1 h
    · simp only [V] at hy
      exact row _ _ _ hx hy.1 h
    · cases h
  · cases h

theorem evIndex_ok {t : TypeId} {base ix : SV} {e : Eff} (h : evIndex cx t base ix = some e) (hnd : AllT e.needs) {x y : Value} (hx : V E base x) (hy : V E ix y) :
    ∃ v, (Instr.index t x y).run cx.P w = .ok v w ∧ V E e.v v ∧ e.Quiet := by
  unfold evIndex at h
  split at h <;> try (cases h; done)
  rename_i len elem hu
  split at h <;> try (cases h; done)
  rename_i ha hn
  have run : ∀ (k : IntKind) (v : Int) (vs : List Value) (u : Value), 0 ≤ v → v < (len : Int) → vs[v.toNat]? = some u → (Instr.index t (.agg vs.toArray) (.int k v)).run cx.P w = .ok u w := by
    intro k v vs u h0 h1 hu'
    simp [Instr.index, asIntOf, run_underlying' hu, h0, h1, run_sizeOf' hn, part, run_isAgg' ha, hu']
  split at h
  · obtain ⟨hc, h⟩ := cond_none h
    obtain ⟨h0, h1⟩ := and_dec hc
    split at h <;> try (cases h; done)
    rename_i c hcc
    cases h
    simp only [V] at hx hy
    obtain ⟨vs, rfl, hvs⟩ := hx
    obtain ⟨u, q1, q2⟩ := hvs.get hcc
    rw [hy.1]
    exact ⟨u, run _ _ _ _ h0 h1 q1, q2, ⟨rfl, rfl, rfl, rfl⟩⟩
  · obtain ⟨hc, h⟩ := cond_none h
    split at h <;> try (cases h; done)
    rename_i c hcc
    cases h
    obtain ⟨h0, h1⟩ := AllT.two hnd
    simp only [V] at hx hy
    obtain ⟨vs, rfl, hvs⟩ := hx
    obtain ⟨u, q1, q2⟩ := choice_V hcc hvs h0 (by rw [Nat.eq_of_beq_eq_true hc]; exact h1)
    rw [hy.1]
    exact ⟨u, run _ _ _ _ h0 h1 q1, q2, ⟨rfl, rfl, rfl, rfl⟩⟩
  · cases h
end
end Go.Sx
