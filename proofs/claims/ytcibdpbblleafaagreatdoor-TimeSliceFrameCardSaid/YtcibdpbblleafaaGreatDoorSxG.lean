/-
  A symbolic executor for the bodies of Go functions: operators on two values, cuts of slices, the built-in functions.
  Conditions: none; lemmas about single operations.
-/
import Derived.Test.YtcibdpbblleafaaGreatDoorSxF
namespace Go.Sx
open Go Go.RowKit

/-- Two lists of integers, place by place of one kind; whether they are the same. -/
def IntsEq : List Value → List Value → Bool → Prop
  | [], l, r => l = [] ∧ r = true
  | x :: xs, l, r => ∃ k a b m q, x = .int k a ∧ l = .int k b :: m ∧ IntsEq xs m q ∧ r = ((a == b) && q)

/-- Values of the types marked are compared cell by cell. -/
def EqOk (cx : Cx) : Prop := ∀ t, cx.eqT t = true → ∀ (xs ys : List Value) (r : Bool) (w : World), IntsEq xs ys r → sizeT cx.P t = some xs.length →
  cx.P.eqGuardType cx.P.depth t = false ∧ (Op.equal t (.agg xs.toArray) (.agg ys.toArray)).run cx.P w = .ok r w

section
variable {cx : Cx} {W0 : World} {E : Env} {s : AS} {w : World}

theorem eqCells_ok {E : Env} : ∀ {xs ys : List SV} {r : Bool} {us vs : List Value}, eqCells xs ys = some r → VL E xs us → VL E ys vs → IntsEq us vs r := by
  intro xs
  induction xs with
  | nil =>
    intro ys r us vs h hu hv
    cases ys with
    | nil => simp only [eqCells, Option.some.injEq] at h; rw [VL.nil.1 hu, VL.nil.1 hv]; exact ⟨rfl, h.symm⟩
    | cons => simp [eqCells] at h
  | cons x xs ih =>
    intro ys r us vs h hu hv
    obtain ⟨u, us, rfl, u1, u2⟩ := VL.cons.1 hu
    cases ys with
    | nil => cases x <;> simp [eqCells] at h
    | cons y ys =>
      obtain ⟨v, vs, rfl, v1, v2⟩ := VL.cons.1 hv
      cases x <;> cases y <;> simp only [eqCells] at h <;> first | (cases h; done) | skip
      all_goals
        obtain ⟨hk, h⟩ := cond_none h
        split at h <;> try (cases h; done)
        rename_i q hq
        cases h
        simp only [V] at u1 v1
        have := kindB_eq hk
        subst this
        exact ⟨_, _, _, _, q, u1.1, by rw [v1.1], ih hq u2 v2, rfl⟩

theorem evInts_ok {t : TypeId} {op : BinOp} {k : IntKind} {a b : Int} {mk : IntKind → Int → SV} {mb : Bool → SV} {e : Eff} (h : evInts op k a b mk mb = some e) (hs : isShift op = false) (ha : InR k a)
    (hmk : ∀ v, InR k v → V E (mk k v) (.int k v)) (hmb : ∀ q, V E (mb q) (.bool q)) (hnd : AllT e.needs) :
    ∃ v, (binOp op t (.int k a) (.int k b)).run cx.P w = .ok v w ∧ V E e.v v ∧ e.Quiet := by
  unfold evInts at h
  split at h
  · rename_i r hr
    cases h
    refine ⟨.bool r, ?_, hmb r, ⟨rfl, rfl, rfl, rfl⟩⟩
    cases op <;> simp only [cmp, Option.some.injEq] at hr <;> first | (cases hr; done) | skip
    all_goals
      subst hr
      simp [binOp, Op.intCmp]
    all_goals rfl
  · split at h
    · rename_i r hr
      cases h
      refine ⟨.int k r, ?_, hmk r ?_, ⟨rfl, rfl, rfl, rfl⟩⟩
      · cases op <;> simp only [arith, Option.some.injEq] at hr <;> first | (cases hr; done) | skip
        all_goals
          subst hr
          simp [binOp, Op.intArith, Op.intBits, band, bor, bxor, bandn]
      · cases op <;> simp only [arith, Option.some.injEq] at hr <;> first | (cases hr; done) | skip
        all_goals
          subst hr
          exact wrap_InR _ _
    · split at h <;> try (cases h; done)
      rename_i r hr
      cases h
      have hb : b ≠ 0 := by simpa using hnd (decide (b ≠ 0)) (by simp)
      refine ⟨.int k r, ?_, hmk r ?_, ⟨rfl, rfl, rfl, rfl⟩⟩
      · cases op <;> simp only [divs, Option.some.injEq] at hr <;> first | (cases hr; done) | skip
        all_goals
          subst hr
          simp [binOp, Op.intDiv, hb]
      · cases op <;> simp only [divs, Option.some.injEq] at hr <;> first | (cases hr; done) | skip
        all_goals subst hr
        · exact wrap_InR _ _
        · exact tmod_InR ha

theorem evShift_ok {op : BinOp} {k k' : IntKind} {a b : Int} {t : TypeId} {mk : IntKind → Int → SV} {r : Int} (h : shifts op k a b = some r) (ha : InR k a) (hmk : ∀ v, InR k v → V E (mk k v) (.int k v)) (hb : 0 ≤ b) :
    (binOp op t (.int k a) (.int k' b)).run cx.P w = .ok (.int k r) w ∧ V E (mk k r) (.int k r) := by
  have hb' : ¬ b < 0 := by omega
  cases op <;> simp only [shifts, Option.some.injEq] at h <;> first | (cases h; done) | skip
  all_goals subst h
  · exact ⟨by simp [binOp, Op.shift, hb', shlI], hmk _ (wrap_InR _ _)⟩
  · exact ⟨by simp [binOp, Op.shift, hb', shrI], hmk _ (fdiv_InR ha)⟩

theorem eqGuard_plain {op : BinOp} {t : TypeId} {x y : Operand} {a b : Value} (h : ∀ xs, a ≠ .agg xs) (h' : a ≠ .nilIface) : (eqGuard op t x y a b).run cx.P w = .ok () w := by
  unfold eqGuard
  cases op <;> simp
  all_goals
    cases a <;> first | rfl | exact absurd rfl (h _) | exact absurd rfl h'

theorem run_equalIn_bools (d : Nat) {t : TypeId} {a b : Bool} (hu : cx.P.underlying t = some .bool) : (Op.equalIn (d + 1) t (.bool a) (.bool b)).run cx.P w = .ok (a == b) w := by
  simp only [Op.equalIn, Sem.run_bind, run_underlying' hu, Result.andThen_ok]; rfl
theorem run_equalIn_func (d : Nat) {t : TypeId} {ps rs : Array TypeId} {v : Bool} {f : Fn} {fs cs : Array Value} (hu : cx.P.underlying t = some (.func ps rs v)) : (Op.equalIn (d + 1) t (.func f fs cs) .nilFunc).run cx.P w = .ok false w := by
  simp only [Op.equalIn, Sem.run_bind, run_underlying' hu, Result.andThen_ok]; rfl
theorem run_equalIn_nils (d : Nat) {t : TypeId} {ps rs : Array TypeId} {v : Bool} (hu : cx.P.underlying t = some (.func ps rs v)) : (Op.equalIn (d + 1) t .nilFunc .nilFunc).run cx.P w = .ok true w := by
  simp only [Op.equalIn, Sem.run_bind, run_underlying' hu, Result.andThen_ok]; rfl
theorem run_equal_bool {t : TypeId} {a b : Bool} (hu : cx.P.underlying t = some .bool) : (Op.equal t (.bool a) (.bool b)).run cx.P w = .ok (a == b) w := run_equalIn_bools 9999 hu
theorem run_equal_func {t : TypeId} {ps rs : Array TypeId} {v : Bool} {f : Fn} {fs cs : Array Value} (hu : cx.P.underlying t = some (.func ps rs v)) : (Op.equal t (.func f fs cs) .nilFunc).run cx.P w = .ok false w := run_equalIn_func 9999 hu
theorem run_equal_nils {t : TypeId} {ps rs : Array TypeId} {v : Bool} (hu : cx.P.underlying t = some (.func ps rs v)) : (Op.equal t .nilFunc .nilFunc).run cx.P w = .ok true w := run_equalIn_nils 9999 hu
theorem run_eql_of {t : TypeId} {x y : Value} {r : Bool} {G : Sem Unit} (hg : G.run cx.P w = .ok () w) (h : (Op.equal t x y).run cx.P w = .ok r w) (hb : binOp .eql t x y = (do pure (.bool (← Op.equal t x y)))) :
    (do G; binOp .eql t x y : Sem Value).run cx.P w = .ok (.bool r) w := by
  rw [hb]; simp only [Sem.run_bind, hg, Result.andThen_ok, h, Sem.run_pure]
theorem run_neq_of {t : TypeId} {x y : Value} {r : Bool} {G : Sem Unit} (hg : G.run cx.P w = .ok () w) (h : (Op.equal t x y).run cx.P w = .ok r w) (hb : binOp .neq t x y = (do pure (.bool (!(← Op.equal t x y))))) :
    (do G; binOp .neq t x y : Sem Value).run cx.P w = .ok (.bool (!r)) w := by
  rw [hb]; simp only [Sem.run_bind, hg, Result.andThen_ok, h, Sem.run_pure]

theorem run_equalIn_slice (d : Nat) {t e : TypeId} {p : Addr} {n c : Nat} (hu : cx.P.underlying t = some (.slice e)) : (Op.equalIn (d + 1) t (.slice (some p) n c) (.slice none 0 0)).run cx.P w = .ok false w := by
  simp only [Op.equalIn, Sem.run_bind, run_underlying' hu, Result.andThen_ok]; rfl

theorem evNil_ok (hm : MemR W0 E s.M s.R w) {t : TypeId} {r : Nat} {e : Eff} (h : evNil cx s t r = some e) (hnd : AllT e.needs) {x : Value} (hx : V E (.r r) x) (ox oy : Operand) :
    ∃ v, (do eqGuard .eql t ox oy x (.slice none 0 0); binOp .eql t x (.slice none 0 0) : Sem Value).run cx.P w = .ok v w ∧ V E e.v v ∧ e.Quiet := by
  unfold evNil at h
  split at h <;> try (cases h; done)
  rename_i xr el hR hu
  cases h
  have h0 : 0 < xr.c.len := by simpa using hnd (decide (0 < xr.c.len)) (by simp)
  simp only [V] at hx
  obtain ⟨hx, a, len, cap, rfl⟩ := hx
  obtain ⟨⟨_, a', cap', hv, c2, c3⟩, _⟩ := row_val hm hR hx
  cases hv
  cases a with
  | none => dsimp only at c3; omega
  | some p =>
    have g : (eqGuard .eql t ox oy (.slice (some p) xr.c.len cap) (.slice none 0 0)).run cx.P w = .ok () w := eqGuard_plain (by simp) (by simp)
    have he : (Op.equal t (.slice (some p) xr.c.len cap) (.slice none 0 0)).run cx.P w = .ok false w := run_equalIn_slice 9999 hu
    exact ⟨.bool false, run_eql_of g he rfl, by simp only [Eff.pure, V], ⟨rfl, rfl, rfl, rfl⟩⟩

theorem evBin_ok (heq : EqOk cx) {op : BinOp} {t : TypeId} {sx sy : SV} {e : Eff} (h : evBin cx op t sx sy = some e) (hnd : AllT e.needs) {x y : Value} (hx : V E sx x) (hy : V E sy y) (ox oy : Operand) :
    ∃ v, (do eqGuard op t ox oy x y; binOp op t x y : Sem Value).run cx.P w = .ok v w ∧ V E e.v v ∧ e.Quiet := by
  have mkn : ∀ k v, InR k v → V E (.n k v) (.int k v) := fun k v h => by simp only [V]; exact ⟨trivial, h⟩
  have mki : ∀ k v, InR k v → V E (.i k v) (.int k v) := fun k v h => by simp only [V]; exact ⟨trivial, h⟩
  have mkk : ∀ q, V E (.kb q) (.bool q) := fun q => by simp only [V]
  have mkb : ∀ q, V E (.b q) (.bool q) := fun q => by simp only [V]
  have guard : ∀ k v (b : Value), (eqGuard op t ox oy (.int k v) b).run cx.P w = .ok () w := fun k v b => eqGuard_plain (by simp) (by simp)
  unfold evBin at h
  split at h
  · -- shifts
    rename_i hsh
    have fin : ∀ (k k' : IntKind) (a b r : Int) (mk : IntKind → Int → SV), (∀ v, InR k v → V E (mk k v) (.int k v)) → x = .int k a → y = .int k' b → InR k a → shifts op k a b = some r → some { Eff.pure (mk k r) with needs := [decide (0 ≤ b)] } = some e →
        ∃ v, (do eqGuard op t ox oy x y; binOp op t x y : Sem Value).run cx.P w = .ok v w ∧ V E e.v v ∧ e.Quiet := by
      intro k k' a b r mk hmk hx hy hr hs h
      subst hx hy
      cases h
      have hb : 0 ≤ b := by simpa using hnd (decide (0 ≤ b)) (by simp)
      obtain ⟨q1, q2⟩ := evShift_ok (cx := cx) (w := w) (t := t) (k' := k') hs hr hmk hb
      exact ⟨_, by simp [guard, q1], q2, ⟨rfl, rfl, rfl, rfl⟩⟩
    split at h <;> try (cases h; done)
    all_goals
      split at h <;> try (cases h; done)
      simp only [V] at hx hy
    · exact fin _ _ _ _ _ _ (mkn _) hx.1 hy.1 hx.2 (by assumption) h
    · exact fin _ _ _ _ _ _ (mki _) hx.1 hy.1 hx.2 (by assumption) h
    · exact fin _ _ _ _ _ _ (mki _) hx.1 hy.1 hx.2 (by assumption) h
    · exact fin _ _ _ _ _ _ (mki _) hx.1 hy.1 hx.2 (by assumption) h
  · rename_i hsh
    have ints : ∀ (k k' : IntKind) (a b : Int) (mk : IntKind → Int → SV) (mb : Bool → SV), (∀ v, InR k v → V E (mk k v) (.int k v)) → (∀ q, V E (mb q) (.bool q)) → x = .int k a → y = .int k' b → InR k a →
        (bif kindB k k' then evInts op k a b mk mb else none) = some e → ∃ v, (do eqGuard op t ox oy x y; binOp op t x y : Sem Value).run cx.P w = .ok v w ∧ V E e.v v ∧ e.Quiet := by
      intro k k' a b mk mb hmk hmb hx hy hr h
      obtain ⟨hk, hk2⟩ := cond_none h
      clear h
      have hkk := kindB_eq hk
      subst hkk hx hy
      obtain ⟨v, q1, q2, q3⟩ := evInts_ok (cx := cx) (w := w) (t := t) hk2 hsh hr hmk hmb hnd
      exact ⟨v, by simp [guard, q1], q2, q3⟩
    have bools : ∀ (a b : Bool) (mb : Bool → SV), (∀ q, V E (mb q) (.bool q)) → x = .bool a → y = .bool b → evBools cx op t a b mb = some e → ∃ v, (do eqGuard op t ox oy x y; binOp op t x y : Sem Value).run cx.P w = .ok v w ∧ V E e.v v ∧ e.Quiet := by
      intro a b mb hmb hx hy h
      subst hx hy
      unfold evBools at h
      have g : (eqGuard op t ox oy (.bool a) (.bool b)).run cx.P w = .ok () w := eqGuard_plain (by simp) (by simp)
      split at h <;> try (cases h; done)
      rename_i hu
      split at h <;> try (cases h; done)
      all_goals cases h
      · exact ⟨.bool (a == b), run_eql_of g (run_equal_bool hu) rfl, hmb _, ⟨rfl, rfl, rfl, rfl⟩⟩
      · exact ⟨.bool (!(a == b)), run_neq_of g (run_equal_bool hu) rfl, hmb _, ⟨rfl, rfl, rfl, rfl⟩⟩
    split at h
    · simp only [V] at hx hy; exact ints _ _ _ _ _ _ (mkn _) mkk hx.1 hy.1 hx.2 h
    · simp only [V] at hx hy; exact ints _ _ _ _ _ _ (mki _) mkb hx.1 hy.1 hx.2 h
    · simp only [V] at hx hy; exact ints _ _ _ _ _ _ (mki _) mkb hx.1 hy.1 hx.2 h
    · simp only [V] at hx hy; exact ints _ _ _ _ _ _ (mki _) mkb hx.1 hy.1 hx.2 h
    · rename_i xs ys
      obtain ⟨hc, h⟩ := cond_none h
      simp only [Bool.and_eq_true] at hc
      obtain ⟨ht, hn⟩ := hc
      split at hn <;> try (cases hn; done)
      rename_i n hsz
      have hn := Nat.eq_of_beq_eq_true hn
      split at h <;> try (cases h; done)
      rename_i r hr
      simp only [V] at hx hy
      obtain ⟨us, rfl, hus⟩ := hx
      obtain ⟨vs, rfl, hvs⟩ := hy
      obtain ⟨q1, q2⟩ := heq t ht us vs r w (eqCells_ok hr hus hvs) (by rw [hus.length, hn]; exact hsz)
      have g : (eqGuard op t ox oy (.agg us.toArray) (.agg vs.toArray)).run cx.P w = .ok () w := by
        cases op <;> simp [eqGuard, q1]
      split at h <;> try (cases h; done)
      all_goals cases h
      · exact ⟨.bool r, run_eql_of g q2 rfl, mkb _, ⟨rfl, rfl, rfl, rfl⟩⟩
      · exact ⟨.bool (!r), run_neq_of g q2 rfl, mkb _, ⟨rfl, rfl, rfl, rfl⟩⟩
    · rename_i a b; simp only [V] at hx hy; exact bools a b .kb mkk hx hy h
    · rename_i a b; simp only [V] at hx hy; exact bools a b .b mkb hx hy h
    · rename_i a b; simp only [V] at hx hy; exact bools a b .b mkb hx hy h
    · rename_i a b; simp only [V] at hx hy; exact bools a b .b mkb hx hy h
    · simp only [V] at hx hy
      obtain ⟨fs, cs, rfl, _⟩ := hx
      subst hy
      have g : ∀ f b, (eqGuard op t ox oy (.func f fs.toArray cs.toArray) b).run cx.P w = .ok () w := fun f b => eqGuard_plain (by simp) (by simp)
      split at h <;> try (cases h; done)
      rename_i hu
      split at h <;> try (cases h; done)
      all_goals cases h
      · exact ⟨.bool false, run_eql_of (g _ _) (run_equal_func hu) rfl, mkk _, ⟨rfl, rfl, rfl, rfl⟩⟩
      · exact ⟨.bool true, run_neq_of (g _ _) (run_equal_func hu) rfl, mkk _, ⟨rfl, rfl, rfl, rfl⟩⟩
    · simp only [V] at hx hy
      subst hx hy
      have g : ∀ b, (eqGuard op t ox oy .nilFunc b).run cx.P w = .ok () w := fun b => eqGuard_plain (by simp) (by simp)
      split at h <;> try (cases h; done)
      rename_i hu
      split at h <;> try (cases h; done)
      all_goals cases h
      · exact ⟨.bool true, run_eql_of (g _) (run_equal_nils hu) rfl, mkk _, ⟨rfl, rfl, rfl, rfl⟩⟩
      · exact ⟨.bool false, run_neq_of (g _) (run_equal_nils hu) rfl, mkk _, ⟨rfl, rfl, rfl, rfl⟩⟩
    · cases h

theorem evBinR_ok (heq : EqOk cx) (hm : MemR W0 E s.M s.R w) {op : BinOp} {t : TypeId} {sx sy : SV} {e : Eff} (h : evBinR cx s op t sx sy = some e) (hnd : AllT e.needs) {x y : Value} (hx : V E sx x) (hy : V E sy y) (ox oy : Operand) :
    ∃ v, (do eqGuard op t ox oy x y; binOp op t x y : Sem Value).run cx.P w = .ok v w ∧ V E e.v v ∧ e.Quiet := by
  unfold evBinR at h
  split at h
  · simp only [V] at hy
    subst hy
    exact evNil_ok hm h hnd hx ox oy
  · exact evBin_ok heq h hnd hx hy ox oy
end
end Go.Sx
