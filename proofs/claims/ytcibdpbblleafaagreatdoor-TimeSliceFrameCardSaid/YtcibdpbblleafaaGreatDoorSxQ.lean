/-
  A symbolic executor for the bodies of Go functions: pieces of a body one after the other, loops by an invariant, a state written anew.
  Conditions: none; lemmas that lead from pieces to bodies.
-/
import Derived.Test.YtcibdpbblleafaaGreatDoorSxP
import Derived.Scope
import Derived.LoopN
namespace Go.Sx
open Go Go.RowKit

/-- The environment goes on: the same blocks stay as they were. -/
structure Env.On (E F : Env) : Prop where
  ph : F.ph = E.ph
  pw : F.pw = E.pw

theorem Env.On.refl (E : Env) : E.On E := ⟨rfl, rfl⟩
theorem Env.On.trans {E F G : Env} (h : E.On F) (k : F.On G) : E.On G := ⟨k.ph.trans h.ph, k.pw.trans h.pw⟩
theorem Env.Le.on {E F : Env} (h : E.Le F) : E.On F := ⟨h.ph, h.pw⟩

/-- What a piece of code does from a symbolic state on. -/
def Goes (en : Eng) (c : Code) (s : AS) (post : Ex → AS → Prop) : Prop :=
  ∀ (W0 : World) (E : Env) (a : Act) (w : World), GlobOk en.cx W0 → St W0 E s a w →
    c.wp en.cx.P (fun e a' w' => ∃ ex s' E', e = exitOf ex ∧ E.On E' ∧ St W0 E' s' a' w' ∧ post ex s') a w

def AfterBlock (id : Nat) (post : Ex → AS → Prop) : Ex → AS → Prop
  | .normal, s => post .normal s
  | .ret, s => post .ret s
  | .exit j, s => (j = id → post .normal s) ∧ (j ≠ id → post (.exit j) s)

/-- One state may be looked at as another. -/
def Turns (s t : AS) : Prop := ∀ (W0 : World) (E : Env) (a : Act) (w : World), St W0 E s a w → ∃ E', E.On E' ∧ St W0 E' t a w

section
variable {en : Eng} {c d : Code} {s : AS} {post mid : Ex → AS → Prop}

theorem Goes.mono (h : Goes en c s mid) (k : ∀ e s', mid e s' → post e s') : Goes en c s post := fun W0 E a w hg hs =>
  wp_mono (h W0 E a w hg hs) fun _ _ _ ⟨ex, s', E', h1, h2, h3, h4⟩ => ⟨ex, s', E', h1, h2, h3, k ex s' h4⟩

theorem Goes.seq (h : Goes en c s mid) (n : ∀ s', mid .normal s' → Goes en d s' post) (x : ∀ e s', e ≠ .normal → mid e s' → post e s') : Goes en (.seq c d) s post := fun W0 E a w hg hs =>
  wp_seq (wp_mono (h W0 E a w hg hs) fun e a' w' ⟨ex, s', E', h1, h2, h3, h4⟩ => by
    subst h1
    cases ex with
    | normal => exact wp_mono (n s' h4 W0 E' a' w' hg h3) fun _ _ _ ⟨ex2, s2, E2, k1, k2, k3, k4⟩ => ⟨ex2, s2, E2, k1, h2.trans k2, k3, k4⟩
    | exit id => exact ⟨.exit id, s', E', rfl, h2, h3, x _ _ (by intro h; cases h) h4⟩
    | ret => exact ⟨.ret, s', E', rfl, h2, h3, x _ _ (by intro h; cases h) h4⟩)

theorem Goes.block {id : Nat} (h : Goes en c s (AfterBlock id post)) : Goes en (.block id c) s post := fun W0 E a w hg hs =>
  wp_block (wp_mono (h W0 E a w hg hs) fun e a' w' ⟨ex, s', E', h1, h2, h3, h4⟩ => by
    subst h1
    cases ex with
    | normal => exact ⟨.normal, s', E', rfl, h2, h3, h4⟩
    | ret => exact ⟨.ret, s', E', rfl, h2, h3, h4⟩
    | exit j =>
      simp only [exitOf, Exit.inBlock]
      by_cases hj : j = id
      · rw [if_pos hj]; exact ⟨.normal, s', E', rfl, h2, h3, h4.1 hj⟩
      · rw [if_neg hj]; exact ⟨.exit j, s', E', rfl, h2, h3, h4.2 hj⟩)

theorem Goes.scope (h : Goes en c s post) : Goes en (.scope c) s post := fun W0 E a w hg hs =>
  wp_scope_straight (wp_mono (h W0 E a w hg hs) fun e a' w' ⟨ex, s', E', h1, h2, h3, h4⟩ => by
    subst h1
    cases ex <;> exact ⟨_, s', E', rfl, h2, h3, h4⟩)

theorem Goes.turn {t : AS} (ht : Turns s t) (h : Goes en c t post) : Goes en c s post := fun W0 E a w hg hs => by
  obtain ⟨E', h1, h2⟩ := ht W0 E a w hs
  exact wp_mono (h W0 E' a w hg h2) fun _ _ _ ⟨ex, s', E2, k1, k2, k3, k4⟩ => ⟨ex, s', E2, k1, h1.trans k2, k3, k4⟩

theorem Goes.done (h : post .normal s) : Goes en .skip s post := fun _ E _ _ _ hs =>
  wp_skip ⟨.normal, s, E, rfl, .refl E, hs, h⟩

/-- A piece that the engine runs. -/
theorem Goes.run {α : Type} {p : α → Prop} {obs : Ex → AS → α} {f : Nat} (hen : EngOk en) (hl : ∀ g S, en.summ g = some S → SummLoc S) (h : (sx en f c s fun e s' => .leaf (obs e s')).Holds p) (k : ∀ e s', p (obs e s') → post e s') : Goes en c s post :=
  fun _ E a w hg hs => sx_sound hen hl hg f c s _ E a w _ hs h fun e s' E' _ _ hle hs' hk => ⟨e, s', E', rfl, hle.on, hs', k e s' hk⟩

/-- A loop: what holds of the state ahead of each round, and a number that every round lowers. -/
theorem Goes.loop {X : Type} (st : X → AS) (I : X → Prop) (μ : X → Nat)
    (body : ∀ x, I x → Goes en c (st x) fun e s' => match e with
      | .normal => ∃ x', I x' ∧ μ x' < μ x ∧ Turns s' (st x')
      | e => post e s') (x : X) (hx : I x) : Goes en (.loop c) (st x) post := fun W0 E a w hg hs => by
  have key : ∀ (n : Nat) (x : X) (E1 : Env) (a : Act) (w : World), μ x < n → I x → E.On E1 → St W0 E1 (st x) a w →
      Code.rounds en.cx.P c (fun e a' w' => ∃ ex s' E', e = exitOf ex ∧ E.On E' ∧ St W0 E' s' a' w' ∧ post ex s') n a w := by
    intro n
    induction n with
    | zero => intro x E1 a w h; omega
    | succ n ih =>
      intro x E1 a w hlt hx hon hs
      rw [rounds_succ]
      refine wp_mono (body x hx W0 E1 a w hg hs) fun e a' w' ⟨ex, s', E', h1, h2, h3, h4⟩ => ?_
      subst h1
      cases ex with
      | normal =>
        obtain ⟨x', hx', hlt', ht⟩ := h4
        obtain ⟨E2, k1, k2⟩ := ht W0 E' a' w' h3
        exact ih x' E2 a' w' (by omega) hx' ((hon.trans h2).trans k1) k2
      | exit id => exact ⟨.exit id, s', E', rfl, hon.trans h2, h3, h4⟩
      | ret => exact ⟨.ret, s', E', rfl, hon.trans h2, h3, h4⟩
  exact wp_loop_rounds (μ x + 1) (key _ x E a w (by omega) hx (.refl E) hs)
end

/-! ### A state written anew -/
/-- A state by what its temporaries and the blocks that some of them point at hold. -/
structure Cn where
  nT : Nat
  ts : List (Nat × CD)
  bs : List (Nat × TypeId × List CD)

def tsT : List (Nat × CD) → Nat → Nat → Option SV
  | [], _, _ => none
  | (i, c) :: l, n, j => bif Nat.beq i j then (match encL [c] n with | [v] => some v | _ => none) else tsT l (n + (rowsL [c]).length) j

def bsT : List (Nat × TypeId × List CD) → Nat → Nat → Option SV
  | [], _, _ => none
  | (i, _, _) :: l, id, j => bif Nat.beq i j then some (.p id 0) else bsT l (id + 1) j

def bsM : List (Nat × TypeId × List CD) → Nat → Nat → Nat → Option Blk
  | [], _, _, _ => none
  | (_, ty, cs) :: l, id, n, q => bif Nat.beq id q then some (.cells ty (encL cs n)) else bsM l (id + 1) (n + (rowsL cs).length) q

def tsR : List (Nat × CD) → List RowC
  | [] => []
  | (_, c) :: l => rowsL [c] ++ tsR l

def bsR : List (Nat × TypeId × List CD) → List RowC
  | [] => []
  | (_, _, cs) :: l => rowsL cs ++ bsR l

def Cn.rows (c : Cn) : List RowC := tsR c.ts ++ bsR c.bs

def Cn.as (c : Cn) : AS :=
  { T := fun j => match tsT c.ts 0 j with
      | some v => v
      | none => (match bsT c.bs foreign j with | some v => v | none => .xx)
    M := bsM c.bs foreign (tsR c.ts).length
    R := fun i => match c.rows[i]? with | some r => some ⟨r, false⟩ | none => none
    nM := foreign + c.bs.length
    nR := c.rows.length
    nT := c.nT }

/-- The state's temporaries, read. -/
def decTs (s : AS) : List (Nat × Kd) → Option (List (Nat × CD))
  | [] => some []
  | (i, k) :: l => match decC s.R k (s.T i) with
    | some c => (match decTs s l with | some cs => some ((i, c) :: cs) | none => none)
    | none => none

/-- The blocks, read; 'used': those that have been met. -/
def decBs (s : AS) : List (Nat × List Kd) → List Nat → Option (List (Nat × TypeId × List CD))
  | [], _ => some []
  | (i, ks) :: l, used => match s.T i with
    | .p id 0 => bif Nat.ble foreign id && !(used.any fun q => Nat.beq q id) then (match s.M id with
      | some (.cells ty cs) => (match decL s.R ks cs with
        | some cds => (match decBs s l (id :: used) with | some r => some ((i, ty, cds) :: r) | none => none)
        | none => none)
      | _ => none) else none
    | _ => none

structure CnK where
  ts : List (Nat × Kd)
  bs : List (Nat × List Kd)

def CnK.dec (K : CnK) (s : AS) : Option Cn :=
  match decTs s K.ts, decBs s K.bs [] with
  | some ts, some bs => some ⟨s.nT, ts, bs⟩
  | _, _ => none

section
variable {W0 : World} {E : Env} {s : AS} {a : Act} {w : World}

/-- The temporaries stand for the same values under any environment that names their rows. -/
theorem decTs_V (hs : St W0 E s a w) : ∀ {l : List (Nat × Kd)} {ts : List (Nat × CD)}, decTs s l = some ts →
    ∃ vals, RowsAt w (Bad E) vals (tsR ts) ∧ ∀ F n, Named F n vals → ∀ j v, tsT ts n j = some v → V F v (a.tmps.getD j undef)
  | [], ts, h => by
    simp only [decTs, Option.some.injEq] at h; subst h
    exact ⟨[], rfl, fun F n _ j v hv => by simp [tsT] at hv⟩
  | (i, k) :: l, ts, h => by
    simp only [decTs] at h
    split at h <;> try (cases h; done)
    rename_i c hc
    split at h <;> try (cases h; done)
    rename_i cs hcs
    cases h
    obtain ⟨va, h1, h2⟩ := decC_V hs.mem hc (hs.tmps i)
    obtain ⟨vb, k1, k2⟩ := decTs_V hs hcs
    refine ⟨va ++ vb, h1.append k1, fun F n hn j v hv => ?_⟩
    simp only [tsT] at hv
    cases hij : Nat.beq i j with
    | true =>
      rw [hij] at hv
      have := Nat.eq_of_beq_eq_true hij
      subst this
      have h3 := h2 F n hn.left
      simp only [cond_true] at hv
      split at hv <;> try (cases hv; done)
      rename_i v' hv'
      cases hv
      rw [hv'] at h3
      exact (VL.cons'.1 h3).1
    | false =>
      rw [hij] at hv
      simp only [cond_false] at hv
      rw [← h1.length] at hv
      exact k2 F _ hn.right j v hv

/-- The blocks: which they are, and what they hold under any environment that names their rows. -/
theorem decBs_V (hs : St W0 E s a w) : ∀ {l : List (Nat × List Kd)} {used : List Nat} {bs : List (Nat × TypeId × List CD)}, decBs s l used = some bs →
    ∃ (vals : List Value) (ids : List Nat) (blks : List Nat), RowsAt w (Bad E) vals (bsR bs) ∧ ids.length = bs.length ∧ blks.length = bs.length ∧ ids.Nodup ∧ (∀ q ∈ ids, q ∉ used ∧ foreign ≤ q) ∧
      (∀ (i : Nat) q b, ids[i]? = some q → blks[i]? = some b → E.ρ q = some b) ∧
      (∀ id0 j v, bsT bs id0 j = some v → ∃ (i : Nat) (b : Nat), blks[i]? = some b ∧ v = .p (id0 + i) 0 ∧ a.tmps.getD j undef = .pointer (some ⟨b, 0, none⟩)) ∧
      (∀ F n, Named F n vals → ∀ id0 q k, bsM bs id0 n q = some k → ∃ (i : Nat) (b : Nat), q = id0 + i ∧ blks[i]? = some b ∧ BlkOk F w b k)
  | [], used, bs, h => by
    simp only [decBs, Option.some.injEq] at h; subst h
    exact ⟨[], [], [], rfl, rfl, rfl, List.nodup_nil, by simp, by simp, fun _ j v hv => by simp [bsT] at hv, fun F n _ id0 q k hk => by simp [bsM] at hk⟩
  | (i, ks) :: l, used, bs, h => by
    simp only [decBs] at h
    split at h <;> try (cases h; done)
    rename_i id hT
    obtain ⟨hid, h⟩ := cond_none h
    simp only [Bool.and_eq_true, Bool.not_eq_true'] at hid
    have hfor := Nat.le_of_ble_eq_true hid.1
    have hnu : id ∉ used := by
      intro hm
      have := hid.2
      rw [List.any_eq_false] at this
      exact this id hm (Nat.beq_refl id)
    split at h <;> try (cases h; done)
    rename_i ty cs hM
    split at h <;> try (cases h; done)
    rename_i cds hcds
    split at h <;> try (cases h; done)
    rename_i r hr
    cases h
    have hv := hs.tmps i
    rw [hT] at hv
    simp only [V] at hv
    obtain ⟨b, hb, hbv⟩ := hv
    obtain ⟨vs, c1, c2⟩ := blk_cell hs.mem hM hb
    obtain ⟨va, h1, h2⟩ := decL_V hs.mem hcds c2
    obtain ⟨vb, ids, blks, k1, k2, k3, k4, k5, k6, k7, k8⟩ := decBs_V hs hr
    refine ⟨va ++ vb, id :: ids, b :: blks, h1.append k1, by simp [k2], by simp [k3], ?_, ?_, ?_, ?_, ?_⟩
    · refine List.nodup_cons.2 ⟨fun hm => (k5 id hm).1 (by simp), k4⟩
    · intro q hq
      cases hq with
      | head => exact ⟨hnu, hfor⟩
      | tail _ hm => exact ⟨fun hu => (k5 q hm).1 (List.mem_cons_of_mem _ hu), (k5 q hm).2⟩
    · intro j q c hq hc
      cases j with
      | zero => simp at hq hc; subst hq hc; exact hb
      | succ j => exact k6 j q c (by simpa using hq) (by simpa using hc)
    · intro id0 j v hv
      simp only [bsT] at hv
      cases hij : Nat.beq i j with
      | true =>
        rw [hij] at hv
        cases hv
        have := Nat.eq_of_beq_eq_true hij
        subst this
        exact ⟨0, b, rfl, by simp, hbv⟩
      | false =>
        rw [hij] at hv
        simp only [cond_false] at hv
        obtain ⟨m, c, g1, g2, g3⟩ := k7 (id0 + 1) j v hv
        exact ⟨m + 1, c, by simpa using g1, by rw [g2]; congr 1; omega, g3⟩
    · intro F n hn id0 q k hk
      simp only [bsM] at hk
      cases hij : Nat.beq id0 q with
      | true =>
        rw [hij] at hk
        cases hk
        have := Nat.eq_of_beq_eq_true hij
        subst this
        exact ⟨0, b, by simp, rfl, vs, c1, h2 F n hn.left⟩
      | false =>
        rw [hij] at hk
        simp only [cond_false] at hk
        rw [← h1.length] at hk
        obtain ⟨m, c, g1, g2, g3⟩ := k8 F _ hn.right (id0 + 1) q k hk
        exact ⟨m + 1, c, by omega, by simpa using g2, g3⟩

/-- A state written anew is the same state. -/
theorem CnK.turns {K : CnK} {s : AS} {c : Cn} (h : K.dec s = some c) : Turns s c.as := by
  intro W0 E a w hs
  unfold CnK.dec at h
  split at h <;> try (cases h; done)
  rename_i ts bs hts hbs
  cases h
  obtain ⟨va, h1, h2⟩ := decTs_V hs hts
  obtain ⟨vb, ids, blks, k1, k2, k3, k4, k5, k6, k7, k8⟩ := decBs_V hs hbs
  let F : Env := { ρ := fun q => bif Nat.ble foreign q then blks[q - foreign]? else none, σ := fun r => (va ++ vb)[r]?, ph := E.ph, pw := E.pw }
  have hn : Named F 0 (va ++ vb) := fun i v hi => by simpa [F] using hi
  have hnb : Named F (tsR ts).length vb := by
    have := hn.right
    rw [h1.length, Nat.zero_add] at this
    exact this
  have hρ : ∀ {q b}, F.ρ q = some b → ∃ i p, q = foreign + i ∧ blks[i]? = some b ∧ ids[i]? = some p ∧ E.ρ p = some b ∧ foreign ≤ p := by
    intro q b hq
    simp only [F] at hq
    cases h0 : Nat.ble foreign q with
    | false => rw [h0] at hq; cases hq
    | true =>
      rw [h0] at hq
      simp only [cond_true] at hq
      have hle := Nat.le_of_ble_eq_true h0
      have hlt : q - foreign < ids.length := by
        have := (List.getElem?_eq_some_iff.1 hq).1
        omega
      exact ⟨q - foreign, ids[q - foreign], by omega, hq, List.getElem?_eq_getElem hlt, k6 _ _ _ (List.getElem?_eq_getElem hlt) hq, (k5 _ (List.getElem_mem hlt)).2⟩
  have hFρ : ∀ {i b}, blks[i]? = some b → F.ρ (foreign + i) = some b := by
    intro i b hb
    simp only [F]
    rw [show Nat.ble foreign (foreign + i) = true from Nat.ble_eq_true_of_le (by omega), cond_true, Nat.add_sub_cancel_left]
    exact hb
  have hrows : RowsAt w (Bad E) (va ++ vb) (tsR ts ++ bsR bs) := h1.append k1
  have hm := hs.mem
  refine ⟨F, ⟨rfl, rfl⟩, ?_, hs.nT, hs.defers, ⟨hm.below, ?_, ?_, ?_, ?_, hm.ph, ?_, hm.still⟩, ?_, ?_⟩
  · intro j
    simp only [Cn.as]
    split
    · rename_i v hv
      exact h2 F 0 hn.left j v hv
    · split
      · rename_i v hv
        obtain ⟨i, b, g1, rfl, g3⟩ := k7 foreign j v hv
        rw [g3]
        simp only [V]
        exact ⟨b, hFρ g1, rfl⟩
      · simp only [V]
  · intro i j b hi hj
    obtain ⟨i', p, rfl, hi1, hi2, hi3, _⟩ := hρ hi
    obtain ⟨j', q, rfl, hj1, hj2, hj3, _⟩ := hρ hj
    have hpq := hm.inj hi3 hj3
    subst hpq
    have hil := (List.getElem?_eq_some_iff.1 hi2).1
    have := (List.getElem?_inj hil k4).1 (hi2.trans hj2.symm)
    omega
  · intro i b hi
    obtain ⟨i', p, rfl, _, _, hi3, hp⟩ := hρ hi
    exact ⟨fun _ => (hm.own hi3).1 hp, (hm.own hi3).2⟩
  · intro q k hk
    simp only [Cn.as] at hk
    obtain ⟨i, b, rfl, g2, g3⟩ := k8 F _ hnb foreign q k hk
    exact ⟨b, hFρ g2, g3⟩
  · intro r e hr
    simp only [Cn.as, Cn.rows] at hr
    split at hr <;> try (cases hr; done)
    rename_i x hx
    cases hr
    obtain ⟨v, g1, g2, g3⟩ := hrows.get hx
    refine ⟨v, g1, g2, fun b hb => ⟨fun hp => g3 b hb (.inl hp), fun id hid => ?_⟩, fun ho => by cases ho⟩
    obtain ⟨i', p, rfl, _, _, hi3, _⟩ := hρ hid
    exact g3 b hb (.inr ⟨p, hi3⟩)
  · intro i b hi
    obtain ⟨i', p, rfl, _, _, hi3, _⟩ := hρ hi
    exact hm.sep hi3
  · intro i hi
    simp only [Cn.as] at hi
    cases h0 : F.ρ i with
    | none => rfl
    | some b =>
      obtain ⟨i', p, rfl, hi1, _⟩ := hρ h0
      have := (List.getElem?_eq_some_iff.1 hi1).1
      omega
  · intro r hr
    simp only [Cn.as, Cn.rows] at hr
    simp only [F]
    refine List.getElem?_eq_none ?_
    have := hrows.length
    omega
end

/-! ### Whole functions -/
/-- What a function gives on arguments that are looked at by themselves. -/
def Gives (cx : Cx) (g : FuncId) (xs : List SV) (s : AS) (rs : List Sig) (res : List Arg) : Prop :=
  ∀ (W0 : World) (E : Env) (w : World) (vs : List Value), GlobOk cx W0 → VL E xs vs → MemR W0 E s.M s.R w → Fresh E s.nM s.nR →
    Calls cx.P g vs.toArray w fun
      | .returned v, w' => ∃ sv s' E', E.On E' ∧ V E' sv v ∧ MemR W0 E' s'.M s'.R w' ∧ obsRes rs sv s' = some res
      | _, _ => False

theorem Says.gives {en : Eng} (hen : EngOk en) (hl : ∀ g S, en.summ g = some S → SummLoc S) {fuel : Nat} {g : FuncId} {xs : List SV} {s : AS} {rs : List Sig} {res : List Arg} (h : Says (runFn en fuel g xs s (obsRes rs)) (· = some res)) : Gives en.cx g xs s rs res :=
  fun W0 E w vs hg hvs hm hfr => Calls.mono (runFn_says hen hl hg h hvs hm hfr) fun e w' hh => by
    cases e with
    | panicked => exact hh.elim
    | outgrown => exact hh.elim
    | returned v =>
      obtain ⟨sv, s', E', hle, h1, h2, h3⟩ := hh
      exact ⟨sv, s', E', hle.on, h1, h2, h3⟩

/-- A function by its body's pieces. -/
theorem Goes.gives {en : Eng} {g : FuncId} {fn : Func} {c : Code} {xs : List SV} {s : AS} {rs : List Sig} {res : List Arg} (hf : en.cx.P.funcs[g]? = some fn) (hb : fn.body = some c) (hlen : xs.length ≤ fn.ntmps)
    (h : Goes en c { s with T := entryT xs, nT := fn.ntmps } fun e s' => (∀ id, e ≠ .exit id) ∧ ∃ sv, resultSV en s' fn = some sv ∧ obsRes rs sv s' = some res) : Gives en.cx g xs s rs res := by
  intro W0 E w vs hg hvs hm hfr
  refine calls_of_wp hf hb (wp_mono (h W0 E _ w hg ⟨entry_tmps hvs (n := fn.ntmps), ?_, rfl, hm, hfr⟩) ?_)
  · have hl := hvs.length
    show (vs.toArray ++ Array.replicate (fn.ntmps - vs.toArray.size) undef).size = fn.ntmps
    simp; omega
  · rintro e a' w' ⟨ex, s', E', rfl, h2, h3, h4, sv, h5, h6⟩
    obtain ⟨v, k1, k2⟩ := resultSV_ok hg h3 h5
    cases ex with
    | exit id => exact absurd rfl (h4 id)
    | normal => exact ⟨h3.defers, v, k1, sv, s', E', h2, k2, h3.mem, h6⟩
    | ret => exact ⟨h3.defers, v, k1, sv, s', E', h2, k2, h3.mem, h6⟩

/-- A summary made from what a function gives. -/
theorem mkSummG_ok {cx : Cx} {g : FuncId} {gs rs : List Sig} {spec : SpecF} (run : ∀ as needs res, OkAs as → spec as = some (needs, res) → AllT needs → Gives cx g (encArgs as 0) (s0 as) rs res)
    (hbody : ∃ fn c, cx.P.funcs[g]? = some fn ∧ fn.body = some c) : SummOk cx g (mkSumm gs spec) := by
  refine ⟨hbody, ?_⟩
  intro W0 E M R w xs vs id rid e hg h hnd hvs hm hfr
  unfold mkSumm at h
  split at h <;> try (cases h; done)
  rename_i as has
  split at h <;> try (cases h; done)
  rename_i needs res hsp
  obtain ⟨hrl, h⟩ := cond_none h
  have hrl := Nat.le_of_ble_eq_true hrl
  cases h
  obtain ⟨vals, h1, h2⟩ := decArgs_V hm has hvs
  let E1 : Env := { ρ := fun _ => none, σ := fun i => vals[i]?, ph := Bad E, pw := w }
  have hE1 : Named E1 0 vals := fun i v hi => by simpa [E1] using hi
  have hv1 := h2 E1 0 hE1
  have hm1 : MemR w E1 (fun _ => none) (s0 as).R w := by
    refine ⟨Below.refl _ _, fun hi => (by cases hi), fun hi => (by cases hi), fun hi => (by cases hi), fun {r e} hr => ?_, fun b hb => ?_, fun hi => (by cases hi), fun _ _ => rfl⟩
    · simp only [s0] at hr
      split at hr <;> try (cases hr; done)
      rename_i c hc
      cases hr
      obtain ⟨v, k1, k2, k3⟩ := h1.get hc
      exact ⟨v, k1, k2, fun b hb => ⟨k3 b hb, fun id hid => by cases hid⟩, fun ho => by cases ho⟩
    · rcases hb with hb | ⟨i, hi⟩
      · exact hm.ph b hb
      · exact (hm.own hi).2
  have hfr1 : Fresh E1 (s0 as).nM (s0 as).nR := ⟨fun _ _ => rfl, fun r hr => by
    have := h1.length
    simp only [E1]
    exact List.getElem?_eq_none (by rw [this]; exact hr)⟩
  have hg1 : GlobOk cx w := by
    intro q cs hq
    obtain ⟨vs', ty, fr, k1, k2⟩ := hg q cs hq
    have hlt := (Array.getElem?_eq_some_iff.1 k1).1
    exact ⟨vs', ty, fr, (hm.below.block q hlt).trans k1, k2⟩
  refine Calls.mono (run as needs res (decArgs_ok hm has hvs) hsp hnd w E1 w vs hg1 hv1 hm1 hfr1) ?_
  intro en' w' hh
  cases en' with
  | panicked => exact hh.elim
  | outgrown => exact hh.elim
  | returned v =>
    obtain ⟨sv, s', E', hon, hv, hm', hp⟩ := hh
    obtain ⟨vals', k1, k2⟩ := decRes_V hm' hp hv
    have hgrow := hm.grow hm'.below
    have hbad : RowsAt w' (Bad E) vals' (rowsArgs res) := by
      have : ∀ (vs : List Value) (cs : List RowC), RowsAt w' (Bad E') vs cs → RowsAt w' (Bad E) vs cs := by
        intro vs
        induction vs with
        | nil => intro cs h; exact h
        | cons v vs ih =>
          rintro cs ⟨c, cs', rfl, g1, g2, g3⟩
          refine ⟨c, cs', rfl, g1, fun b hb hbad => g2 b hb (.inl ?_), ih _ g3⟩
          have : E'.ph = Bad E := hon.ph
          rw [this]; exact hbad
      exact this _ _ k1
    have hlen := hbad.length
    obtain ⟨q1, q2⟩ := MemR.addRows (n := rid) hgrow hbad (fun j hj => hfr j (by omega))
    obtain ⟨r1, r2, r3, r4⟩ := rowedL_spec vals' E rid
    refine ⟨rowedL E rid vals', q1, fun i _ => by rw [r1], fun r hr => r3 r (by omega), ?_, ?_⟩
    · exact k2 _ rid r4
    · exact q2
end Go.Sx
