/-
  A symbolic executor for the bodies of Go functions: summaries of callees, made from their trees.
  Conditions: none; a summary made so holds of the callee.
-/
import Derived.Test.YtcibdpbblleafaaGreatDoorSxO
namespace Go.Sx
open Go Go.RowKit

/-- What a cell of an argument or a result holds. -/
inductive CD where
  | int (k : IntKind) (v : Int)
  | bool (b : Bool)
  | bytes (l : List Int)
  | evs (l : List Ev)

inductive Kd where
  | int (k : IntKind)
  | bool
  | bytes
  | evs

structure Arg where
  agg : Bool
  cs : List CD

structure Sig where
  agg : Bool
  ks : List Kd

def encL : List CD → Nat → List SV
  | [], _ => []
  | .int k v :: cs, n => .i k v :: encL cs n
  | .bool b :: cs, n => .b b :: encL cs n
  | .bytes _ :: cs, n => .r n :: encL cs (n + 1)
  | .evs _ :: cs, n => .r n :: encL cs (n + 1)

def rowsL : List CD → List RowC
  | [] => []
  | .int _ _ :: cs => rowsL cs
  | .bool _ :: cs => rowsL cs
  | .bytes l :: cs => .bytes l :: rowsL cs
  | .evs l :: cs => .evs l :: rowsL cs

def encA (a : Arg) (n : Nat) : SV :=
  match a.agg, encL a.cs n with
  | true, l => .a l
  | false, [x] => x
  | false, _ => .xx

def encArgs : List Arg → Nat → List SV
  | [], _ => []
  | a :: as, n => encA a n :: encArgs as (n + (rowsL a.cs).length)

def rowsArgs : List Arg → List RowC
  | [] => []
  | a :: as => rowsL a.cs ++ rowsArgs as

def encRes (as : List Arg) (n : Nat) : SV :=
  match as with
  | [a] => encA a n
  | as => .t (encArgs as n)

def decC (R : Nat → Option RowE) : Kd → SV → Option CD
  | .int k, .n k' v => bif kindB k k' then some (.int k v) else none
  | .int k, .i k' v => bif kindB k k' then some (.int k v) else none
  | .bool, .kb b => some (.bool b)
  | .bool, .b b => some (.bool b)
  | .bytes, .nsl => some (.bytes [])
  | .evs, .nsl => some (.evs [])
  | .bytes, .r q => (match R q with | some e => (match e.c with | .bytes l => some (.bytes l) | _ => none) | none => none)
  | .evs, .r q => (match R q with | some e => (match e.c with | .evs l => some (.evs l) | _ => none) | none => none)
  | _, _ => none

def decL (R : Nat → Option RowE) : List Kd → List SV → Option (List CD)
  | [], [] => some []
  | k :: ks, s :: ss => (match decC R k s with
    | some c => (match decL R ks ss with | some cs => some (c :: cs) | none => none)
    | none => none)
  | _, _ => none

def decA (R : Nat → Option RowE) (g : Sig) (s : SV) : Option Arg :=
  match g.agg, s with
  | true, .a ss => (match decL R g.ks ss with | some cs => some ⟨true, cs⟩ | none => none)
  | false, s => (match decL R g.ks [s] with | some cs => some ⟨false, cs⟩ | none => none)
  | _, _ => none

def decArgs (R : Nat → Option RowE) : List Sig → List SV → Option (List Arg)
  | [], [] => some []
  | g :: gs, s :: ss => (match decA R g s with
    | some a => (match decArgs R gs ss with | some as => some (a :: as) | none => none)
    | none => none)
  | _, _ => none

def decRes (R : Nat → Option RowE) (gs : List Sig) (s : SV) : Option (List Arg) :=
  match gs with
  | [g] => (match decA R g s with | some a => some [a] | none => none)
  | gs => (match s with | .t ss => decArgs R gs ss | _ => none)

def idsL : List SV → List Nat
  | [] => []
  | .r q :: ss => q :: idsL ss
  | _ :: ss => idsL ss

def idsArgs : List SV → List Nat
  | [] => []
  | .a cs :: ss => idsL cs ++ idsArgs ss
  | .r q :: ss => q :: idsArgs ss
  | _ :: ss => idsArgs ss

/-- A function of cells for a summary: the needs and the results. -/
abbrev SpecF := List Arg → Option (List Bool × List Arg)

def mkSumm (gs : List Sig) (spec : SpecF) : Summ := fun xs _ R rid =>
  match decArgs R gs xs with
  | some as => (match spec as with
    | some (needs, res) => bif Nat.ble (rowsArgs res).length rowsEach then
        some { v := encRes res rid, needs, rd := [], rdR := idsArgs xs, wr := [], nb := none, nr := (rowsArgs res).map (⟨·, false⟩), only := none }
      else none
    | none => none)
  | none => none

/-- The state in which a callee is looked at by itself. -/
def s0 (as : List Arg) : AS :=
  { T := fun _ => .u, M := fun _ => none, R := fun i => match (rowsArgs as)[i]? with | some c => some ⟨c, false⟩ | none => none, nM := foreign, nR := (rowsArgs as).length, nT := 0 }

def obsRes (gs : List Sig) (sv : SV) (s : AS) : Option (List Arg) := decRes s.R gs sv

/-- A tree says of its result. -/
structure Says (t : Tree (Option (List Arg))) (p : Option (List Arg) → Prop) : Prop where
  holds : t.Holds p

/-- What a cell holds lies in its kind. -/
def CD.Ok : CD → Prop
  | .int k v => InR k v
  | .bool _ => True
  | .bytes l => (∀ v ∈ l, InR .u8 v) ∧ l.length < 4611686018427387904
  | .evs l => (∀ e ∈ l, InR .i64 e.kind ∧ InR .i64 e.at_ ∧ InR .u64 e.time) ∧ l.length < 4611686018427387904

def OkAs (l : List Arg) : Prop := ∀ a ∈ l, ∀ c ∈ a.cs, c.Ok

theorem runFn_says {en : Eng} {W0 : World} {p : Option (List Arg) → Prop} (hen : EngOk en) (hl : ∀ g S, en.summ g = some S → SummLoc S) (hg : GlobOk en.cx W0) {fuel : Nat} {g : FuncId} {xs : List SV} {s : AS} {rs : List Sig}
    (h : Says (runFn en fuel g xs s (obsRes rs)) p) {E : Env} {w : World} {vs : List Value} (hvs : VL E xs vs) (hm : MemR W0 E s.M s.R w) (hfr : Fresh E s.nM s.nR) :
    Calls en.cx.P g vs.toArray w fun
      | .returned v, w' => ∃ sv s' E', E.Le E' ∧ V E' sv v ∧ MemR W0 E' s'.M s'.R w' ∧ p (obsRes rs sv s')
      | _, _ => False := runFn_sound hen hl hg h.holds hvs hm hfr

/-! ### Decoding says what a value is -/
/-- Rows that lie nowhere where they must not. -/
def RowsAt (w : World) (bad : Nat → Prop) : List Value → List RowC → Prop
  | [], l => l = []
  | v :: vs, l => ∃ c cs, l = c :: cs ∧ RowAt w v c ∧ (∀ b, blockOf v = some b → ¬ bad b) ∧ RowsAt w bad vs cs

theorem RowsAt.append {w : World} {bad : Nat → Prop} : ∀ {vs us : List Value} {cs ds : List RowC}, RowsAt w bad vs cs → RowsAt w bad us ds → RowsAt w bad (vs ++ us) (cs ++ ds)
  | [], _, _, _, h, k => by simp only [RowsAt] at h; subst h; exact k
  | v :: vs, _, _, _, h, k => by
    obtain ⟨c, cs, rfl, h1, h2, h3⟩ := h
    exact ⟨c, _, rfl, h1, h2, RowsAt.append h3 k⟩

theorem RowsAt.length {w : World} {bad : Nat → Prop} : ∀ {vs : List Value} {cs : List RowC}, RowsAt w bad vs cs → vs.length = cs.length
  | [], _, h => by simp only [RowsAt] at h; subst h; rfl
  | v :: vs, _, h => by obtain ⟨c, cs, rfl, _, _, h3⟩ := h; simp [RowsAt.length h3]

theorem RowsAt.get {w : World} {bad : Nat → Prop} : ∀ {vs : List Value} {cs : List RowC} {i : Nat} {c : RowC}, RowsAt w bad vs cs → cs[i]? = some c → ∃ v, vs[i]? = some v ∧ RowAt w v c ∧ ∀ b, blockOf v = some b → ¬ bad b
  | [], _, i, c, h, hc => by simp only [RowsAt] at h; subst h; simp at hc
  | v :: vs, _, 0, c, h, hc => by obtain ⟨c', cs, rfl, h1, h2, _⟩ := h; simp at hc; subst hc; exact ⟨v, rfl, h1, h2⟩
  | v :: vs, _, i + 1, c, h, hc => by
    obtain ⟨c', cs, rfl, _, _, h3⟩ := h
    exact RowsAt.get (i := i) h3 (by simpa using hc)

def Bad (E : Env) (b : Nat) : Prop := E.ph b ∨ ∃ id, E.ρ id = some b

/-- The rows of 'vals' have the numbers from n on. -/
def Named (F : Env) (n : Nat) (vals : List Value) : Prop := ∀ (i : Nat) v, vals[i]? = some v → F.σ (n + i) = some v

theorem Named.tail {F : Env} {n : Nat} {v : Value} {vals : List Value} (h : Named F n (v :: vals)) : Named F (n + 1) vals := fun i u hi => by
  have := h (i + 1) u (by simpa using hi)
  rw [← this]; congr 1; omega
theorem Named.left {F : Env} {n : Nat} {a b : List Value} (h : Named F n (a ++ b)) : Named F n a := fun i u hi => h i u (by
  rw [List.getElem?_append_left (List.getElem?_eq_some_iff.1 hi).1]; exact hi)
theorem Named.right {F : Env} {n : Nat} {a b : List Value} (h : Named F n (a ++ b)) : Named F (n + a.length) b := fun i u hi => by
  have := h (a.length + i) u (by rw [List.getElem?_append_right (by omega)]; simpa using hi)
  rw [← this]; congr 1; omega

section
variable {W0 : World} {E : Env} {M : Nat → Option Blk} {R : Nat → Option RowE} {w : World}

theorem row_good (hm : MemR W0 E M R w) {q : Nat} {e : RowE} (h : R q = some e) {v : Value} (hv : E.σ q = some v) : RowAt w v e.c ∧ ∀ b, blockOf v = some b → ¬ Bad E b := by
  obtain ⟨v', h1, h2, h3, _⟩ := hm.row h
  rw [hv] at h1; cases h1
  exact ⟨h2, fun b hb hbad => hbad.elim (h3 b hb).1 fun ⟨id, hid⟩ => (h3 b hb).2 id hid⟩

theorem nilRow (w : World) (c : RowC) (h1 : c.Ok) (h2 : c.len = 0) : RowAt w (.slice none 0 0) c := by
  refine ⟨⟨h1, by omega⟩, none, 0, by rw [h2], by omega, h2, rfl⟩

theorem decC_V (hm : MemR W0 E M R w) {k : Kd} {s : SV} {c : CD} (h : decC R k s = some c) {v : Value} (hv : V E s v) :
    ∃ vals, RowsAt w (Bad E) vals (rowsL [c]) ∧ ∀ F n, Named F n vals → VL F (encL [c] n) [v] := by
  unfold decC at h
  split at h <;> try (cases h; done)
  · obtain ⟨hk, h⟩ := cond_none h
    cases h
    simp only [V] at hv
    have := kindB_eq hk
    subst this
    exact ⟨[], rfl, fun F n _ => VL.cons'.2 ⟨by simp only [V]; exact hv, VL.nil.2 rfl⟩⟩
  · obtain ⟨hk, h⟩ := cond_none h
    cases h
    simp only [V] at hv
    have := kindB_eq hk
    subst this
    exact ⟨[], rfl, fun F n _ => VL.cons'.2 ⟨by simp only [V]; exact hv, VL.nil.2 rfl⟩⟩
  · cases h
    simp only [V] at hv
    exact ⟨[], rfl, fun F n _ => VL.cons'.2 ⟨by simp only [V]; exact hv, VL.nil.2 rfl⟩⟩
  · cases h
    simp only [V] at hv
    exact ⟨[], rfl, fun F n _ => VL.cons'.2 ⟨by simp only [V]; exact hv, VL.nil.2 rfl⟩⟩
  · cases h
    simp only [V] at hv
    subst hv
    exact ⟨[.slice none 0 0], ⟨_, _, rfl, nilRow w _ (fun v hv => (by cases hv)) rfl, fun b hb => (by cases hb), rfl⟩, fun F n hn => VL.cons'.2 ⟨by
      simp only [V]; exact ⟨hn 0 _ rfl, _, _, _, rfl⟩, VL.nil.2 rfl⟩⟩
  · cases h
    simp only [V] at hv
    subst hv
    exact ⟨[.slice none 0 0], ⟨_, _, rfl, nilRow w _ (fun v hv => (by cases hv)) rfl, fun b hb => (by cases hb), rfl⟩, fun F n hn => VL.cons'.2 ⟨by
      simp only [V]; exact ⟨hn 0 _ rfl, _, _, _, rfl⟩, VL.nil.2 rfl⟩⟩
  · split at h <;> try (cases h; done)
    rename_i e hR
    split at h <;> try (cases h; done)
    rename_i l hc
    cases h
    simp only [V] at hv
    obtain ⟨g1, g2⟩ := row_good hm hR hv.1
    rw [hc] at g1
    exact ⟨[v], ⟨_, _, rfl, g1, g2, rfl⟩, fun F n hn => VL.cons'.2 ⟨by simp only [V]; exact ⟨hn 0 _ rfl, hv.2⟩, VL.nil.2 rfl⟩⟩
  · split at h <;> try (cases h; done)
    rename_i e hR
    split at h <;> try (cases h; done)
    rename_i l hc
    cases h
    simp only [V] at hv
    obtain ⟨g1, g2⟩ := row_good hm hR hv.1
    rw [hc] at g1
    exact ⟨[v], ⟨_, _, rfl, g1, g2, rfl⟩, fun F n hn => VL.cons'.2 ⟨by simp only [V]; exact ⟨hn 0 _ rfl, hv.2⟩, VL.nil.2 rfl⟩⟩

theorem rowsL_cons (c : CD) (cs : List CD) : rowsL (c :: cs) = rowsL [c] ++ rowsL cs := by cases c <;> rfl
theorem encL_cons (c : CD) (cs : List CD) (n : Nat) : encL (c :: cs) n = encL [c] n ++ encL cs (n + (rowsL [c]).length) := by cases c <;> rfl

theorem decL_V (hm : MemR W0 E M R w) : ∀ {ks : List Kd} {ss : List SV} {cs : List CD} {vs : List Value}, decL R ks ss = some cs → VL E ss vs →
    ∃ vals, RowsAt w (Bad E) vals (rowsL cs) ∧ ∀ F n, Named F n vals → VL F (encL cs n) vs
  | [], [], cs, vs, h, hv => by
    simp only [decL, Option.some.injEq] at h; subst h
    exact ⟨[], rfl, fun F n _ => by rw [VL.nil.1 hv]; exact VL.nil.2 rfl⟩
  | [], _ :: _, cs, vs, h, hv => by simp [decL] at h
  | _ :: _, [], cs, vs, h, hv => by simp [decL] at h
  | k :: ks, s :: ss, cs, vs, h, hv => by
    simp only [decL] at h
    split at h <;> try (cases h; done)
    rename_i c hc
    split at h <;> try (cases h; done)
    rename_i cs' hcs
    cases h
    obtain ⟨v, vs, rfl, h1, h2⟩ := VL.cons.1 hv
    obtain ⟨va, a1, a2⟩ := decC_V hm hc h1
    obtain ⟨vb, b1, b2⟩ := decL_V hm hcs h2
    refine ⟨va ++ vb, by rw [rowsL_cons]; exact a1.append b1, fun F n hn => ?_⟩
    rw [encL_cons, ← a1.length]
    exact VL.append (l := [v]) (a2 F n hn.left) (b2 F _ hn.right)

theorem decA_V (hm : MemR W0 E M R w) {g : Sig} {s : SV} {a : Arg} (h : decA R g s = some a) {v : Value} (hv : V E s v) :
    ∃ vals, RowsAt w (Bad E) vals (rowsL a.cs) ∧ ∀ F n, Named F n vals → V F (encA a n) v := by
  unfold decA at h
  split at h <;> try (cases h; done)
  · split at h <;> try (cases h; done)
    rename_i cs hcs
    cases h
    simp only [V] at hv
    obtain ⟨vs, rfl, hvs⟩ := hv
    obtain ⟨vals, h1, h2⟩ := decL_V hm hcs hvs
    exact ⟨vals, h1, fun F n hn => by simp only [encA, V]; exact ⟨vs, rfl, h2 F n hn⟩⟩
  · split at h <;> try (cases h; done)
    rename_i cs hcs
    cases h
    obtain ⟨vals, h1, h2⟩ := decL_V hm hcs (VL.cons'.2 ⟨hv, VL.nil.2 rfl⟩)
    refine ⟨vals, h1, fun F n hn => ?_⟩
    have := h2 F n hn
    have hl := this.length
    cases hcl : encL cs n with
    | nil => rw [hcl] at hl; simp at hl
    | cons y ys =>
      cases ys with
      | nil =>
        rw [hcl] at this
        simp only [encA, hcl]
        exact (VL.cons'.1 this).1
      | cons z zs => rw [hcl] at hl; simp at hl

theorem decArgs_V (hm : MemR W0 E M R w) : ∀ {gs : List Sig} {ss : List SV} {as : List Arg} {vs : List Value}, decArgs R gs ss = some as → VL E ss vs →
    ∃ vals, RowsAt w (Bad E) vals (rowsArgs as) ∧ ∀ F n, Named F n vals → VL F (encArgs as n) vs
  | [], [], as, vs, h, hv => by
    simp only [decArgs, Option.some.injEq] at h; subst h
    exact ⟨[], rfl, fun F n _ => by rw [VL.nil.1 hv]; exact VL.nil.2 rfl⟩
  | [], _ :: _, as, vs, h, hv => by simp [decArgs] at h
  | _ :: _, [], as, vs, h, hv => by simp [decArgs] at h
  | g :: gs, s :: ss, as, vs, h, hv => by
    simp only [decArgs] at h
    split at h <;> try (cases h; done)
    rename_i a ha
    split at h <;> try (cases h; done)
    rename_i as' has
    cases h
    obtain ⟨v, vs, rfl, h1, h2⟩ := VL.cons.1 hv
    obtain ⟨va, a1, a2⟩ := decA_V hm ha h1
    obtain ⟨vb, b1, b2⟩ := decArgs_V hm has h2
    refine ⟨va ++ vb, a1.append b1, fun F n hn => ?_⟩
    simp only [encArgs]
    rw [← a1.length]
    exact VL.cons'.2 ⟨a2 F n hn.left, b2 F _ hn.right⟩

theorem decRes_V (hm : MemR W0 E M R w) {gs : List Sig} {s : SV} {as : List Arg} (h : decRes R gs s = some as) {v : Value} (hv : V E s v) :
    ∃ vals, RowsAt w (Bad E) vals (rowsArgs as) ∧ ∀ F n, Named F n vals → V F (encRes as n) v := by
  unfold decRes at h
  split at h
  · split at h <;> try (cases h; done)
    rename_i a ha
    cases h
    obtain ⟨vals, h1, h2⟩ := decA_V hm ha hv
    exact ⟨vals, by simpa [rowsArgs] using h1, fun F n hn => h2 F n hn⟩
  · rename_i hne
    split at h <;> try (cases h; done)
    rename_i ss
    simp only [V] at hv
    obtain ⟨vs, rfl, hvs⟩ := hv
    obtain ⟨vals, h1, h2⟩ := decArgs_V hm h hvs
    refine ⟨vals, h1, fun F n hn => ?_⟩
    have : encRes as n = .t (encArgs as n) := by
      unfold encRes
      split
      · rename_i a
        exfalso
        cases gs with
        | nil => cases ss <;> simp [decArgs] at h
        | cons g gs =>
          cases gs with
          | nil => exact hne g rfl
          | cons g2 gs =>
            cases ss with
            | nil => simp [decArgs] at h
            | cons s ss =>
              simp only [decArgs] at h
              split at h <;> try (cases h; done)
              split at h <;> try (cases h; done)
              rename_i as2 has2
              cases h
              cases ss <;> simp only [decArgs] at has2
              · cases has2
              · split at has2 <;> try (cases has2; done)
                split at has2 <;> cases has2
      · rfl
    rw [this]; simp only [V]; exact ⟨vs, rfl, h2 F n hn⟩

theorem decC_ok (hm : MemR W0 E M R w) {k : Kd} {s : SV} {c : CD} (h : decC R k s = some c) {v : Value} (hv : V E s v) : c.Ok := by
  unfold decC at h
  split at h <;> try (cases h; done)
  · obtain ⟨hk, h⟩ := cond_none h
    cases h
    simp only [V] at hv
    have := kindB_eq hk
    subst this
    exact hv.2
  · obtain ⟨hk, h⟩ := cond_none h
    cases h
    simp only [V] at hv
    have := kindB_eq hk
    subst this
    exact hv.2
  · cases h; trivial
  · cases h; trivial
  · cases h; exact ⟨fun v hv => (by cases hv), by decide⟩
  · cases h; exact ⟨fun v hv => (by cases hv), by decide⟩
  · split at h <;> try (cases h; done)
    rename_i e hR
    split at h <;> try (cases h; done)
    rename_i l hc
    cases h
    simp only [V] at hv
    obtain ⟨⟨g1, _⟩, _⟩ := row_good hm hR hv.1
    rw [hc] at g1
    exact g1
  · split at h <;> try (cases h; done)
    rename_i e hR
    split at h <;> try (cases h; done)
    rename_i l hc
    cases h
    simp only [V] at hv
    obtain ⟨⟨g1, _⟩, _⟩ := row_good hm hR hv.1
    rw [hc] at g1
    exact g1

theorem decL_ok (hm : MemR W0 E M R w) : ∀ {ks : List Kd} {ss : List SV} {cs : List CD} {vs : List Value}, decL R ks ss = some cs → VL E ss vs → ∀ c ∈ cs, c.Ok
  | [], [], cs, vs, h, hv => by
    simp only [decL, Option.some.injEq] at h; subst h
    intro c hc; cases hc
  | [], _ :: _, cs, vs, h, hv => by simp [decL] at h
  | _ :: _, [], cs, vs, h, hv => by simp [decL] at h
  | k :: ks, s :: ss, cs, vs, h, hv => by
    simp only [decL] at h
    split at h <;> try (cases h; done)
    rename_i c hc
    split at h <;> try (cases h; done)
    rename_i cs' hcs
    cases h
    obtain ⟨v, vs, rfl, h1, h2⟩ := VL.cons.1 hv
    intro x hx
    cases hx with
    | head => exact decC_ok hm hc h1
    | tail _ hmem => exact decL_ok hm hcs h2 x hmem

theorem decA_ok (hm : MemR W0 E M R w) {g : Sig} {s : SV} {a : Arg} (h : decA R g s = some a) {v : Value} (hv : V E s v) : ∀ c ∈ a.cs, c.Ok := by
  unfold decA at h
  split at h <;> try (cases h; done)
  · split at h <;> try (cases h; done)
    rename_i cs hcs
    cases h
    simp only [V] at hv
    obtain ⟨vs, rfl, hvs⟩ := hv
    exact decL_ok hm hcs hvs
  · split at h <;> try (cases h; done)
    rename_i cs hcs
    cases h
    exact decL_ok hm hcs (VL.cons'.2 ⟨hv, VL.nil.2 rfl⟩)

theorem decArgs_ok (hm : MemR W0 E M R w) : ∀ {gs : List Sig} {ss : List SV} {as : List Arg} {vs : List Value}, decArgs R gs ss = some as → VL E ss vs → OkAs as
  | [], [], as, vs, h, hv => by
    simp only [decArgs, Option.some.injEq] at h; subst h
    intro c hc; cases hc
  | [], _ :: _, as, vs, h, hv => by simp [decArgs] at h
  | _ :: _, [], as, vs, h, hv => by simp [decArgs] at h
  | g :: gs, s :: ss, as, vs, h, hv => by
    simp only [decArgs] at h
    split at h <;> try (cases h; done)
    rename_i a ha
    split at h <;> try (cases h; done)
    rename_i as' has
    cases h
    obtain ⟨v, vs, rfl, h1, h2⟩ := VL.cons.1 hv
    intro x hx
    cases hx with
    | head => exact decA_ok hm ha h1
    | tail _ hmem => exact decArgs_ok hm has h2 x hmem

/-- Rows named one after the other. -/
def rowedL (E : Env) (n : Nat) : List Value → Env
  | [] => E
  | v :: vs => rowedL (E.rowed n v) (n + 1) vs

theorem rowedL_spec : ∀ (vs : List Value) (E : Env) (n : Nat), (rowedL E n vs).ρ = E.ρ ∧ (rowedL E n vs).ph = E.ph ∧ (∀ r, (r < n ∨ n + vs.length ≤ r) → (rowedL E n vs).σ r = E.σ r) ∧ Named (rowedL E n vs) n vs
  | [], E, n => ⟨rfl, rfl, fun _ _ => rfl, fun i v hi => by simp at hi⟩
  | v :: vs, E, n => by
    obtain ⟨h1, h2, h3, h4⟩ := rowedL_spec vs (E.rowed n v) (n + 1)
    refine ⟨h1, h2, fun r hr => ?_, fun i u hi => ?_⟩
    · simp only [List.length_cons] at hr
      show (rowedL (E.rowed n v) (n + 1) vs).σ r = _
      rw [h3 r (by omega), Env.rowed_other _ (by omega)]
    · show (rowedL (E.rowed n v) (n + 1) vs).σ (n + i) = _
      cases i with
      | zero =>
        simp at hi; subst hi
        have e0 := h3 n (by omega)
        rw [Env.rowed_self] at e0
        simpa using e0
      | succ i =>
        have := h4 i u (by simpa using hi)
        rw [← this]; congr 1; omega

theorem MemR.addRows {W0 : World} {M : Nat → Option Blk} {w : World} : ∀ {vs : List Value} {cs : List RowC} {E : Env} {R : Nat → Option RowE} {n : Nat}, MemR W0 E M R w → RowsAt w (Bad E) vs cs → (∀ j, j < vs.length → E.σ (n + j) = none) →
    E.Le (rowedL E n vs) ∧ MemR W0 (rowedL E n vs) M (updL R n (cs.map (⟨·, false⟩))) w
  | [], _, E, R, n, hm, h, _ => by
    simp only [RowsAt] at h; subst h
    exact ⟨.refl E, hm⟩
  | v :: vs, _, E, R, n, hm, h, hf => by
    obtain ⟨c, cs, rfl, h1, h2, h3⟩ := h
    have hf0 : E.σ n = none := by simpa using hf 0 (by simp)
    have hm' := hm.addRow hf0 (v := v) (e := ⟨c, false⟩) ⟨h1, fun b hb => ⟨fun hp => h2 b hb (.inl hp), fun id hid => h2 b hb (.inr ⟨id, hid⟩)⟩, fun ho => by cases ho⟩
    obtain ⟨q1, q2⟩ := MemR.addRows (n := n + 1) hm' h3 (fun j hj => by
      rw [Env.rowed_other _ (by omega)]
      have := hf (j + 1) (by simpa using hj)
      rw [← this]; congr 1; omega)
    exact ⟨(Env.le_rowed hf0).trans q1, q2⟩

/-- What is known of the argument number i. -/
def strong : SV → SV
  | .i k v => .n k v
  | .b b => .kb b
  | s => s

def knownAt : Nat → List SV → List SV
  | _, [] => []
  | 0, s :: ss => strong s :: ss
  | i + 1, s :: ss => s :: knownAt i ss

theorem knownAt_V {E : Env} : ∀ {i : Nat} {ss : List SV} {vs : List Value}, VL E ss vs → VL E (knownAt i ss) vs
  | 0, [], _, h => h
  | _ + 1, [], _, h => h
  | 0, s :: ss, _, h => by
    obtain ⟨v, vs, rfl, h1, h2⟩ := VL.cons.1 h
    refine VL.cons'.2 ⟨?_, h2⟩
    cases s <;> exact h1
  | i + 1, s :: ss, _, h => by
    obtain ⟨v, vs, rfl, h1, h2⟩ := VL.cons.1 h
    exact VL.cons'.2 ⟨h1, knownAt_V h2⟩

/-- A summary made from a callee's tree holds of the callee; 'kn' says more of the arguments. -/
theorem mkSummK_ok {en : Eng} (kn : List SV → List SV) (hkn : ∀ (E : Env) xs vs, VL E xs vs → VL E (kn xs) vs) (hen : EngOk en) (hl : ∀ g S, en.summ g = some S → SummLoc S) {fuel : Nat} {g : FuncId} {gs rs : List Sig} {spec : SpecF}
    (run : ∀ as needs res, OkAs as → spec as = some (needs, res) → AllT needs → Says (runFn en fuel g (kn (encArgs as 0)) (s0 as) (obsRes rs)) (· = some res)) (hbody : ∃ fn c, en.cx.P.funcs[g]? = some fn ∧ fn.body = some c) : SummOk en.cx g (mkSumm gs spec) := by
  refine ⟨hbody, ?_⟩
  intro W0 E M R w xs vs id rid e hg h hnd hvs hm hfr
  unfold mkSumm at h
  split at h <;> try (cases h; done)
  rename_i as has
  split at h <;> try (cases h; done)
  rename_i needs res hsp
  obtain ⟨hrl, h⟩ := cond_none h
  have hrl := Nat.le_of_ble_eq_true hrl
  cases h
  obtain ⟨vals, h1, h2⟩ := decArgs_V hm has hvs
  let E1 : Env := { ρ := fun _ => none, σ := fun i => vals[i]?, ph := Bad E, pw := w }
  have hE1 : Named E1 0 vals := fun i v hi => by simpa [E1] using hi
  have hv1 := hkn E1 _ _ (h2 E1 0 hE1)
  have hm1 : MemR w E1 (fun _ => none) (s0 as).R w := by
    refine ⟨Below.refl _ _, fun hi => (by cases hi), fun hi => (by cases hi), fun hi => (by cases hi), fun {r e} hr => ?_, fun b hb => ?_, fun hi => (by cases hi), fun _ _ => rfl⟩
    · simp only [s0] at hr
      split at hr <;> try (cases hr; done)
      rename_i c hc
      cases hr
      obtain ⟨v, k1, k2, k3⟩ := h1.get hc
      exact ⟨v, k1, k2, fun b hb => ⟨k3 b hb, fun id hid => by cases hid⟩, fun ho => by cases ho⟩
    · rcases hb with hb | ⟨i, hi⟩
      · exact hm.ph b hb
      · exact (hm.own hi).2
  have hfr1 : Fresh E1 (s0 as).nM (s0 as).nR := ⟨fun _ _ => rfl, fun r hr => by
    have := h1.length
    simp only [E1]
    exact List.getElem?_eq_none (by rw [this]; exact hr)⟩
  have hg1 : GlobOk en.cx w := by
    intro q cs hq
    obtain ⟨vs', ty, fr, k1, k2⟩ := hg q cs hq
    have hlt := (Array.getElem?_eq_some_iff.1 k1).1
    exact ⟨vs', ty, fr, (hm.below.block q hlt).trans k1, k2⟩
  refine Calls.mono (runFn_sound hen hl hg1 (run as needs res (decArgs_ok hm has hvs) hsp hnd).holds hv1 hm1 hfr1) ?_
  intro en' w' hh
  cases en' with
  | panicked => exact hh.elim
  | outgrown => exact hh.elim
  | returned v =>
    obtain ⟨sv, s', E', hle, hv, hm', hp⟩ := hh
    obtain ⟨vals', k1, k2⟩ := decRes_V hm' hp hv
    have hgrow := hm.grow hm'.below
    have hbad : RowsAt w' (Bad E) vals' (rowsArgs res) := by
      have : ∀ (vs : List Value) (cs : List RowC), RowsAt w' (Bad E') vs cs → RowsAt w' (Bad E) vs cs := by
        intro vs
        induction vs with
        | nil => intro cs h; exact h
        | cons v vs ih =>
          rintro cs ⟨c, cs', rfl, g1, g2, g3⟩
          refine ⟨c, cs', rfl, g1, fun b hb hbad => g2 b hb (.inl ?_), ih _ g3⟩
          have : E'.ph = Bad E := hle.ph
          rw [this]; exact hbad
      exact this _ _ k1
    have hlen := hbad.length
    obtain ⟨q1, q2⟩ := MemR.addRows (n := rid) hgrow hbad (fun j hj => hfr j (by omega))
    obtain ⟨r1, r2, r3, r4⟩ := rowedL_spec vals' E rid
    refine ⟨rowedL E rid vals', q1, fun i _ => by rw [r1], fun r hr => r3 r (by omega), ?_, ?_⟩
    · exact k2 _ rid r4
    · exact q2

theorem mkSumm_ok {en : Eng} (hen : EngOk en) (hl : ∀ g S, en.summ g = some S → SummLoc S) {fuel : Nat} {g : FuncId} {gs rs : List Sig} {spec : SpecF}
    (run : ∀ as needs res, OkAs as → spec as = some (needs, res) → AllT needs → Says (runFn en fuel g (encArgs as 0) (s0 as) (obsRes rs)) (· = some res)) (hbody : ∃ fn c, en.cx.P.funcs[g]? = some fn ∧ fn.body = some c) : SummOk en.cx g (mkSumm gs spec) :=
  mkSummK_ok id (fun _ _ _ h => h) hen hl run hbody

theorem decC_loc {R R' : Nat → Option RowE} {k : Kd} {s : SV} {c : CD} (h : decC R k s = some c) (hr : ∀ r ∈ idsL [s], R' r = R r) : decC R' k s = some c := by
  unfold decC at h ⊢
  split at h <;> try (cases h; done)
  all_goals first | exact h | (rename_i q; rw [hr q (by simp [idsL])]; exact h)

theorem idsL_cons (s : SV) (ss : List SV) : idsL (s :: ss) = idsL [s] ++ idsL ss := by cases s <;> rfl

theorem decL_loc {R R' : Nat → Option RowE} : ∀ {ks : List Kd} {ss : List SV} {cs : List CD}, decL R ks ss = some cs → (∀ r ∈ idsL ss, R' r = R r) → decL R' ks ss = some cs
  | [], [], _, h, _ => h
  | [], _ :: _, _, h, _ => by simp [decL] at h
  | _ :: _, [], _, h, _ => by simp [decL] at h
  | k :: ks, s :: ss, cs, h, hr => by
    rw [idsL_cons] at hr
    simp only [decL] at h ⊢
    split at h <;> try (cases h; done)
    rename_i c hc
    split at h <;> try (cases h; done)
    rename_i cs' hcs
    rw [decC_loc hc (fun r h => hr r (List.mem_append_left _ h)), decL_loc hcs (fun r h => hr r (List.mem_append_right _ h))]
    exact h

theorem ids_sub {s : SV} {r : Nat} (h : r ∈ idsL [s]) : r ∈ idsArgs [s] := by cases s <;> simp_all [idsArgs, idsL]

theorem decArgs_loc {R R' : Nat → Option RowE} : ∀ {gs : List Sig} {ss : List SV} {as : List Arg}, decArgs R gs ss = some as → (∀ r ∈ idsArgs ss, R' r = R r) → decArgs R' gs ss = some as
  | [], [], _, h, _ => h
  | [], _ :: _, _, h, _ => by simp [decArgs] at h
  | _ :: _, [], _, h, _ => by simp [decArgs] at h
  | g :: gs, s :: ss, as, h, hr => by
    have h1 : ∀ r ∈ idsArgs [s], R' r = R r := fun r h => hr r (by cases s <;> simp_all [idsArgs])
    have h2 : ∀ r ∈ idsArgs ss, R' r = R r := fun r h => hr r (by cases s <;> simp_all [idsArgs])
    simp only [decArgs] at h ⊢
    split at h <;> try (cases h; done)
    rename_i a ha
    split at h <;> try (cases h; done)
    rename_i as' has
    have ha' : decA R' g s = some a := by
      unfold decA at ha ⊢
      split at ha <;> try (cases ha; done)
      · split at ha <;> try (cases ha; done)
        rename_i cs hcs
        rw [decL_loc hcs (fun r h => h1 r (by simpa [idsArgs] using h))]
        exact ha
      · split at ha <;> try (cases ha; done)
        rename_i cs hcs
        rw [decL_loc hcs (fun r h => h1 r (ids_sub h))]
        exact ha
    rw [ha', decArgs_loc has h2]
    exact h

theorem mkSumm_loc (gs : List Sig) (spec : SpecF) : SummLoc (mkSumm gs spec) := by
  intro xs M M' R R' rid e h _ hr
  unfold mkSumm at h ⊢
  split at h <;> try (cases h; done)
  rename_i as has
  have h3 := h
  split at h <;> try (cases h; done)
  obtain ⟨_, h⟩ := cond_none h
  have hrd : e.rdR = idsArgs xs := by cases h; rfl
  rw [decArgs_loc has (by rw [← hrd]; exact hr)]
  exact h3
end
end Go.Sx
