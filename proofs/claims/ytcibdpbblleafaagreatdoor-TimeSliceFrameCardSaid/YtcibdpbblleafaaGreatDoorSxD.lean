/-
  A symbolic executor for the bodies of Go functions: what its memory stands for, and what an operation does to it.
  Conditions: none; lemmas about worlds.
-/
import Derived.Test.YtcibdpbblleafaaGreatDoorSxC
import Derived.Laws.CopyRow
namespace Go.Sx
open Go Go.RowKit

/-! ### Rows -/
def evCells (e : Ev) : List Value := [.int .i64 e.kind, .int .i64 e.at_, .int .u64 e.time]

def RowC.cells : RowC → List Value
  | .bytes l => l.map (Value.int .u8)
  | .evs l => l.flatMap evCells

def RowC.Ok : RowC → Prop
  | .bytes l => ∀ v ∈ l, InR .u8 v
  | .evs l => ∀ e ∈ l, InR .i64 e.kind ∧ InR .i64 e.at_ ∧ InR .u64 e.time

theorem evCells_length (l : List Ev) : (l.flatMap evCells).length = 3 * l.length := by
  induction l with
  | nil => rfl
  | cons e l ih => simp only [List.flatMap_cons, List.length_append, ih]; simp [evCells]; omega

theorem RowC.cells_length (c : RowC) : c.cells.length = c.len * c.width := by
  cases c with
  | bytes l => simp [cells, len, width]
  | evs l => simp only [cells, len, width, evCells_length]; omega

/-- A slice value that reads as a row. -/
def RowAt (w : World) (v : Value) (c : RowC) : Prop :=
  (c.Ok ∧ c.len < 4611686018427387904) ∧ ∃ a cap, v = .slice a c.len cap ∧ c.len ≤ cap ∧
    match a with
    | none => c.len = 0 ∧ cap = 0
    | some p => p.spot = none ∧ p.block < w.heap.size ∧ ∀ j u, c.cells[j]? = some u → w.cell? ⟨p.block, p.off + j, none⟩ = some u

/-- The block of a slice. -/
def blockOf : Value → Option Nat
  | .slice (some p) _ _ => some p.block
  | _ => none

/-- The block holds as many cells as the slice's capacity says. -/
def Room (v : Value) (c : RowC) (cs : Array Value) : Prop :=
  match v with
  | .slice (some p) _ cap => p.off = 0 ∧ cap * c.width ≤ cs.size
  | _ => True

def RowOk (W0 : World) (E : Env) (w : World) (v : Value) (e : RowE) : Prop :=
  RowAt w v e.c ∧ (∀ b, blockOf v = some b → ¬ E.ph b ∧ ∀ id, E.ρ id ≠ some b) ∧
  (e.own = true → ∀ b, blockOf v = some b → W0.heap.size ≤ b ∧ ∃ cs ty, w.heap[b]? = some (.cells cs ty (0, 0)) ∧ Room v e.c cs)

def MapOk (E : Env) : List (Int × SV) → List MapEntry → Prop
  | [], l => l = []
  | (k, s) :: es, l => ∃ e rest, l = e :: rest ∧ e.key = .int .i64 k ∧ V E s e.val ∧ MapOk E es rest

def BlkOk (E : Env) (w : World) (b : Nat) : Blk → Prop
  | .cells ty cs => ∃ vs : List Value, w.heap[b]? = some (.cells vs.toArray ty (0, 0)) ∧ VL E cs vs
  | .map es => ∃ (ents : List MapEntry) (clock : Nat), w.heap[b]? = some (.map ents.toArray clock) ∧ MapOk E es ents ∧ clock = ents.length ∧ ∀ (i : Nat) e, ents[i]? = some e → e.born = i
  | .iter q seen n => ∃ mb, E.ρ q = some mb ∧ w.heap[b]? = some (.mapIter (some mb) n seen.toArray n)

theorem MapOk.mono {E F : Env} (h : E.Le F) : ∀ {es : List (Int × SV)} {l : List MapEntry}, MapOk E es l → MapOk F es l
  | [], _, hm => hm
  | _ :: _, _, hm => by
    simp only [MapOk] at hm ⊢
    obtain ⟨e, rest, h1, h2, h3, h4⟩ := hm
    exact ⟨e, rest, h1, h2, h3.mono h, MapOk.mono h h4⟩

theorem MapOk.length {E : Env} : ∀ {es : List (Int × SV)} {l : List MapEntry}, MapOk E es l → l.length = es.length
  | [], _, h => by simp only [MapOk] at h; subst h; rfl
  | _ :: _, _, h => by
    simp only [MapOk] at h
    obtain ⟨e, rest, rfl, _, _, h4⟩ := h
    simp [MapOk.length h4]

theorem MapOk.get {E : Env} : ∀ {es : List (Int × SV)} {l : List MapEntry} {j : Nat} {k : Int} {s : SV}, MapOk E es l → es[j]? = some (k, s) → ∃ e, l[j]? = some e ∧ e.key = .int .i64 k ∧ V E s e.val
  | [], _, _, _, _, _, hj => by simp at hj
  | _ :: _, _, 0, _, _, h, hj => by
    simp only [MapOk] at h
    obtain ⟨e, rest, rfl, h2, h3, _⟩ := h
    simp at hj; cases hj
    exact ⟨e, rfl, h2, h3⟩
  | _ :: _, _, j + 1, _, _, h, hj => by
    simp only [MapOk] at h
    obtain ⟨e, rest, rfl, _, _, h4⟩ := h
    obtain ⟨x, k1, k2⟩ := MapOk.get (j := j) h4 (by simpa using hj)
    exact ⟨x, by simpa using k1, k2⟩

theorem BlkOk.mono {E F : Env} (h : E.Le F) {w : World} {b : Nat} {k : Blk} (hb : BlkOk E w b k) : BlkOk F w b k := by
  cases k with
  | cells ty cs => obtain ⟨vs, h1, h2⟩ := hb; exact ⟨vs, h1, h2.mono h⟩
  | map es => obtain ⟨l, c, h1, h2, h3⟩ := hb; exact ⟨l, c, h1, h2.mono h, h3⟩
  | iter q seen n => obtain ⟨m, h1, h2⟩ := hb; exact ⟨m, h.ρ h1, h2⟩

theorem BlkOk.world {E : Env} {w w' : World} {b : Nat} {k : Blk} (hb : BlkOk E w b k) (h : w'.heap[b]? = w.heap[b]?) : BlkOk E w' b k := by
  cases k with
  | cells ty cs => obtain ⟨vs, h1, h2⟩ := hb; exact ⟨vs, h.trans h1, h2⟩
  | map es => obtain ⟨l, c, h1, h2⟩ := hb; exact ⟨l, c, h.trans h1, h2⟩
  | iter q seen n => obtain ⟨m, h1, h2⟩ := hb; exact ⟨m, h1, h.trans h2⟩

theorem RowAt.world {w w' : World} {v : Value} {c : RowC} (h : RowAt w v c) (hs : w.heap.size ≤ w'.heap.size) (hb : ∀ b, blockOf v = some b → w'.heap[b]? = w.heap[b]?) : RowAt w' v c := by
  obtain ⟨h1, a, cap, rfl, h2, h3⟩ := h
  refine ⟨h1, a, cap, rfl, h2, ?_⟩
  cases a with
  | none => exact h3
  | some p =>
    obtain ⟨q1, q2, q3⟩ := h3
    refine ⟨q1, by omega, fun j u hj => ?_⟩
    rw [← q3 j u hj]
    simp only [World.cell?, hb p.block rfl]

theorem RowAt.block_lt {w : World} {v : Value} {c : RowC} (h : RowAt w v c) {b : Nat} (hb : blockOf v = some b) : b < w.heap.size := by
  obtain ⟨_, a, cap, rfl, _, h3⟩ := h
  cases a with
  | none => cases hb
  | some p => cases hb; exact h3.2.1

structure MemR (W0 : World) (E : Env) (M : Nat → Option Blk) (R : Nat → Option RowE) (w : World) : Prop where
  below : Below W0.heap.size W0 w
  inj : ∀ {i j b}, E.ρ i = some b → E.ρ j = some b → i = j
  own : ∀ {i b}, E.ρ i = some b → (foreign ≤ i → W0.heap.size ≤ b) ∧ b < w.heap.size
  blk : ∀ {i k}, M i = some k → ∃ b, E.ρ i = some b ∧ BlkOk E w b k
  row : ∀ {r e}, R r = some e → ∃ v, E.σ r = some v ∧ RowOk W0 E w v e
  ph : ∀ b, E.ph b → b < w.heap.size
  sep : ∀ {i b}, E.ρ i = some b → ¬ E.ph b
  still : ∀ b, E.ph b → w.heap[b]? = E.pw.heap[b]?

theorem below_of_grow {n : Nat} {W w w' : World} (h : Below n W w) (k : Below w.heap.size w w') (hn : n ≤ w.heap.size) : Below n W w' := h.trans (k.mono hn)

theorem MemR.size {W0 : World} {E : Env} {M : Nat → Option Blk} {R : Nat → Option RowE} {w : World} (h : MemR W0 E M R w) : W0.heap.size ≤ w.heap.size := h.below.size

/-- A world that has only grown. -/
theorem MemR.grow {W0 : World} {E : Env} {M : Nat → Option Blk} {R : Nat → Option RowE} {w w' : World} (h : MemR W0 E M R w) (k : Below w.heap.size w w') : MemR W0 E M R w' := by
  refine ⟨below_of_grow h.below k h.size, h.inj, fun hi => ⟨(h.own hi).1, Nat.lt_of_lt_of_le (h.own hi).2 k.size⟩, fun hi => ?_, fun hr => ?_, fun b hb => Nat.lt_of_lt_of_le (h.ph b hb) k.size, h.sep, fun b hb => (k.block b (h.ph b hb)).trans (h.still b hb)⟩
  · obtain ⟨b, h1, h2⟩ := h.blk hi
    exact ⟨b, h1, h2.world (k.block b (h.own h1).2)⟩
  · obtain ⟨v, h1, h2, h3, h4⟩ := h.row hr
    refine ⟨v, h1, h2.world k.size fun b hb => k.block b (h2.block_lt hb), h3, fun ho b hb => ?_⟩
    obtain ⟨q1, cs, ty, q2⟩ := h4 ho b hb
    exact ⟨q1, cs, ty, (k.block b (h2.block_lt hb)).trans q2.1, q2.2⟩

theorem below_alloc (w : World) (o : Obj) : Below w.heap.size w (w.alloc o) := (Below.refl w.heap.size w).alloc (Nat.le_refl _) o

def Env.own (E : Env) (id b : Nat) : Env := { E with ρ := fun j => if j = id then some b else E.ρ j }
def Env.rowed (E : Env) (r : Nat) (v : Value) : Env := { E with σ := fun j => if j = r then some v else E.σ j }

theorem Env.le_own {E : Env} {id b : Nat} (h : E.ρ id = none) : E.Le (E.own id b) := by
  refine ⟨fun {i c} hi => ?_, fun hs => hs, rfl, rfl⟩
  show (if i = id then some b else E.ρ i) = some c
  rw [if_neg (fun e => by subst e; rw [h] at hi; cases hi)]; exact hi
theorem Env.le_rowed {E : Env} {r : Nat} {v : Value} (h : E.σ r = none) : E.Le (E.rowed r v) := by
  refine ⟨id, fun {i c} hi => ?_, rfl, rfl⟩
  show (if i = r then some v else E.σ i) = some c
  rw [if_neg (fun e => by subst e; rw [h] at hi; cases hi)]; exact hi
theorem Env.own_self (E : Env) (id b : Nat) : (E.own id b).ρ id = some b := by simp [Env.own]
theorem Env.own_other (E : Env) {id b i : Nat} (h : i ≠ id) : (E.own id b).ρ i = E.ρ i := by simp [Env.own, h]
theorem Env.rowed_self (E : Env) (r : Nat) (v : Value) : (E.rowed r v).σ r = some v := by simp [Env.rowed]
theorem Env.rowed_other (E : Env) {r i : Nat} {v : Value} (h : i ≠ r) : (E.rowed r v).σ i = E.σ i := by simp [Env.rowed, h]

theorem upd_self {α : Type} (g : Nat → α) (k : Nat) (v : α) : upd g k v k = v := by simp [upd]
theorem upd_other {α : Type} (g : Nat → α) {k j : Nat} (v : α) (h : j ≠ k) : upd g k v j = g j := by
  unfold upd
  cases hb : Nat.beq j k with
  | true => exact absurd (Nat.eq_of_beq_eq_true hb) h
  | false => rfl
theorem upd_apply {α : Type} (g : Nat → α) (k : Nat) (v : α) (j : Nat) : upd g k v j = if j = k then v else g j := by
  by_cases h : j = k
  · subst h; simp [upd_self]
  · rw [upd_other g v h, if_neg h]

/-- A block of the call's own, made. -/
theorem MemR.new {W0 : World} {E : Env} {M : Nat → Option Blk} {R : Nat → Option RowE} {w : World} (h : MemR W0 E M R w) {id : Nat} (hf : E.ρ id = none) {o : Obj} {k : Blk}
    (hk : BlkOk E (w.alloc o) w.heap.size k) : MemR W0 (E.own id w.heap.size) (upd M id (some k)) R (w.alloc o) := by
  have hle := Env.le_own (b := w.heap.size) hf
  have hb := below_alloc w o
  have hg := h.grow hb
  have hlt : ∀ {i b}, E.ρ i = some b → b < w.heap.size := fun hi => (h.own hi).2
  refine ⟨hg.below, fun {i j b} hi hj => ?_, fun {i b} hi => ?_, fun {i k'} hi => ?_, fun {r e} hr => ?_, hg.ph, fun {i b} hi => ?_, hg.still⟩
  · by_cases hii : i = id <;> by_cases hjj : j = id
    · rw [hii, hjj]
    · subst hii; rw [Env.own_self] at hi; rw [Env.own_other _ hjj] at hj; cases hi; exact absurd (hlt hj) (by omega)
    · subst hjj; rw [Env.own_self] at hj; rw [Env.own_other _ hii] at hi; cases hj; exact absurd (hlt hi) (by omega)
    · rw [Env.own_other _ hii] at hi; rw [Env.own_other _ hjj] at hj; exact h.inj hi hj
  · by_cases hii : i = id
    · subst hii; rw [Env.own_self] at hi; cases hi; exact ⟨fun _ => h.size, by simp⟩
    · rw [Env.own_other _ hii] at hi; exact hg.own hi
  · rw [upd_apply] at hi
    split at hi
    · cases hi; rename_i hii; subst hii; exact ⟨_, Env.own_self .., hk.mono hle⟩
    · obtain ⟨b, h1, h2⟩ := hg.blk hi
      exact ⟨b, hle.ρ h1, h2.mono hle⟩
  · obtain ⟨v, h1, h2, h3, h4⟩ := hg.row hr
    obtain ⟨v', h1', h2', _⟩ := h.row hr
    rw [h1] at h1'; cases h1'
    refine ⟨v, h1, h2, fun b hb' => ⟨(h3 b hb').1, fun i hi => ?_⟩, h4⟩
    by_cases hii : i = id
    · subst hii; rw [Env.own_self] at hi; cases hi; exact absurd (h2'.block_lt hb') (by omega)
    · rw [Env.own_other _ hii] at hi; exact (h3 b hb').2 i hi
  · by_cases hii : i = id
    · subst hii; rw [Env.own_self] at hi; cases hi
      exact fun hp => absurd (h.ph _ hp) (by omega)
    · rw [Env.own_other _ hii] at hi; exact h.sep hi

/-- A block of the call's own, written. -/
theorem MemR.put {W0 : World} {E : Env} {M : Nat → Option Blk} {R : Nat → Option RowE} {w w' : World} (h : MemR W0 E M R w) {id b : Nat} (hi : E.ρ id = some b) (hid : foreign ≤ id)
    (hos : w'.os = w.os) (ht : w'.tape = w.tape) (hout : w'.output = w.output) (hs : w'.heap.size = w.heap.size) (ho : ∀ j, j ≠ b → w'.heap[j]? = w.heap[j]?)
    {k : Blk} (hk : BlkOk E w' b k) : MemR W0 E (upd M id (some k)) R w' := by
  have hown := (h.own hi).1 hid
  refine ⟨h.below.trans ⟨hos, ht, hout, by omega, fun j hj => ho j (by omega)⟩, h.inj, fun hj => ⟨(h.own hj).1, by rw [hs]; exact (h.own hj).2⟩, fun {i k'} hj => ?_, fun hr => ?_, fun b hb => by rw [hs]; exact h.ph b hb, h.sep, fun c hc => (ho c fun e => h.sep hi (by rw [← e]; exact hc)).trans (h.still c hc)⟩
  · rw [upd_apply] at hj
    split at hj
    · cases hj; rename_i hii; subst hii; exact ⟨b, hi, hk⟩
    · rename_i hne
      obtain ⟨c, h1, h2⟩ := h.blk hj
      exact ⟨c, h1, h2.world (ho c fun e => hne (by subst e; exact h.inj h1 hi))⟩
  · obtain ⟨v, h1, h2, h3, h4⟩ := h.row hr
    have hne : ∀ c, blockOf v = some c → c ≠ b := fun c hc e => (h3 c hc).2 id (by rw [e]; exact hi)
    refine ⟨v, h1, h2.world (by omega) fun c hc => ho c (hne c hc), h3, fun hw c hc => ?_⟩
    obtain ⟨q1, cs, ty, q2⟩ := h4 hw c hc
    exact ⟨q1, cs, ty, (ho c (hne c hc)).trans q2.1, q2.2⟩

/-- One row more. -/
theorem MemR.addRow {W0 : World} {E : Env} {M : Nat → Option Blk} {R : Nat → Option RowE} {w : World} (h : MemR W0 E M R w) {r : Nat} (hf : E.σ r = none) {v : Value} {e : RowE}
    (hv : RowOk W0 E w v e) : MemR W0 (E.rowed r v) M (upd R r (some e)) w := by
  have hle := Env.le_rowed (v := v) hf
  refine ⟨h.below, h.inj, h.own, fun hi => ?_, fun {q x} hr => ?_, h.ph, h.sep, h.still⟩
  · obtain ⟨b, h1, h2⟩ := h.blk hi
    exact ⟨b, h1, h2.mono hle⟩
  · rw [upd_apply] at hr
    split at hr
    · cases hr; rename_i hq; subst hq; exact ⟨v, Env.rowed_self .., hv⟩
    · rename_i hq
      obtain ⟨u, h1, h2⟩ := h.row hr
      exact ⟨u, hle.σ h1, h2⟩

/-- Rows no longer known. -/
theorem MemR.lessRows {W0 : World} {E : Env} {M : Nat → Option Blk} {R R' : Nat → Option RowE} {w : World} (h : MemR W0 E M R w) (hr : ∀ r e, R' r = some e → R r = some e) : MemR W0 E M R' w :=
  ⟨h.below, h.inj, h.own, h.blk, fun {r e} he => h.row (hr r e he), h.ph, h.sep, h.still⟩

theorem MemR.drew {W0 : World} {E : Env} {M : Nat → Option Blk} {R : Nat → Option RowE} {w : World} (h : MemR W0 E M R w) : MemR W0 E M R w.drew :=
  h.grow ⟨rfl, rfl, rfl, Nat.le_refl _, fun _ _ => rfl⟩

/-! ### Operations -/
/-- What an operation has done. -/
structure Did (W0 : World) (E : Env) (M : Nat → Option Blk) (R : Nat → Option RowE) (e : Eff) (id rid : Nat) (v : Value) (w' : World) (F : Env) : Prop where
  le : E.Le F
  ρ : ∀ i, i ≠ id → F.ρ i = E.ρ i
  σ : ∀ r, (r < rid ∨ rid + rowsEach ≤ r) → F.σ r = E.σ r
  v : V F e.v v
  mem : MemR W0 F (e.appM M id) (e.appR R rid) w'

/-- Nothing has turned but the value. -/
theorem Did.same {W0 : World} {E : Env} {M : Nat → Option Blk} {R : Nat → Option RowE} {w : World} (h : MemR W0 E M R w) {e : Eff} {id rid : Nat} {v : Value}
    (h1 : e.wr = []) (h2 : e.nb = none) (h3 : e.nr = []) (h4 : e.only = none) (hv : V E e.v v) : Did W0 E M R e id rid v w E := by
  refine ⟨.refl E, fun _ _ => rfl, fun _ _ => rfl, hv, ?_⟩
  have hM : e.appM M id = M := by simp [Eff.appM, h1, h2, updW]
  have hR : e.appR R rid = R := by simp [Eff.appR, h3, h4, updL]
  rw [hM, hR]; exact h

/-- The same behind a draw. -/
theorem Did.drew {W0 : World} {E : Env} {M : Nat → Option Blk} {R : Nat → Option RowE} {w : World} {e : Eff} {id rid : Nat} {v : Value} {F : Env} (h : Did W0 E M R e id rid v w F) : Did W0 E M R e id rid v w.drew F :=
  ⟨h.le, h.ρ, h.σ, h.v, h.mem.drew⟩

def AllT (l : List Bool) : Prop := ∀ b ∈ l, b = true

section
variable {P : Program} {W0 : World} {E : Env} {M : Nat → Option Blk} {R : Nat → Option RowE} {w : World}

theorem run_underlying' {t : TypeId} {d : TypeDesc} (h : P.underlying t = some d) : (underlying t).run P w = .ok d w := by
  simp [underlying, h]
theorem run_sizeOf' {t : TypeId} {n : Nat} (h : sizeT P t = some n) : (sizeOf t).run P w = .ok n w := by
  unfold sizeT at h
  split at h
  · rename_i i hi; cases h; simp [sizeOf, typeInfo, hi]
  · cases h
theorem run_isAgg' {t : TypeId} {b : Bool} (h : isAggT P t = some b) : (isAgg t).run P w = .ok b w := by
  unfold isAggT at h
  split at h <;> first | (cases h; done) | skip
  · rename_i hu; cases h; simp [isAgg, run_underlying' hu]
  · rename_i hu; cases h; simp [isAgg, run_underlying' hu]
  · rename_i d h1 h2 hu; cases h
    simp only [isAgg, Sem.run_bind, run_underlying' hu, Result.andThen_ok]
    cases d <;> first | rfl | exact absurd rfl (h1 _) | exact absurd rfl (h2 _ _)

theorem add_mk (b o j : Nat) : (⟨b, o, none⟩ : Addr).add j = ⟨b, o + j, none⟩ := by
  unfold Addr.add; split <;> simp_all

/-- A variable read whose cells are known. -/
theorem run_loadVar_cells {t : TypeId} {agg : Bool} {n b o : Nat} (h1 : isAggT P t = some agg) (h2 : sizeT P t = some n) {us : List Value} (hn : us.length = n)
    (hc : ∀ j v, us[j]? = some v → w.cell? ⟨b, o + j, none⟩ = some v) :
    (agg = true → (loadVar t ⟨b, o, none⟩).run P w = .ok (.agg us.toArray) w) ∧
    (agg = false → ∀ v, us = [v] → (loadVar t ⟨b, o, none⟩).run P w = .ok v w) := by
  refine ⟨fun ha => ?_, fun ha v hv => ?_⟩
  · subst ha
    have hl : (loadCells ⟨b, o, none⟩ n).run P w = .ok us.toArray w := by
      rw [← hn]; exact run_loadCells_list w _ us fun j v hj => by rw [add_mk]; exact hc j v hj
    simp [loadVar, run_isAgg' h1, run_sizeOf' h2, hl]
  · subst ha; subst hv
    have h0 := hc 0 v rfl
    simp only [Nat.add_zero] at h0
    simp [loadVar, run_isAgg' h1, h0]

theorem cell_of_blk {b : Nat} {vs : List Value} {ty : TypeId} {fr : Nat × Nat} (h : w.heap[b]? = some (.cells vs.toArray ty fr)) (j : Nat) : w.cell? ⟨b, j, none⟩ = vs[j]? := by
  simp [World.cell?, h]

theorem get_cast {α : Type} {l : List α} {i j : Nat} {v : α} (h : l[i]? = some v) (e : i = j) : l[j]? = some v := by subst e; exact h

end
end Go.Sx
