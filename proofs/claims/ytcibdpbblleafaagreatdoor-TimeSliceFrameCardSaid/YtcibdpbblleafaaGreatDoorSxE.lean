/-
  A symbolic executor for the bodies of Go functions: its loads, stores, addresses and numbers do what the model's do.
  Conditions: none; lemmas about single operations.
-/
import Derived.Test.YtcibdpbblleafaaGreatDoorSxD
namespace Go.Sx
open Go Go.RowKit

def GlobOk (cx : Cx) (W0 : World) : Prop :=
  ∀ g cs, cx.gl g = some cs → ∃ (vs : List Value) (ty : TypeId) (fr : Nat × Nat), W0.heap[g]? = some (.cells vs.toArray ty fr) ∧ ∀ E, VL E cs vs

def Eff.Quiet (e : Eff) : Prop := e.wr = [] ∧ e.nb = none ∧ e.nr = [] ∧ e.only = none

section
variable {cx : Cx} {W0 : World} {E : Env} {s : AS} {w : World}

theorem glob_cell (hg : GlobOk cx W0) (hm : MemR W0 E s.M s.R w) {g : Nat} {cs : List SV} (h : cx.gl g = some cs) :
    ∃ vs : List Value, VL E cs vs ∧ ∀ j, w.cell? ⟨g, j, none⟩ = vs[j]? := by
  obtain ⟨vs, ty, fr, h1, h2⟩ := hg g cs h
  have hlt : g < W0.heap.size := (Array.getElem?_eq_some_iff.1 h1).1
  exact ⟨vs, h2 E, fun j => cell_of_blk ((hm.below.block g hlt).trans h1) j⟩

theorem blk_cell (hm : MemR W0 E s.M s.R w) {id : Nat} {ty : TypeId} {cs : List SV} (h : s.M id = some (.cells ty cs)) {b : Nat} (hb : E.ρ id = some b) :
    ∃ vs : List Value, w.heap[b]? = some (.cells vs.toArray ty (0, 0)) ∧ VL E cs vs := by
  obtain ⟨b', h1, vs, h2, h3⟩ := hm.blk h
  rw [hb] at h1; cases h1
  exact ⟨vs, h2, h3⟩

theorem row_val (hm : MemR W0 E s.M s.R w) {r : Nat} {x : RowE} (h : s.R r = some x) {v : Value} (hv : E.σ r = some v) : RowOk W0 E w v x := by
  obtain ⟨v', h1, h2⟩ := hm.row h
  rw [hv] at h1; cases h1
  exact h2

/-- What a load hands out. -/
def loadOut (agg : Bool) (l : List SV) (rd rdR : List Nat) : Option Eff :=
  match agg with
  | true => some { Eff.pure (.a l) with rd, rdR }
  | false => (match l with | [v] => some { Eff.pure v with rd, rdR } | _ => none)

theorem loadOut_ok {agg : Bool} {l : List SV} {rd rdR : List Nat} {e : Eff} (h : loadOut agg l rd rdR = some e) {t : TypeId} {n b o : Nat} (h1 : isAggT cx.P t = some agg)
    (h2 : sizeT cx.P t = some n) {us : List Value} (hn : us.length = n) (hc : ∀ j v, us[j]? = some v → w.cell? ⟨b, o + j, none⟩ = some v) (hv : VL E l us) :
    ∃ v, (Instr.loadAt t (.pointer (some ⟨b, o, none⟩))).run cx.P w = .ok v w ∧ V E e.v v ∧ e.Quiet ∧ e.needs = [] := by
  obtain ⟨r1, r2⟩ := run_loadVar_cells (P := cx.P) (w := w) h1 h2 hn hc
  cases agg with
  | true =>
    simp only [loadOut, Option.some.injEq] at h; subst h
    refine ⟨.agg us.toArray, by simp [Instr.loadAt, Instr.sureAddr, r1 rfl], ?_, ⟨rfl, rfl, rfl, rfl⟩, rfl⟩
    simp only [Eff.pure, V]; exact ⟨us, rfl, hv⟩
  | false =>
    simp only [loadOut] at h
    split at h
    · rename_i v
      cases h
      obtain ⟨u, us', rfl, k1, k2⟩ := VL.cons.1 hv
      have hnil := VL.nil.1 k2
      subst hnil
      exact ⟨u, by simp [Instr.loadAt, Instr.sureAddr, r2 rfl u rfl], k1, ⟨rfl, rfl, rfl, rfl⟩, rfl⟩
    · cases h

theorem ev_evCells {l : List Ev} {i : Nat} {e : Ev} (h : l[i]? = some e) : ∀ j, j < 3 → (l.flatMap evCells)[3 * i + j]? = (evCells e)[j]? := by
  induction l generalizing i with
  | nil => simp at h
  | cons a l ih =>
    intro j hj
    cases i with
    | zero =>
      simp at h; subst h
      simp only [List.flatMap_cons, Nat.mul_zero, Nat.zero_add]
      rw [List.getElem?_append_left (by simp [evCells]; omega)]
    | succ i =>
      simp only [List.flatMap_cons]
      rw [List.getElem?_append_right (by simp [evCells]; omega)]
      have := ih (by simpa using h) j hj
      rw [← this]; congr 1; simp [evCells]; omega

theorem evLoad_ok (hg : GlobOk cx W0) (hm : MemR W0 E s.M s.R w) {t : TypeId} {addr : SV} {e : Eff} (h : evLoad cx s t addr = some e) {x : Value} (hx : V E addr x) :
    ∃ v, (Instr.loadAt t x).run cx.P w = .ok v w ∧ V E e.v v ∧ e.Quiet ∧ e.needs = [] := by
  simp only [evLoad] at h
  split at h
  · rename_i agg n h1 h2
    split at h
    · -- own block
      rename_i id off
      simp only [V] at hx
      obtain ⟨b, hb, rfl⟩ := hx
      split at h <;> try (cases h; done)
      rename_i ty cs hM
      split at h <;> try (cases h; done)
      rename_i l hl
      rw [forceL_eq] at h
      obtain ⟨vs, k1, k2⟩ := blk_cell hm hM hb
      obtain ⟨us, q1, q2, q3⟩ := k2.slice hl
      exact loadOut_ok h h1 h2 q1 (fun j v hj => by rw [cell_of_blk k1]; exact q3 j v hj) q2
    · rename_i id off stride cnt ix
      simp only [V] at hx
      obtain ⟨b, hb, i0, i1, rfl⟩ := hx
      split at h <;> try (cases h; done)
      rename_i ty cs hM
      split at h <;> try (cases h; done)
      rename_i l hl
      rw [forceL_eq] at h
      obtain ⟨vs, k1, k2⟩ := blk_cell hm hM hb
      obtain ⟨us, q1, q2, q3⟩ := choices_V k2 i0 i1 hl
      exact loadOut_ok h h1 h2 q1 (fun j v hj => by rw [cell_of_blk k1]; exact q3 j v hj) q2
    · rename_i g off
      simp only [V] at hx; subst hx
      split at h <;> try (cases h; done)
      rename_i cs hM
      split at h <;> try (cases h; done)
      rename_i l hl
      rw [forceL_eq] at h
      obtain ⟨vs, k2, k1⟩ := glob_cell hg hm hM
      obtain ⟨us, q1, q2, q3⟩ := k2.slice hl
      exact loadOut_ok h h1 h2 q1 (fun j v hj => by rw [k1]; exact q3 j v hj) q2
    · rename_i g off stride cnt ix
      simp only [V] at hx
      obtain ⟨i0, i1, rfl⟩ := hx
      split at h <;> try (cases h; done)
      rename_i cs hM
      split at h <;> try (cases h; done)
      rename_i l hl
      rw [forceL_eq] at h
      obtain ⟨vs, k2, k1⟩ := glob_cell hg hm hM
      obtain ⟨us, q1, q2, q3⟩ := choices_V k2 i0 i1 hl
      exact loadOut_ok h h1 h2 q1 (fun j v hj => by rw [k1]; exact q3 j v hj) q2
    · rename_i r st off ix
      simp only [V] at hx
      obtain ⟨b, o, len, cap, hb, i0, i1, rfl⟩ := hx
      split at h <;> try (cases h; done)
      rename_i x hR
      obtain ⟨⟨⟨c1, _⟩, a, cap', hv, c2, c3⟩, _, _⟩ := row_val hm hR hb
      cases hv
      obtain ⟨_, _, c3⟩ := c3
      have hlt : ix.toNat < x.c.len := by omega
      have cell : ∀ j u, x.c.cells[j]? = some u → w.cell? ⟨b, o + j, none⟩ = some u := c3
      have one : ∀ (sv : SV) (u : Value) (off : Nat), w.cell? ⟨b, o + st * ix.toNat + off, none⟩ = some u → V E sv u → ∀ j v, [u][j]? = some v → w.cell? ⟨b, o + st * ix.toNat + off + j, none⟩ = some v := by
        intro sv u off hc _ j v hj
        cases j with
        | zero => simp at hj; subst hj; simpa using hc
        | succ j => simp at hj
      split at h
      · rename_i l heq
        cases h
        rw [heq] at cell c1 hlt
        have hl : l[ix.toNat]? = some (pick ix l) := by
          have : ix.toNat < l.length := hlt
          simp [Sx.pick, this]
        have hcell := cell ix.toNat (.int .u8 (pick ix l)) (by simp [RowC.cells, hl])
        have hv : V E (.i .u8 (pick ix l)) (.int .u8 (pick ix l)) := by simp only [V]; exact ⟨trivial, c1 _ (List.mem_of_getElem? hl)⟩
        exact loadOut_ok (agg := false) (l := [.i .u8 (pick ix l)]) (rd := []) (rdR := [r]) rfl h1 h2 (us := [.int .u8 (pick ix l)]) rfl
          (one _ _ 0 (by simpa using hcell) hv) (VL.cons'.2 ⟨hv, VL.nil.2 rfl⟩)
      all_goals first | (cases h; done) | skip
      all_goals
        rename_i l heq
        cases h
        rw [heq] at cell c1 hlt
        have hl : l[ix.toNat]? = some (evAt l ix) := by
          have : ix.toNat < l.length := hlt
          simp [evAt, this]
        have hk := c1 _ (List.mem_of_getElem? hl)
        have hcell : ∀ j u, j < 3 → (evCells (evAt l ix))[j]? = some u → w.cell? ⟨b, o + (3 * ix.toNat + j), none⟩ = some u := fun j u hj hu =>
          cell _ u (by rw [RowC.cells, ev_evCells hl j hj]; exact hu)
        have v0 : V E (.i .i64 (evAt l ix).kind) (.int .i64 (evAt l ix).kind) := by simp only [V]; exact ⟨trivial, hk.1⟩
        have v1 : V E (.i .i64 (evAt l ix).at_) (.int .i64 (evAt l ix).at_) := by simp only [V]; exact ⟨trivial, hk.2.1⟩
        have v2 : V E (.i .u64 (evAt l ix).time) (.int .u64 (evAt l ix).time) := by simp only [V]; exact ⟨trivial, hk.2.2⟩
      · refine loadOut_ok (agg := true) (l := [.i .i64 (evAt l ix).kind, .i .i64 (evAt l ix).at_, .i .u64 (evAt l ix).time]) (rd := []) (rdR := [r]) rfl h1 h2 (us := evCells (evAt l ix)) rfl ?_ ?_
        · intro j v hj
          have hj3 : j < 3 := by
            have := (List.getElem?_eq_some_iff.1 hj).1
            simpa [evCells] using this
          have := hcell j v hj3 hj
          rw [← this]; congr 2; omega
        · exact VL.cons'.2 ⟨v0, VL.cons'.2 ⟨v1, VL.cons'.2 ⟨v2, VL.nil.2 rfl⟩⟩⟩
      · exact loadOut_ok (agg := false) (l := [.i .i64 (evAt l ix).kind]) (rd := []) (rdR := [r]) rfl h1 h2 (us := [.int .i64 (evAt l ix).kind]) rfl
          (one _ _ 0 (by rw [← hcell 0 _ (by omega) rfl]; congr 2) v0) (VL.cons'.2 ⟨v0, VL.nil.2 rfl⟩)
      · exact loadOut_ok (agg := false) (l := [.i .i64 (evAt l ix).at_]) (rd := []) (rdR := [r]) rfl h1 h2 (us := [.int .i64 (evAt l ix).at_]) rfl
          (one _ _ 1 (by rw [← hcell 1 _ (by omega) rfl]; congr 2) v1) (VL.cons'.2 ⟨v1, VL.nil.2 rfl⟩)
      · exact loadOut_ok (agg := false) (l := [.i .u64 (evAt l ix).time]) (rd := []) (rdR := [r]) rfl h1 h2 (us := [.int .u64 (evAt l ix).time]) rfl
          (one _ _ 2 (by rw [← hcell 2 _ (by omega) rfl]; congr 2) v2) (VL.cons'.2 ⟨v2, VL.nil.2 rfl⟩)
    · cases h
  · cases h

theorem cond_none {α : Type} {c : Bool} {x : Option α} {e : α} (h : (bif c then x else none) = some e) : c = true ∧ x = some e := by
  cases c with
  | true => exact ⟨rfl, h⟩
  | false => cases h

theorem atom_one {E : Env} {sv : SV} {v : Value} (h : atomB sv = true) (hv : V E sv v) : v.oneCell' = true := by
  cases sv <;> simp only [atomB, Bool.false_eq_true] at h <;> simp only [V] at hv
  case n => rw [hv.1]; rfl
  case i => rw [hv.1]; rfl
  case kb => rw [hv]; rfl
  case b => rw [hv]; rfl
  case p => obtain ⟨_, _, rfl⟩ := hv; rfl
  case pi => obtain ⟨_, _, _, _, rfl⟩ := hv; rfl
  case pg => rw [hv]; rfl
  case pgi => obtain ⟨_, _, rfl⟩ := hv; rfl
  case pr => obtain ⟨_, _, _, _, _, _, _, rfl⟩ := hv; rfl
  case r => obtain ⟨_, _, _, _, rfl⟩ := hv; rfl
  case rf => obtain ⟨_, _, _, _, rfl⟩ := hv; rfl
  case nsl => rw [hv]; rfl
  case nf => rw [hv]; rfl
  case f => obtain ⟨_, _, rfl, _⟩ := hv; rfl
  case sl => obtain ⟨_, _, rfl⟩ := hv; rfl
  case m => obtain ⟨_, _, rfl⟩ := hv; rfl

theorem atoms_one {E : Env} : ∀ {ss : List SV} {vs : List Value}, ss.all atomB = true → VL E ss vs → ∀ v ∈ vs, v.oneCell' = true
  | [], _, _, h => by rw [VL.nil.1 h]; simp
  | _ :: _, _, h, hv => by
    obtain ⟨v, vs, rfl, h1, h2⟩ := VL.cons.1 hv
    simp only [List.all_cons, Bool.and_eq_true] at h
    intro x hx
    cases hx with
    | head => exact atom_one h.1 h1
    | tail _ hm => exact atoms_one h.2 h2 x hm

theorem cellsSV_V {E : Env} {sv : SV} {ws : List SV} (h : cellsSV sv = some ws) {v : Value} (hv : V E sv v) : ∃ us : List Value, v.cells = us.toArray ∧ VL E ws us := by
  have single : some [sv] = some ws → v.cells = #[v] → ∃ us : List Value, v.cells = us.toArray ∧ VL E ws us := by
    intro e hc; cases e
    exact ⟨[v], hc, VL.cons'.2 ⟨hv, VL.nil.2 rfl⟩⟩
  cases sv <;> simp only [cellsSV] at h
  case a => cases h; simp only [V] at hv; obtain ⟨vs, rfl, h1⟩ := hv; exact ⟨vs, rfl, h1⟩
  case xx => cases h
  all_goals
    refine single h ?_
    simp only [V] at hv
  case n => rw [hv.1]; rfl
  case i => rw [hv.1]; rfl
  case kb => rw [hv]; rfl
  case b => rw [hv]; rfl
  case p => obtain ⟨_, _, rfl⟩ := hv; rfl
  case pi => obtain ⟨_, _, _, _, rfl⟩ := hv; rfl
  case pg => rw [hv]; rfl
  case pgi => obtain ⟨_, _, rfl⟩ := hv; rfl
  case pr => obtain ⟨_, _, _, _, _, _, _, rfl⟩ := hv; rfl
  case r => obtain ⟨_, _, _, _, rfl⟩ := hv; rfl
  case rf => obtain ⟨_, _, _, _, rfl⟩ := hv; rfl
  case nsl => rw [hv]; rfl
  case nf => rw [hv]; rfl
  case f => obtain ⟨_, _, rfl, _⟩ := hv; rfl
  case sl => obtain ⟨_, _, rfl⟩ := hv; rfl
  case m => obtain ⟨_, _, rfl⟩ := hv; rfl
  case t => obtain ⟨_, rfl, _⟩ := hv; rfl
  case u => rw [hv]; rfl

/-- A variable written within a row whose cells are known. -/
theorem run_storeAt_row {P : Program} {w : World} {t : TypeId} {n b o : Nat} {cur us : List Value} {ty : TypeId} {val : Value} (h2 : sizeT P t = some n) (hc : val.cells = us.toArray) (hn : us.length = n)
    (hg : w.heap[b]? = some (.cells cur.toArray ty (0, 0))) (hfit : o + us.length ≤ cur.length) (h1 : ∀ v ∈ us, v.oneCell' = true) :
    (Instr.storeAt t (.pointer (some ⟨b, o, none⟩)) val).run P w = .ok () (w.setRow b (over cur o us).toArray) := by
  have hs := run_storeCells_at (P := P) b o ty us 0 cur.toArray w hg (by simpa using hfit) h1
  simp only [Nat.add_zero] at hs
  simp only [Instr.storeAt, Instr.sureAddr, Sem.run_bind, Sem.run_pure, Result.andThen_ok, storeVar, run_sizeOf' h2, hc, List.size_toArray, hn, Sem.run_ite]
  simp [hs, over]

theorem setRow_size (w : World) (b : Nat) (cs : Array Value) : (w.setRow b cs).heap.size = w.heap.size := by simp

theorem put_row {W0 : World} {E : Env} {M : Nat → Option Blk} {R : Nat → Option RowE} {w : World} (h : MemR W0 E M R w) {id b : Nat} (hi : E.ρ id = some b) (hid : foreign ≤ id) {cur : Array Value} {ty : TypeId}
    (hg : w.heap[b]? = some (.cells cur ty (0, 0))) {cs : List SV} {vs : List Value} (hv : VL E cs vs) : MemR W0 E (upd M id (some (.cells ty cs))) R (w.setRow b vs.toArray) :=
  h.put (w' := w.setRow b vs.toArray) hi hid rfl rfl rfl (setRow_size ..) (fun j hj => setRow_other w b j _ hj) (k := .cells ty cs) ⟨vs, setRow_heap w b cur _ ty _ hg, hv⟩

theorem over_set (vs : List Value) (o : Nat) (v : Value) (h : o < vs.length) : over vs o [v] = vs.set o v := by
  rw [List.set_eq_take_append_cons_drop, if_pos h]; simp [over]

theorem bytes_set {l : List Int} {i : Nat} {v : Int} (h : ∀ x ∈ l, InR .u8 x) (hv : InR .u8 v) : ∀ x ∈ l.set i v, InR .u8 x := by
  intro x hx
  rcases List.mem_or_eq_of_mem_set hx with h1 | h1
  · exact h x h1
  · rw [h1]; exact hv

theorem evStore_ok (hm : MemR W0 E s.M s.R w) {t : TypeId} {addr val : SV} {e : Eff} (h : evStore cx s t addr val = some e) {x y : Value} (hx : V E addr x) (hy : V E val y) (id rid : Nat) :
    ∃ w', (Instr.storeAt t x y).run cx.P w = .ok () w' ∧ Did W0 E s.M s.R e id rid undef w' E ∧ e.needs = [] := by
  simp only [evStore] at h
  split at h <;> try (cases h; done)
  rename_i n ws h2 hws
  cases hc : (Nat.beq ws.length (n + 1) && ws.all atomB) <;> simp only [hc, cond_true, cond_false] at h
  · cases h
  simp only [Bool.and_eq_true] at hc
  obtain ⟨hlen, hat⟩ := hc
  have hlen := Nat.eq_of_beq_eq_true hlen
  obtain ⟨us, hcs, hus⟩ := cellsSV_V hws hy
  have hone := atoms_one hat hus
  have hul : us.length = n + 1 := by rw [hus.length, hlen]
  split at h
  · rename_i id' off
    simp only [V] at hx
    obtain ⟨b, hb, rfl⟩ := hx
    have hfor := Nat.le_of_ble_eq_true (cond_none h).1
    replace h := (cond_none h).2
    split at h <;> try (cases h; done)
    rename_i ty cs hM
    split at h <;> try (cases h; done)
    rename_i l hl
    rw [forceL_eq] at h
    cases h
    obtain ⟨vs, k1, k2⟩ := blk_cell hm hM hb
    rcases VL.splice k2 hus hl with ⟨q1, q2⟩ | ⟨rfl, _⟩
    · refine ⟨_, run_storeAt_row h2 hcs hul k1 q2 hone, ⟨.refl E, fun _ _ => rfl, fun _ _ => rfl, by simp only [Eff.pure, V], ?_⟩, rfl⟩
      simp only [Eff.appM, Eff.appR, Eff.pure, updW, updL]
      exact put_row hm hb hfor k1 q1
    · simp at hlen
  · rename_i id' off stride cnt ix
    simp only [V] at hx
    obtain ⟨b, hb, i0, i1, rfl⟩ := hx
    have hfor := Nat.le_of_ble_eq_true (cond_none h).1
    replace h := (cond_none h).2
    split at h <;> try (cases h; done)
    rename_i ty cs hM
    have fin : ∀ (k : IntKind) (v : Int) (u : Value), u = .int k v → InR k v → us = [u] → (match spread ix k v cs 0 (stride + 1) off cnt with
            | some l => forceL l fun l => some { Eff.pure SV.u with rd := [id'], wr := [(id', Blk.cells ty l)] }
            | none => none) = some e → ∃ w', (Instr.storeAt t (.pointer (some ⟨b, off + (stride + 1) * ix.toNat, none⟩)) y).run cx.P w = .ok () w' ∧ Did W0 E s.M s.R e id rid undef w' E ∧ e.needs = [] := by
      intro k v u hu hr huu h
      subst huu hu
      split at h <;> try (cases h; done)
      rename_i l hl
      rw [forceL_eq] at h
      cases h
      obtain ⟨vs, k1, k2⟩ := blk_cell hm hM hb
      obtain ⟨q1, q2⟩ := spread_V hr (by omega) k2 hl i0 (by omega)
      rw [Int.sub_zero] at q1 q2
      refine ⟨_, run_storeAt_row h2 hcs hul k1 (by simp; omega) hone, ⟨.refl E, fun _ _ => rfl, fun _ _ => rfl, by simp only [Eff.pure, V], ?_⟩, rfl⟩
      simp only [Eff.appM, Eff.appR, Eff.pure, updW, updL]
      rw [over_set _ _ _ q1]
      exact put_row hm hb hfor k1 q2
    split at h <;> try (cases h; done)
    all_goals
      obtain ⟨u, us', rfl, k1, k2⟩ := VL.cons.1 hus
      have hnil := VL.nil.1 k2
      subst hnil
      simp only [V] at k1
      exact fin _ _ _ k1.1 k1.2 rfl h
  · rename_i r ix
    simp only [V] at hx
    obtain ⟨b, o, len, cap, hb, i0, i1, rfl⟩ := hx
    split at h <;> try (cases h; done)
    rename_i l hR
    obtain ⟨⟨⟨c1, clen⟩, a, cap', hv, c2, c3⟩, c4, c5⟩ := row_val hm hR hb
    cases hv
    obtain ⟨_, c6, c3⟩ := c3
    obtain ⟨d1, cs, ty, d2, d3⟩ := c5 rfl b rfl
    have hlt : ix.toNat < l.length := by simp only [RowC.len] at i1; omega
    have hcell := c3
    simp only [RowC.cells] at hcell
    have fin : ∀ (v : Int) (u : Value), u = .int .u8 v → InR .u8 v → us = [u] → some { Eff.pure SV.u with rdR := [r], only := some (r, (⟨.bytes (l.set ix.toNat v), true⟩ : RowE)) } = some e →
        ∃ w', (Instr.storeAt t (.pointer (some ⟨b, o + 1 * ix.toNat + 0, none⟩)) y).run cx.P w = .ok () w' ∧ Did W0 E s.M s.R e id rid undef w' E ∧ e.needs = [] := by
      intro v u hu hr huu h
      subst huu hu
      cases h
      have hin : o + ix.toNat < cs.size := by
        have := hcell ix.toNat (.int .u8 l[ix.toNat]) (by simp [hlt])
        simp only [World.cell?, d2] at this
        simp at this
        exact (Array.getElem?_eq_some_iff.1 this).1
      have hst := run_storeAt_row (P := cx.P) (w := w) (t := t) (b := b) (o := o + ix.toNat) (cur := cs.toList) (ty := ty) h2 hcs hul (by simpa using d2) (by simp; omega) hone
      rw [over_set _ _ _ (by simpa using hin)] at hst
      refine ⟨_, by simpa using hst, ⟨.refl E, fun _ _ => rfl, fun _ _ => rfl, by simp only [Eff.pure, V], ?_⟩, rfl⟩
      simp only [Eff.appM, Eff.appR, Eff.pure, updW, updL]
      have hne : ∀ j, j ≠ b → (w.setRow b (cs.toList.set (o + ix.toNat) (.int .u8 v)).toArray).heap[j]? = w.heap[j]? := fun j hj => setRow_other w b j _ hj
      refine ⟨hm.below.trans ⟨rfl, rfl, rfl, by simp, fun j hj => hne j (by omega)⟩, hm.inj, fun hi => ⟨(hm.own hi).1, by simpa using (hm.own hi).2⟩, fun {i k} hi => ?_, fun {q x} hq => ?_, fun c hc => by simpa using hm.ph c hc, hm.sep, fun c hc => (hne c fun e => (c4 b rfl).1 (by rw [← e]; exact hc)).trans (hm.still c hc)⟩
      · obtain ⟨c, g1, g2⟩ := hm.blk hi
        exact ⟨c, g1, g2.world (hne c fun e => (c4 b rfl).2 i (by rw [← e]; exact g1))⟩
      · rw [upd_apply] at hq
        split at hq
        · cases hq
          rename_i hqq; subst hqq
          refine ⟨_, hb, ⟨⟨bytes_set c1 hr, by simpa [RowC.len] using clen⟩, some ⟨b, o, none⟩, cap, by simp [RowC.len], by simpa [RowC.len] using c2, rfl, by simpa using c6, fun j u hj => ?_⟩, c4, fun _ c hc => ?_⟩
          · simp only [RowC.cells, List.getElem?_map, List.getElem?_set] at hj
            rw [cell_setRow_same w b _ cs _ ty _ d2]
            simp only [List.getElem?_toArray, List.getElem?_set]
            by_cases hjj : ix.toNat = j
            · subst hjj
              simp only [if_true, if_pos hlt, Option.map_some, Option.some.injEq] at hj
              subst hj
              simp [hin]
            · rw [if_neg hjj] at hj
              rw [if_neg (by omega)]
              have := hcell j u (by simpa using hj)
              rw [← this]
              simp [World.cell?, d2]
          · cases hc
            exact ⟨d1, _, ty, setRow_heap w b cs _ ty _ d2, by simpa [Room, RowC.width] using d3⟩
        · cases hq
    split at h <;> try (cases h; done)
    all_goals
      obtain ⟨u, us', rfl, k1, k2⟩ := VL.cons.1 hus
      have hnil := VL.nil.1 k2
      subst hnil
      simp only [V] at k1
      exact fin _ _ k1.1 k1.2 rfl h
  · cases h
end
end Go.Sx
