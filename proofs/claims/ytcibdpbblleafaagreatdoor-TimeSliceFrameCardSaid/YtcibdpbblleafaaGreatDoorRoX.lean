/-
  Several texts joined into one (a program joined them): The row, first part: what the arguments read as, cell by cell. / The row, second part: values of the marked types are compared cell by cell; the base of the walk. / The row, third part: the base of the walk for the program. / The row, fourth part: the package-level variables hold what the condition says. / The row, fifth part: arguments that are structs read as cells; the law's function on what was read. / The row, sixth part: from the statement's reading of the arguments to its answer.
  Conditions: as each part says.
-/
import Derived.Test.YtcibdpbblleafaaGreatDoorLaX
import Derived.Test.YtcibdpbblleafaaGreatDoorRows
import Derived.ProofKit
import Derived.LaidMore
import Derived.OpenShut
import Derived.Stop.Joined
import Derived.Carry
import Derived.SizedLaws
import Derived.Deep.Slices
import Derived.DeepKeys
import Derived.MapViews
import Derived.DeepKeys2
/-
  The row, first part: what the arguments read as, cell by cell.
  Conditions: none; lemmas on readings.
-/
section
namespace Go.Sx
open Go Go.RowKit Go.ChangeShapes
set_option maxRecDepth 100000

noncomputable abbrev Pg : Program := Go.Proofs.Tryz.prog

/-! ### Cells of known kinds -/
def CellIs (w : World) : Kd → Value → CD → Prop
  | .int k, v, .int k' n => k' = k ∧ v = .int k n ∧ InR k n
  | .bool, v, .bool b => v = .bool b
  | .bytes, v, .bytes l => RowAt w v (.bytes l)
  | .evs, v, .evs l => RowAt w v (.evs l)
  | _, _, _ => False

def CellsAre (w : World) : List Kd → List Value → List CD → Prop
  | [], [], [] => True
  | k :: ks, v :: vs, c :: cs => CellIs w k v c ∧ CellsAre w ks vs cs
  | _, _, _ => False

theorem CellsAre.make {w : World} : ∀ {ks : List Kd} {vs : List Value}, ks.length = vs.length → (∀ (i : Nat) k v, ks[i]? = some k → vs[i]? = some v → ∃ c, CellIs w k v c) → ∃ cs, CellsAre w ks vs cs
  | [], [], _, _ => ⟨[], trivial⟩
  | [], _ :: _, h, _ => by simp at h
  | _ :: _, [], h, _ => by simp at h
  | k :: ks, v :: vs, h, hh => by
    obtain ⟨c, hc⟩ := hh 0 k v rfl rfl
    obtain ⟨cs, hcs⟩ := CellsAre.make (ks := ks) (vs := vs) (by simpa using h) fun i k v h1 h2 => hh (i + 1) k v (by simpa using h1) (by simpa using h2)
    exact ⟨c :: cs, hc, hcs⟩

theorem CellIs.reads {w : World} {k : Kd} {v : Value} {c : CD} (h : CellIs w k v c) : ∃ vals, RowsAt w (fun _ => False) vals (rowsL [c]) ∧ ∀ F n, Named F n vals → VL F (encL [c] n) [v] := by
  cases k <;> cases c <;> simp only [CellIs] at h
  · obtain ⟨rfl, rfl, h⟩ := h
    exact ⟨[], rfl, fun F n _ => VL.cons'.2 ⟨by simp only [V]; exact ⟨trivial, h⟩, VL.nil.2 rfl⟩⟩
  · subst h
    exact ⟨[], rfl, fun F n _ => VL.cons'.2 ⟨by simp only [V], VL.nil.2 rfl⟩⟩
  · have h2 := h
    obtain ⟨_, a, cap, rfl, _⟩ := h2
    exact ⟨[_], ⟨_, _, rfl, h, fun _ _ h => h, rfl⟩, fun F n hn => VL.cons'.2 ⟨by simp only [V]; exact ⟨hn 0 _ rfl, _, _, _, rfl⟩, VL.nil.2 rfl⟩⟩
  · have h2 := h
    obtain ⟨_, a, cap, rfl, _⟩ := h2
    exact ⟨[_], ⟨_, _, rfl, h, fun _ _ h => h, rfl⟩, fun F n hn => VL.cons'.2 ⟨by simp only [V]; exact ⟨hn 0 _ rfl, _, _, _, rfl⟩, VL.nil.2 rfl⟩⟩

theorem CellsAre.reads {w : World} : ∀ {ks : List Kd} {vs : List Value} {cs : List CD}, CellsAre w ks vs cs → ∃ vals, RowsAt w (fun _ => False) vals (rowsL cs) ∧ ∀ F n, Named F n vals → VL F (encL cs n) vs
  | [], [], [], _ => ⟨[], rfl, fun _ _ _ => VL.nil.2 rfl⟩
  | k :: ks, v :: vs, c :: cs, h => by
    obtain ⟨va, a1, a2⟩ := h.1.reads
    obtain ⟨vb, b1, b2⟩ := h.2.reads
    refine ⟨va ++ vb, by rw [rowsL_cons]; exact a1.append b1, fun F n hn => ?_⟩
    rw [encL_cons, ← a1.length]
    exact VL.append (l := [v]) (a2 F n hn.left) (b2 F _ hn.right)
  | [], [], _ :: _, h => h.elim
  | [], _ :: _, _, h => h.elim
  | _ :: _, [], _, h => h.elim
  | _ :: _, _ :: _, [], h => h.elim

theorem CellIs.ok {w : World} {k : Kd} {v : Value} {c : CD} (h : CellIs w k v c) : c.Ok := by
  cases k <;> cases c <;> simp only [CellIs] at h
  · obtain ⟨rfl, rfl, h⟩ := h; exact h
  · trivial
  · exact h.1
  · exact h.1

theorem CellsAre.ok {w : World} : ∀ {ks : List Kd} {vs : List Value} {cs : List CD}, CellsAre w ks vs cs → ∀ c ∈ cs, c.Ok
  | [], [], [], _ => fun c hc => by cases hc
  | k :: ks, v :: vs, c :: cs, h => fun x hx => by
    cases hx with
    | head => exact h.1.ok
    | tail _ hm => exact h.2.ok x hm
  | [], [], _ :: _, h => h.elim
  | [], _ :: _, _, h => h.elim
  | _ :: _, [], _, h => h.elim
  | _ :: _, _ :: _, [], h => h.elim

def kindOf : CD → Kd
  | .int k _ => .int k
  | .bool _ => .bool
  | .bytes _ => .bytes
  | .evs _ => .evs

theorem CellsAre.kinds {w : World} : ∀ {ks : List Kd} {vs : List Value} {cs : List CD}, CellsAre w ks vs cs → cs.map kindOf = ks
  | [], [], [], _ => rfl
  | k :: ks, v :: vs, c :: cs, h => by
    have h1 : kindOf c = k := by
      have := h.1
      cases k <;> cases c <;> simp only [CellIs] at this
      · obtain ⟨rfl, _⟩ := this; rfl
      · rfl
      · rfl
      · rfl
    rw [List.map_cons, h1, h.2.kinds]
  | [], [], _ :: _, h => h.elim
  | [], _ :: _, _, h => h.elim
  | _ :: _, [], _, h => h.elim
  | _ :: _, _ :: _, [], h => h.elim

/-! ### Kinds say the shape -/
theorem ints_of {k : IntKind} : ∀ (n : Nat) {cds : List CD} {rest : List Kd}, cds.map kindOf = List.replicate n (.int k) ++ rest → ∃ (l : List Int) (tail : List CD), l.length = n ∧ cds = l.map (CD.int k) ++ tail ∧ tail.map kindOf = rest
  | 0, cds, rest, h => ⟨[], cds, rfl, rfl, by simpa using h⟩
  | n + 1, [], rest, h => by simp [List.replicate_succ] at h
  | n + 1, c :: cds, rest, h => by
    rw [List.replicate_succ, List.cons_append, List.map_cons, List.cons.injEq] at h
    obtain ⟨h1, h2⟩ := h
    obtain ⟨l, tail, e1, e2, e3⟩ := ints_of n h2
    cases c with
    | int k' v =>
      simp only [kindOf, Kd.int.injEq] at h1
      subst h1
      exact ⟨v :: l, tail, by simp [e1], by simp [e2], e3⟩
    | bool b => cases h1
    | bytes l => cases h1
    | evs l => cases h1

theorem regs_of : ∀ {l : List Int}, l.length = 16 → ∃ r : Regs, r.list = l
  | [a0, a1, a2, a3, a4, a5, a6, a7, a8, a9, a10, a11, a12, a13, a14, a15], _ => ⟨⟨a0, a1, a2, a3, a4, a5, a6, a7, a8, a9, a10, a11, a12, a13, a14, a15⟩, rfl⟩
theorem csrs_of : ∀ {l : List Int}, l.length = 12 → ∃ r : Csrs, r.list = l
  | [a0, a1, a2, a3, a4, a5, a6, a7, a8, a9, a10, a11], _ => ⟨⟨a0, a1, a2, a3, a4, a5, a6, a7, a8, a9, a10, a11⟩, rfl⟩

theorem core_of {cds : List CD} {rest : List Kd} (h : cds.map kindOf = coreKs ++ rest) : ∃ (c : Core) (tail : List CD), cds = c.cds ++ tail ∧ tail.map kindOf = rest := by
  obtain ⟨l, tail, h1, rfl, h2⟩ := ints_of 29 h
  have hs : l = l.take 16 ++ ((l.drop 16).take 1 ++ (l.drop 17)) := by
    rw [show l.drop 17 = (l.drop 16).drop 1 by simp, List.take_append_drop, List.take_append_drop]
  obtain ⟨r, hr⟩ := regs_of (l := l.take 16) (by simp [h1])
  obtain ⟨c, hc⟩ := csrs_of (l := l.drop 17) (by simp [h1])
  obtain ⟨p, hp⟩ : ∃ p, (l.drop 16).take 1 = [p] := by
    have : ((l.drop 16).take 1).length = 1 := by simp [h1]
    exact List.length_eq_one_iff.1 this
  refine ⟨⟨r, p, c⟩, tail, ?_, h2⟩
  congr 1
  rw [hs, ← hr, ← hc, hp]
  rfl

theorem mach_of {cds : List CD} (h : cds.map kindOf = machKs) : ∃ m : Mach, cds = m.cds := by
  obtain ⟨c, tail, rfl, ht⟩ := core_of h
  match tail, ht with
  | [.bytes a, .int .u64 b, .bytes d, .bool e], _ => exact ⟨⟨c, a, b, d, e⟩, rfl⟩

theorem vcpu_of {cds : List CD} (h : cds.map kindOf = vcpuKs) : ∃ v : Vcpu, cds = v.cds := by
  obtain ⟨c, tail, rfl, ht⟩ := core_of h
  match tail, ht with
  | [.bytes a, .bool b, .int .i64 d, .evs e], _ => exact ⟨⟨c, a, b, d, e⟩, rfl⟩

theorem part_of {cds : List CD} (h : cds.map kindOf = partKs) : ∃ p : Part, cds = p.cds := by
  match cds, h with
  | [.int .u32 a, .int .u32 b], _ => exact ⟨⟨a, b⟩, rfl⟩

/-! ### Cells by their types -/
section
variable {P : Program} {W : World} {b0 : Nat}

theorem cell_int {u : TypeId} {k : IntKind} {v : Value} (hu : P.underlying u = some (.int k)) (h : Cell.okWide P W .any b0 u v) : ∃ c, CellIs W (.int k) v c := by
  unfold Cell.okWide at h
  rw [hu] at h
  unfold Cell.ok at h
  rw [hu] at h
  cases v <;> simp only [] at h <;> try (exact h.elim)
  obtain ⟨rfl, h⟩ := h
  exact ⟨.int _ _, rfl, rfl, h⟩

theorem cell_bool {u : TypeId} {v : Value} (hu : P.underlying u = some .bool) (h : Cell.okWide P W .any b0 u v) : ∃ c, CellIs W .bool v c := by
  unfold Cell.okWide at h
  rw [hu] at h
  unfold Cell.ok at h
  rw [hu] at h
  cases v <;> simp only [] at h <;> try (exact h.elim)
  exact ⟨.bool _, rfl⟩

theorem cell_slice {u e : TypeId} {a : Addr} {len cap : Nat} (hu : P.underlying u = some (.slice e)) (h : Cell.okWide P W .any b0 u (.slice (some a) len cap)) : a.spot = none ∧ a.block < W.heap.size := by
  unfold Cell.okWide at h
  rw [hu] at h
  unfold Cell.ok at h
  rw [hu] at h
  simp only [] at h
  obtain ⟨_, _, _, h1, row, cells, h2, _⟩ := h
  refine ⟨h1, ?_⟩
  unfold World.shape? at h2
  cases hh : W.heap[a.block]? with
  | none => rw [hh] at h2; cases h2
  | some o => exact (Array.getElem?_eq_some_iff.1 hh).1

variable {H : Type} {enc : TypeId × Value → H} {base : Nat}

theorem bytes_cell {t e : TypeId} (hu : P.underlying t = some (.slice e)) (he : P.underlying e = some (.int .u8)) (hc : P.cellsOf e = 1) (hb5 : P.bytesOf e = 1) {v : Value} {fuel : Nat} {x : DataW H × List MemPlace} (h : DataW.trod enc P W base (fun _ => true) true fuel t [v] = some x) (hok : Cell.okWide P W .any b0 t v)
    (hsz : ∀ es ss : List (DataW H), x.1 = .slice es ss → (es.length + ss.length) * P.bytesOf e ≤ reachBytes) : ∃ c, CellIs W .bytes v c := by
  rcases open_ints hu he hc h with ⟨h1, _⟩ | ⟨a, len, cap, zs, h1, h2, h3, h4, h5, h6, h7, h8⟩
  · simp only [List.cons.injEq, and_true] at h1
    subst h1
    exact ⟨.bytes [], nilRow W (.bytes []) (fun v hv => (by cases hv)) rfl⟩
  · simp only [List.cons.injEq, and_true] at h1
    subst h1
    simp only [if_true] at h5
    obtain ⟨g1, g2⟩ := cell_slice hu hok
    have hr := hsz _ _ (by rw [h6])
    have hlen : (zs.take len).length = len := by rw [List.length_take]; omega
    have hr2 : len ≤ reachBytes := by
      rw [hb5] at hr
      simp [lits] at hr
      omega
    have hreach : reachBytes < 2 ^ 47 := reachBytes_lt
    have hl : (RowC.bytes (zs.take len)).len = len := hlen
    obtain ⟨ab, ao, asp⟩ := a
    simp only at g1 g2
    subst g1
    refine ⟨.bytes (zs.take len), ⟨⟨fun v hv => ?_, by rw [hl]; omega⟩, some ⟨ab, ao, none⟩, cap, by rw [hl], by rw [hl]; exact h3, rfl, g2, fun j u hj => ?_⟩⟩
    · have := h8 v (List.mem_of_mem_take hv)
      simp only [Lit.wf, Bool.and_eq_true, decide_eq_true_eq] at this
      exact this
    · simp only [RowC.cells, List.getElem?_map, Option.map_eq_some_iff] at hj
      obtain ⟨z, hz, rfl⟩ := hj
      rw [List.getElem?_take] at hz
      split at hz
      · have hjl := (List.getElem?_eq_some_iff.1 hz).1
        have := h7 j hjl
        rw [add_mk] at this
        rw [this, List.getD_eq_getElem?_getD, hz]
        rfl
      · cases hz

end

/-! ### Structs -/
def fieldsOf (P : Program) (t : TypeId) : Option (List (TypeId × Nat)) :=
  match P.underlying t with
  | some (.struct fs) => some (fs.toList.map fun f => (f.type, f.offset))
  | _ => none

section
variable {P : Program} {W : World} {b0 : Nat} {H : Type} {enc : TypeId × Value → H} {base : Nat} {spare : Nat → Bool} {held : Bool}

theorem trod_fields {t : TypeId} {l : List (TypeId × Nat)} (hl : fieldsOf P t = some l) {fuel : Nat} {cs : List Value} {x : DataW H × List MemPlace} (h : DataW.trod enc P W base spare held fuel t cs = some x) :
    ∃ (fs : Array Field) (parts : List (DataW H × List MemPlace)) (m : Nat), P.underlying t = some (.struct fs) ∧ fs.toList.map (fun f => (f.type, f.offset)) = l ∧ cs.length = P.cellsOf t ∧ x.1 = .agg (parts.map (·.1)) ∧
      ∀ (i : Nat) ty off, l[i]? = some (ty, off) → ∃ y, parts[i]? = some y ∧ DataW.trod enc P W base spare held m ty ((cs.drop off).take (P.cellsOf ty)) = some y := by
  unfold fieldsOf at hl
  split at hl <;> try (cases hl; done)
  rename_i fs hu
  cases hl
  obtain ⟨xs, n, _, h2, h3, h4, h5⟩ := DataW.trod_struct hu h
  refine ⟨fs, xs, n, hu, rfl, h3, by rw [h2], fun i ty off hi => ?_⟩
  simp only [List.getElem?_map, Option.map_eq_some_iff, Array.getElem?_toList, Prod.mk.injEq] at hi
  obtain ⟨f, hf, rfl, rfl⟩ := hi
  have hlt : i < xs.length := by rw [h4]; exact (Array.getElem?_eq_some_iff.1 hf).1
  have := h5 i f hf
  rw [List.getElem?_eq_getElem hlt] at this
  exact ⟨xs[i], List.getElem?_eq_getElem hlt, this⟩

theorem ev_cells {t ti tu : TypeId} (hf : fieldsOf P t = some [(ti, 0), (ti, 1), (tu, 2)]) (hc65 : P.cellsOf t = 3) (hc3 : P.cellsOf ti = 1) (hc28 : P.cellsOf tu = 1) (h3 : P.underlying ti = some (.int .i64)) (h28 : P.underlying tu = some (.int .u64)) {cs : List Value} {fuel : Nat} {x : DataW H × List MemPlace} (h : DataW.trod enc P W base spare held fuel t cs = some x) : ∃ e : Ev, cs = evCells e ∧ InR .i64 e.kind ∧ InR .i64 e.at_ ∧ InR .u64 e.time := by
  obtain ⟨fs, parts, m, _, _, hlen, _, hp⟩ := trod_fields hf h
  rw [hc65] at hlen
  match cs, hlen with
  | [a, b, c], _ =>
    obtain ⟨y0, _, q0⟩ := hp 0 ti 0 rfl
    obtain ⟨y1, _, q1⟩ := hp 1 ti 1 rfl
    obtain ⟨y2, _, q2⟩ := hp 2 tu 2 rfl
    rw [hc3] at q0 q1
    rw [hc28] at q2
    obtain ⟨n0, e0, _, w0⟩ := DataW.trod_int h3 q0
    obtain ⟨n1, e1, _, w1⟩ := DataW.trod_int h3 q1
    obtain ⟨n2, e2, _, w2⟩ := DataW.trod_int h28 q2
    simp at e0 e1 e2
    subst e0 e1 e2
    simp only [Lit.wf, Bool.and_eq_true, decide_eq_true_eq] at w0 w1 w2
    exact ⟨⟨n0, n1, n2⟩, rfl, w0, w1, w2⟩

theorem evs_cell {s t ti tu : TypeId} (hu : P.underlying s = some (.slice t)) (hf : fieldsOf P t = some [(ti, 0), (ti, 1), (tu, 2)]) (hc : P.cellsOf t = 3) (hc3 : P.cellsOf ti = 1) (hc28 : P.cellsOf tu = 1) (h3 : P.underlying ti = some (.int .i64)) (h28 : P.underlying tu = some (.int .u64)) (hb : P.bytesOf t = 24)
    {v : Value} {fuel : Nat} {x : DataW H × List MemPlace} (h : DataW.trod enc P W base (fun _ => true) held fuel s [v] = some x) (hok : Cell.okWide P W .any b0 s v)
    (hsz : ∀ es ss : List (DataW H), x.1 = .slice es ss → (es.length + ss.length) * P.bytesOf t ≤ reachBytes) : ∃ c, CellIs W .evs v c := by
  rcases Deep.open_slice hu h with ⟨h1, _⟩ | ⟨a, len, cap, m, n, D, Pl, h1, h2, h3', h4, h5, h6, h7⟩
  · simp only [List.cons.injEq, and_true] at h1
    subst h1
    exact ⟨.evs [], nilRow W (.evs []) (fun v hv => (by cases hv)) rfl⟩
  · simp only [List.cons.injEq, and_true] at h1
    subst h1
    simp only [if_true] at h5
    subst h5
    obtain ⟨g1, g2⟩ := cell_slice hu hok
    have hr := hsz _ _ (by rw [h6])
    rw [hb] at hr
    simp only [List.length_map, List.length_range] at hr
    have hreach : reachBytes < 2 ^ 47 := reachBytes_lt
    obtain ⟨ab, ao, asp⟩ := a
    simp only at g1 g2
    subst g1
    have each : ∀ i, i < m → ∃ e : Ev, (∀ j u, (evCells e)[j]? = some u → W.cell? ⟨ab, ao + (3 * i + j), none⟩ = some u) ∧ InR .i64 e.kind ∧ InR .i64 e.at_ ∧ InR .u64 e.time := by
      intro i hi
      obtain ⟨cs', k1, k2⟩ := h7 i hi
      rw [hc] at k1
      obtain ⟨e, rfl, hr⟩ := ev_cells hf hc hc3 hc28 h3 h28 k2
      refine ⟨e, fun j u hj => ?_, hr⟩
      obtain ⟨_, _, k3⟩ := World.cells?_some k1
      have hj3 : j < 3 := (List.getElem?_eq_some_iff.1 hj).1
      have := k3 j hj3
      rw [add_mk, add_mk] at this
      rw [← hj, ← this]
      congr 2
      omega
    let f : Nat → Ev := fun i => if h : i < m then Classical.choose (each i h) else ⟨1, 0, 0⟩
    have hf : ∀ i, i < m → (∀ j u, (evCells (f i))[j]? = some u → W.cell? ⟨ab, ao + (3 * i + j), none⟩ = some u) ∧ InR .i64 (f i).kind ∧ InR .i64 (f i).at_ ∧ InR .u64 (f i).time := fun i hi => by
      simp only [f, dif_pos hi]
      exact Classical.choose_spec (each i hi)
    have hl : (RowC.evs ((List.range len).map f)).len = len := by simp [RowC.len]
    refine ⟨.evs ((List.range len).map f), ⟨⟨fun e he => ?_, by rw [hl]; omega⟩, some ⟨ab, ao, none⟩, m, by rw [hl], by rw [hl]; exact h3', rfl, g2, fun j u hj => ?_⟩⟩
    · obtain ⟨i, hi, rfl⟩ := List.mem_map.1 he
      exact (hf i (by have := List.mem_range.1 hi; omega)).2
    · simp only [RowC.cells] at hj
      have hjl := (List.getElem?_eq_some_iff.1 hj).1
      rw [evCells_length] at hjl
      simp only [List.length_map, List.length_range] at hjl
      have hq : j / 3 < len := by omega
      have he : ((List.range len).map f)[j / 3]? = some (f (j / 3)) := by simp [hq]
      have hsplit := ev_evCells he (j % 3) (Nat.mod_lt _ (by decide))
      rw [show 3 * (j / 3) + j % 3 = j by omega] at hsplit
      rw [hsplit] at hj
      have := (hf (j / 3) (by omega)).1 (j % 3) u hj
      rw [show 3 * (j / 3) + j % 3 = j by omega] at this
      exact this
end
end Go.Sx
end

/-
  The row, second part: values of the marked types are compared cell by cell; the base of the walk.
  Conditions: none; lemmas on the model's comparison.
-/
section
namespace Go.Sx
open Go Go.RowKit
set_option maxRecDepth 100000

theorem IntsEq.split : ∀ {a b ys : List Value} {r : Bool}, IntsEq (a ++ b) ys r → ∃ r1 r2, IntsEq a (ys.take a.length) r1 ∧ IntsEq b (ys.drop a.length) r2 ∧ r = (r1 && r2)
  | [], b, ys, r, h => ⟨true, r, ⟨rfl, rfl⟩, h, by simp⟩
  | x :: a, b, ys, r, h => by
    obtain ⟨k, p, q, m, s, rfl, rfl, h2, rfl⟩ := h
    obtain ⟨r1, r2, h3, h4, rfl⟩ := IntsEq.split (a := a) h2
    exact ⟨((p == q) && r1), r2, ⟨k, p, q, _, r1, rfl, by simp, h3, rfl⟩, by simpa using h4, by rw [Bool.and_assoc]⟩

theorem IntsEq.length : ∀ {xs ys : List Value} {r : Bool}, IntsEq xs ys r → ys.length = xs.length
  | [], ys, r, h => by rw [h.1]
  | x :: xs, ys, r, h => by
    obtain ⟨k, p, q, m, s, rfl, rfl, h2, _⟩ := h
    simp [h2.length]

/-- The parts of two values at a place are read and compared. -/
def EqP (P : Program) (d : Nat) (e : TypeId) (n : Nat) : Prop := ∀ (w : World) (X Y : Array Value) (off : Nat) (r : Bool), IntsEq ((X.toList.drop off).take n) ((Y.toList.drop off).take n) r → ((X.toList.drop off).take n).length = n →
  ∃ a b, (part e X off).run P w = .ok a w ∧ (part e Y off).run P w = .ok b w ∧ (Op.equalIn d e a b).run P w = .ok r w

section
variable {P : Program}

theorem eqp_int {e : TypeId} {k : IntKind} (hu : P.underlying e = some (.int k)) (d : Nat) : EqP P (d + 1) e 1 := by
  intro w X Y off r h hl
  match hx : (X.toList.drop off).take 1, hl with
  | [x], _ =>
    rw [hx] at h
    obtain ⟨q, a, b, m, s, rfl, hy, h2, rfl⟩ := h
    obtain ⟨rfl, rfl⟩ := h2
    have hp : P.plainKey e = true := by simp [Program.plainKey, hu]
    refine ⟨_, _, run_part_plain w hp (getElem?_of_chunk hx), run_part_plain w hp (getElem?_of_chunk hy), ?_⟩
    rw [run_equalIn_int w d e q k a b hu]
    simp

theorem eq_items {e : TypeId} (d : Nat) (he : EqP P d e 1) (w : World) (X Y : Array Value) : ∀ (m s : Nat) (r : Bool), IntsEq (X.toList.drop s) (Y.toList.drop s) r → (X.toList.drop s).length = m → (Op.eqItems d e 1 X Y (List.range' s m)).run P w = .ok r w
  | 0, s, r, h, hl => by
    rw [List.length_eq_zero_iff.1 hl] at h
    simp [Op.eqItems, h.2]
  | m + 1, s, r, h, hl => by
    have hs : X.toList.drop s = (X.toList.drop s).take 1 ++ X.toList.drop (s + 1) := by
      rw [← List.drop_drop, List.take_append_drop]
    have h1 : ((X.toList.drop s).take 1).length = 1 := by rw [List.length_take, hl]; omega
    rw [hs] at h
    obtain ⟨r1, r2, g1, g2, rfl⟩ := h.split
    rw [h1] at g1 g2
    rw [List.drop_drop] at g2
    obtain ⟨a, b, p1, p2, p3⟩ := he w X Y s r1 g1 h1
    have ih := eq_items d he w X Y m (s + 1) r2 g2 (by rw [← List.drop_drop, List.length_drop, hl]; omega)
    rw [List.range'_succ]
    simp only [Op.eqItems, Nat.mul_one, Sem.run_bind, p1, p2, p3, Result.andThen_ok]
    cases r1
    · simp
    · simpa using ih

theorem eqp_arr {t e : TypeId} {n : Nat} {k : IntKind} (hu : P.underlying t = some (.array n e)) (he : P.underlying e = some (.int k)) (hc : P.cellsOf e = 1) (hn : P.cellsOf t = n) (d : Nat) : EqP P (d + 2) t n := by
  intro w X Y off r h hl
  obtain ⟨i, hi⟩ := info_of_underlying hu
  obtain ⟨ie, hie⟩ := info_of_underlying he
  refine ⟨.agg (X.extract off (off + n)), .agg (Y.extract off (off + n)), ?_, ?_, ?_⟩
  · simp [part, isAgg, run_underlying hu, run_sizeOf w hi, hn]
  · simp [part, isAgg, run_underlying hu, run_sizeOf w hi, hn]
  · rw [show d + 2 = (d + 1) + 1 from rfl, run_equalIn_array w (d + 1) _ _ hu hie, hc, List.range_eq_range']
    have hx : ∀ Z : Array Value, (Z.extract off (off + n)).toList = (Z.toList.drop off).take n := by
      intro Z
      rw [Array.toList_extract]
      simp [List.extract]
    refine eq_items (d + 1) (eqp_int he d) w _ _ n 0 r ?_ ?_
    · rw [hx, hx]; exact h
    · rw [hx]; exact hl

theorem eq_fields (d : Nat) (w : World) (X Y : Array Value) : ∀ (fs : List Field) (off : Nat) (r : Bool), (∀ f ∈ fs, f.name ≠ "_") → (∀ f ∈ fs, EqP P d f.type (P.cellsOf f.type)) → P.runs off fs = some X.size → IntsEq (X.toList.drop off) (Y.toList.drop off) r → (Op.eqFields d X Y fs).run P w = .ok r w
  | [], off, r, _, _, hr, h => by
    simp only [Program.runs, Option.some.injEq] at hr
    rw [List.drop_of_length_le (by simp [hr])] at h
    simp [Op.eqFields, h.2]
  | f :: fs, off, r, hn, he, hr, h => by
    simp only [Program.runs] at hr
    split at hr <;> try (cases hr; done)
    rename_i ho
    subst ho
    have hle := runs_le fs hr
    have h1 : ((X.toList.drop f.offset).take (P.cellsOf f.type)).length = P.cellsOf f.type := by
      rw [List.length_take, List.length_drop, Array.length_toList]; omega
    have hs : X.toList.drop f.offset = (X.toList.drop f.offset).take (P.cellsOf f.type) ++ X.toList.drop (f.offset + P.cellsOf f.type) := by
      rw [← List.drop_drop, List.take_append_drop]
    rw [hs] at h
    obtain ⟨r1, r2, g1, g2, rfl⟩ := h.split
    rw [h1] at g1 g2
    rw [List.drop_drop] at g2
    obtain ⟨a, b, p1, p2, p3⟩ := he f (by simp) w X Y f.offset r1 g1 h1
    have ih := eq_fields d w X Y fs (f.offset + P.cellsOf f.type) r2 (fun g hg => hn g (by simp [hg])) (fun g hg => he g (by simp [hg])) hr g2
    simp only [Op.eqFields, hn f (by simp), ne_eq, not_false_eq_true, if_true, Sem.run_bind, p1, p2, p3, Result.andThen_ok]
    cases r1
    · simp
    · simpa using ih
where
  runs_le : ∀ (fs : List Field) {off n : Nat}, P.runs off fs = some n → off ≤ n
    | [], off, n, h => by simp only [Program.runs, Option.some.injEq] at h; omega
    | f :: fs, off, n, h => by
      simp only [Program.runs] at h
      split at h <;> try (cases h; done)
      have := runs_le fs h
      omega

theorem equal_struct {t : TypeId} {fs : Array Field} (hu : P.underlying t = some (.struct fs)) (hs : P.stoodInHeld t = false) (hn : ∀ f ∈ fs.toList, f.name ≠ "_") (d : Nat) (he : ∀ f ∈ fs.toList, EqP P d f.type (P.cellsOf f.type)) {n : Nat} (hr : P.runs 0 fs.toList = some n)
    {w : World} {xs ys : List Value} {r : Bool} (h : IntsEq xs ys r) (hl : xs.length = n) : (Op.equalIn (d + 1) t (.agg xs.toArray) (.agg ys.toArray)).run P w = .ok r w := by
  have hfs : P.fieldsOf t = fs := by simp [Program.fieldsOf, hu]
  rw [run_equalIn_struct w d t _ _ (by rw [hfs]; exact hu) hs, hfs]
  exact eq_fields d w _ _ fs.toList 0 r hn he (by rw [hr]; simp [hl]) (by simpa using h)

theorem equal_array {t e : TypeId} {n : Nat} {k : IntKind} (hu : P.underlying t = some (.array n e)) (he : P.underlying e = some (.int k)) (hc : P.cellsOf e = 1) (d : Nat)
    {w : World} {xs ys : List Value} {r : Bool} (h : IntsEq xs ys r) (hl : xs.length = n) : (Op.equalIn (d + 2) t (.agg xs.toArray) (.agg ys.toArray)).run P w = .ok r w := by
  obtain ⟨ie, hie⟩ := info_of_underlying he
  rw [show d + 2 = (d + 1) + 1 from rfl, run_equalIn_array w (d + 1) _ _ hu hie, hc, List.range_eq_range']
  exact eq_items (d + 1) (eqp_int he d) w _ _ n 0 r (by simpa using h) (by simpa using hl)
end
end Go.Sx
end

/-
  The row, third part: the base of the walk for the program.
  Conditions: none.
-/
section
namespace Go.Sx
open Go Go.RowKit
set_option maxRecDepth 100000

noncomputable def eqTy (t : TypeId) : Bool := Nat.beq t 22 || (Nat.beq t 3 || (Nat.beq t 28 || (Nat.beq t 23 || Nat.beq t 24)))

theorem eqp_of {t : TypeId} (h : eqTy t = true) : EqP Pg 9999 t (Pg.cellsOf t) := by
  simp only [eqTy, Bool.or_eq_true, Nat.beq_eq] at h
  rcases h with rfl | rfl | rfl | rfl | rfl
  · rw [show Pg.cellsOf 22 = 1 by kernel_rfl]; exact eqp_int (k := .u32) (by kernel_rfl) 9998
  · rw [show Pg.cellsOf 3 = 1 by kernel_rfl]; exact eqp_int (k := .i64) (by kernel_rfl) 9998
  · rw [show Pg.cellsOf 28 = 1 by kernel_rfl]; exact eqp_int (k := .u64) (by kernel_rfl) 9998
  · rw [show Pg.cellsOf 23 = 16 by kernel_rfl]; exact eqp_arr (e := 22) (k := .u32) (by kernel_rfl) (by kernel_rfl) (by kernel_rfl) (by kernel_rfl) 9997
  · rw [show Pg.cellsOf 24 = 12 by kernel_rfl]; exact eqp_arr (e := 22) (k := .u32) (by kernel_rfl) (by kernel_rfl) (by kernel_rfl) (by kernel_rfl) 9997

theorem equal_fields {P : Program} {t : TypeId} (hp : ∀ {t}, eqTy t = true → EqP P 9999 t (P.cellsOf t)) (hu : P.underlying t = some (.struct (P.fieldsOf t))) (hs : P.stoodInHeld t = false) (hn : ((P.fieldsOf t).toList.all fun f => f.name != "_" && eqTy f.type) = true) {n : Nat} (hr : P.runs 0 (P.fieldsOf t).toList = some n)
    {w : World} {xs ys : List Value} {r : Bool} (h : IntsEq xs ys r) (hl : sizeT P t = some xs.length) (hz : sizeT P t = some n) : (Op.equal t (.agg xs.toArray) (.agg ys.toArray)).run P w = .ok r w := by
  have hall := List.all_eq_true.1 hn
  refine equal_struct hu hs (fun f hf => ?_) 9999 (fun f hf => ?_) hr h (by rw [hl] at hz; exact Option.some.inj hz)
  · have := hall f hf
    simp only [Bool.and_eq_true, bne_iff_ne] at this
    exact this.1
  · have := hall f hf
    simp only [Bool.and_eq_true] at this
    exact hp this.2

theorem eq_ok : EqOk tcx := by
  intro t ht xs ys r w h hl
  have hl' : sizeT Pg t = some xs.length := hl
  clear hl
  show Pg.eqGuardType Pg.depth t = false ∧ (Op.equal t (.agg xs.toArray) (.agg ys.toArray)).run Pg w = .ok r w
  have ht' : (Nat.beq t 23 || (Nat.beq t 26 || (Nat.beq t 56 || Nat.beq t 65))) = true := ht
  clear ht
  simp only [Bool.or_eq_true, Nat.beq_eq] at ht'
  rcases ht' with rfl | rfl | rfl | rfl
  · refine ⟨by kernel_rfl, ?_⟩
    have hz : sizeT Pg 23 = some 16 := by kernel_rfl
    exact equal_array (P := Pg) (e := 22) (n := 16) (k := .u32) (by kernel_rfl) (by kernel_rfl) (by kernel_rfl) 9998 h (by rw [hl'] at hz; exact Option.some.inj hz)
  · exact ⟨by kernel_rfl, equal_fields (P := Pg) (n := 29) eqp_of (by kernel_rfl) (by kernel_rfl) (by kernel_rfl) (by kernel_rfl) h hl' (by kernel_rfl)⟩
  · exact ⟨by kernel_rfl, equal_fields (P := Pg) (n := 2) eqp_of (by kernel_rfl) (by kernel_rfl) (by kernel_rfl) (by kernel_rfl) h hl' (by kernel_rfl)⟩
  · exact ⟨by kernel_rfl, equal_fields (P := Pg) (n := 3) eqp_of (by kernel_rfl) (by kernel_rfl) (by kernel_rfl) (by kernel_rfl) h hl' (by kernel_rfl)⟩

theorem names_of {P : Program} (h : (P.funcs.toList.all fun fn => !(fn.name == "runtime.NumGoroutine")) = true) (g : FuncId) (fn : Func) (hg : P.funcs[g]? = some fn) : (fn.name == "runtime.NumGoroutine") = false := by
  have := List.all_eq_true.1 h fn (by obtain ⟨h1, h2⟩ := Array.getElem?_eq_some_iff.1 hg; rw [← h2]; exact Array.mem_toList_iff.2 (Array.getElem_mem h1))
  simpa using this

theorem base : Base :=
  ⟨eq_ok, names_of (P := Pg) (by kernel_rfl), by kernel_rfl⟩
end Go.Sx
end

/-
  The row, fourth part: the package-level variables hold what the condition says.
  Conditions: none.
-/
section
namespace Go.Sx
open Go Go.RowKit
set_option maxRecDepth 100000

/-- What is read off cells of literals alone names the cells. -/
theorem cells_of_trod {P : Program} {H : Type} {enc : TypeId × Value → H} {w : World} {base : Nat} {sp : Nat → Bool} {held : Bool} {t : TypeId} (m : Nat) (hk : P.keyTypeAt m t = true) (ht : P.tiled m t = true) {n : Nat} {cs : List Value} {x : DataW H × List MemPlace}
    (h : DataW.trod enc P w base sp held n t cs = some x) : cs = x.1.flat.map Lit.toCell :=
  cells_of_lits m t ht m cs _ (keyLits_of_trod m t hk n cs x h).1

theorem var_heap {P : Program} {w : World} {n : String} {g : Nat} {cs : Array Value} (hg : P.globalNamed n = some g) (h : w.var? P n = some cs) : ∃ ty fr, w.heap[g]? = some (.cells cs ty fr) := by
  simp only [World.var?, hg, Option.bind_some] at h
  split at h
  · rename_i c t fr hb
    cases h
    exact ⟨t, fr, hb⟩
  · cases h

theorem one_glob {P : Program} {W : World} {n : String} {d : DataW Unit} {g : Nat} {t : TypeId} (hgn : P.globalNamed n = some g) (htn : (P.globals[g]?).map (·.type) = some t) (hk : P.keyTypeAt 8 t = true) (ht : P.tiled 8 t = true)
    {g' : Nat} {t' : TypeId} {cs : Array Value} {fuel : Nat} {p : List MemPlace} (hg : P.globalNamed n = some g') (hT : (P.globals[g']?).map (·.type) = some t') (hv : W.var? P n = some cs) (hd : DataW.trod (fun _ => ()) P W 0 (fun _ => true) false fuel t' cs.toList = some (d, p))
    {l : List SV} (hl : l = (d.flat.map Lit.toCell).map constSV) : ∃ (vs : List Value) (ty : TypeId) (fr : Nat × Nat), W.heap[g]? = some (.cells vs.toArray ty fr) ∧ ∀ E, VL E l vs := by
  obtain rfl := Option.some.inj (hgn.symm.trans hg)
  obtain rfl := Option.some.inj (htn.symm.trans hT)
  obtain ⟨ty, fr, hb⟩ := var_heap hg hv
  have hc := cells_of_trod 8 hk ht hd
  refine ⟨cs.toList, ty, fr, by simpa using hb, fun E => ?_⟩
  rw [hl, hc]
  have := VL.ofMap (E := E) constSV id (d.flat.map Lit.toCell) fun x _ => constSV_V E x
  simpa using this

noncomputable abbrev laid3 : List (String × DataW Unit) := [("gaoler/isa.forms", Go.Proofs.YtcibdpbblleafaaGreatDoor.Rows.laid_gaoler_isa_forms), ("gaoler/isa.parts", Go.Proofs.YtcibdpbblleafaaGreatDoor.Rows.laid_gaoler_isa_parts), ("gaoler/fetch.none", Go.Proofs.YtcibdpbblleafaaGreatDoor.Rows.laid_gaoler_fetch_none)]

theorem glob_ok {W : World} (h : laidMetH Pg laid3 W) : GlobOk tcx W := by
  rw [MakeChecks.laidMetH_plain _ _ _ (by kernel_rfl)] at h
  obtain ⟨ps, ⟨g0, t0, cs0, f0, p0, q0, hg0, ht0, hv0, hd0, ⟨g1, t1, cs1, f1, p1, q1, hg1, ht1, hv1, hd1, ⟨g2, t2, cs2, f2, p2, q2, hg2, ht2, hv2, hd2, _, _⟩, _⟩, _⟩, _, _⟩ := h
  have r1 := fun l hl => one_glob (P := Pg) (g := 1) (t := 149) (by kernel_rfl) (by kernel_rfl) (by kernel_rfl) (by kernel_rfl) hg0 ht0 hv0 hd0 (l := l) hl
  have r0 := fun l hl => one_glob (P := Pg) (g := 0) (t := 141) (by kernel_rfl) (by kernel_rfl) (by kernel_rfl) (by kernel_rfl) hg1 ht1 hv1 hd1 (l := l) hl
  have r2 := fun l hl => one_glob (P := Pg) (g := 2) (t := 56) (by kernel_rfl) (by kernel_rfl) (by kernel_rfl) (by kernel_rfl) hg2 ht2 hv2 hd2 (l := l) hl
  clear hg0 ht0 hv0 hd0 hg1 ht1 hv1 hd1 hg2 ht2 hv2 hd2
  intro g cs hcs
  have hcs' : globals g = some cs := hcs
  clear hcs
  match g, hcs' with
  | 0, h => exact r0 cs (by cases h; rfl)
  | 1, h => exact r1 cs (by cases h; rfl)
  | 2, h => exact r2 cs (by cases h; rfl)
end Go.Sx
end

/-
  The row, fifth part: arguments that are structs read as cells; the law's function on what was read.
  Conditions: none.
-/
section
namespace Go.Sx
open Go Go.RowKit Go.ChangeShapes
set_option maxRecDepth 100000

/-- What is known of the events' type. -/
structure EvT (P : Program) : Prop where
  f : fieldsOf P 65 = some [(3, 0), (3, 1), (28, 2)]
  c65 : P.cellsOf 65 = 3
  c3 : P.cellsOf 3 = 1
  c28 : P.cellsOf 28 = 1
  u3 : P.underlying 3 = some (.int .i64)
  u28 : P.underlying 28 = some (.int .u64)
  b : P.bytesOf 65 = 24

/-- The list holds the type at the place. -/
def hasAt (l : List (TypeId × Nat)) (u : TypeId) (i : Nat) : Bool := l.any fun x => Nat.beq x.1 u && Nat.beq x.2 i

/-- A cell's kind fits its type. -/
noncomputable def kdOk (P : Program) (l : List (TypeId × Nat)) (i : Nat) (k : Kd) (u : TypeId) : Bool :=
  match k, P.underlying u with
  | .int q, some (.int q') => kindB q q'
  | .bool, some .bool => true
  | .bytes, some (.slice e) => (match P.underlying e with | some (.int .u8) => true | _ => false) && (Nat.beq (P.cellsOf e) 1 && (Nat.beq (P.bytesOf e) 1 && (hasAt l u i && Nat.beq (P.cellsOf u) 1)))
  | .evs, some (.slice e) => Nat.beq e 65 && (hasAt l u i && Nat.beq (P.cellsOf u) 1)
  | _, _ => false

noncomputable def chk (P : Program) (l : List (TypeId × Nat)) : Nat → List Kd → List TypeId → Bool
  | _, [], [] => true
  | i, k :: ks, u :: us => kdOk P l i k u && chk P l (i + 1) ks us
  | _, _, _ => false

theorem chk_get {P : Program} {l : List (TypeId × Nat)} : ∀ {ks : List Kd} {us : List TypeId} {n : Nat}, chk P l n ks us = true → ks.length = us.length ∧ ∀ (i : Nat) k u, ks[i]? = some k → us[i]? = some u → kdOk P l (n + i) k u = true
  | [], [], n, _ => ⟨rfl, fun i k u h => by simp at h⟩
  | [], _ :: _, n, h => by simp [chk] at h
  | _ :: _, [], n, h => by simp [chk] at h
  | k :: ks, u :: us, n, h => by
    simp only [chk, Bool.and_eq_true] at h
    obtain ⟨h1, h2⟩ := chk_get h.2
    refine ⟨by simp [h1], fun i a b ha hb => ?_⟩
    cases i with
    | zero => simp at ha hb; subst ha hb; exact h.1
    | succ i =>
      have := h2 i a b (by simpa using ha) (by simpa using hb)
      rw [show n + (i + 1) = n + 1 + i by omega]
      exact this

theorem hasAt_get {l : List (TypeId × Nat)} {u : TypeId} {i : Nat} (h : hasAt l u i = true) : ∃ j : Nat, l[j]? = some (u, i) := by
  simp only [hasAt, List.any_eq_true, Bool.and_eq_true, Nat.beq_eq] at h
  obtain ⟨⟨a, b⟩, hm, h1, h2⟩ := h
  simp only at h1 h2
  subst h1 h2
  exact List.mem_iff_getElem?.1 hm

section
variable {P : Program} {W : World} {b0 : Nat} {H : Type} {enc : TypeId × Value → H}

theorem one_cell {cs : List Value} {i : Nat} {v : Value} (h : cs[i]? = some v) : (cs.drop i).take 1 = [v] := by
  obtain ⟨hlt, rfl⟩ := List.getElem?_eq_some_iff.1 h
  rw [List.drop_eq_getElem_cons hlt]
  rfl

theorem struct_cells (ev : EvT P) {t : TypeId} {l : List (TypeId × Nat)} (hl : fieldsOf P t = some l) {ts : List TypeId} (hct : P.cellTypes P.depth t = some ts) (hn : ts.length = P.cellsOf t) {ks : List Kd} (hks : chk P l 0 ks ts = true)
    {v : Value} (hok : Value.okWide P W .any b0 t v) {d : DataW H} {ps : List MemPlace} (h : DataW.Trod enc P W 0 (fun _ => true) true t v d ps) (hw : ∀ n ∈ d.weights P t, n ≤ reachBytes) : ∃ cs cds, v = .agg cs ∧ CellsAre W ks cs.toList cds := by
  obtain ⟨fuel, h⟩ := h
  have hu : ∃ fs, P.underlying t = some (.struct fs) := by
    unfold fieldsOf at hl
    split at hl <;> try (cases hl; done)
    exact ⟨_, by assumption⟩
  obtain ⟨fs, hu⟩ := hu
  unfold Value.okWide at hok
  rw [hu] at hok
  obtain ⟨cs, rfl, hsz, ts', e1, _, hcell⟩ := hok
  obtain rfl := Option.some.inj (hct.symm.trans e1)
  obtain ⟨fs', parts, m, hu', hfs, hlen, hd, hp⟩ := trod_fields hl h
  obtain rfl := TypeDesc.struct.inj (Option.some.inj (hu.symm.trans hu'))
  obtain ⟨hkl, hk⟩ := chk_get hks
  simp only at hd
  subst hd
  have hwt : (DataW.weightsEach P (fs.toList.map (·.type)) (parts.map (·.1))).all (· ≤ reachBytes) = true := by
    rw [List.all_eq_true]
    intro n hnm
    have := hw n (by simp only [DataW.weights, hu]; exact hnm)
    simpa using this
  have htl : fs.toList.map (·.type) = l.map (·.1) := by rw [← hfs, List.map_map]; rfl
  rw [htl] at hwt
  suffices hsuf : ∃ cds, CellsAre W ks cs.toList cds from ⟨cs, hsuf.choose, rfl, hsuf.choose_spec⟩
  refine CellsAre.make (by rw [hkl, hn, ← hsz]; simp) fun i k v hki hvi => ?_
  have hvi' : cs[i]? = some v := by simpa using hvi
  obtain ⟨u, hui, hcu⟩ := hcell i v hvi'
  have hil : i < ts.length := by rw [hn, ← hsz]; exact (Array.getElem?_eq_some_iff.1 hvi').1
  rw [Nat.mod_eq_of_lt hil] at hui
  have hkd := hk i k u hki hui
  rw [Nat.zero_add] at hkd
  have fieldAt : hasAt l u i = true → P.cellsOf u = 1 → ∃ (j : Nat) (y : DataW H × List MemPlace), DataW.trod enc P W 0 (fun _ => true) true m u [v] = some y ∧ ∀ (e : TypeId), P.underlying u = some (.slice e) → ∀ es ss, y.1 = .slice es ss → (es.length + ss.length) * P.bytesOf e ≤ reachBytes := by
    intro hh hc
    obtain ⟨j, hj⟩ := hasAt_get hh
    obtain ⟨y, hy1, hy2⟩ := hp j u i hj
    rw [hc] at hy2
    have hy3 : DataW.trod enc P W 0 (fun _ => true) true m u [v] = some y := by
      have := one_cell (cs := cs.toList) hvi
      rw [← this]
      exact hy2
    refine ⟨j, y, hy3, fun e he es ss hes => ?_⟩
    exact sized_slice hwt (j := j) (t := u) (by rw [List.getElem?_map, hj]; rfl) (by rw [List.getElem?_map, hy1]; exact congrArg some hes) he
  unfold kdOk at hkd
  split at hkd
  · rename_i q q' hq
    rw [kindB_eq hkd]
    exact cell_int hq hcu
  · rename_i hq
    exact cell_bool hq hcu
  · rename_i e hq
    simp only [Bool.and_eq_true, Nat.beq_eq] at hkd
    obtain ⟨g1, g2, g3, g4, g5⟩ := hkd
    have he : P.underlying e = some (.int .u8) := by
      split at g1
      · assumption
      · cases g1
    obtain ⟨j, y, q1, q2⟩ := fieldAt g4 g5
    exact bytes_cell hq he g2 g3 q1 hcu (q2 e hq)
  · rename_i e hq
    simp only [Bool.and_eq_true, Nat.beq_eq] at hkd
    obtain ⟨rfl, g4, g5⟩ := hkd
    obtain ⟨j, y, q1, q2⟩ := fieldAt g4 g5
    exact evs_cell hq ev.f ev.c65 ev.c3 ev.c28 ev.u3 ev.u28 ev.b q1 hcu (q2 _ hq)
  · cases hkd
end

/-! ### The arguments together -/
/-- What reads as arguments. -/
def ReadArgs (W : World) (ys : List Arg) (vs : List Value) : Prop :=
  OkAs ys ∧ ∃ vals, RowsAt W (fun _ => False) vals (rowsArgs ys) ∧ ∀ F n, Named F n vals → VL F (encArgs ys n) vs

theorem ReadArgs.nil {W : World} : ReadArgs W [] [] := ⟨fun a ha => (by cases ha), [], rfl, fun _ _ _ => VL.nil.2 rfl⟩

theorem ReadArgs.consAgg {W : World} {ks : List Kd} {cs : Array Value} {cds : List CD} {ys : List Arg} {vs : List Value} (h : CellsAre W ks cs.toList cds) (hr : ReadArgs W ys vs) : ReadArgs W (⟨true, cds⟩ :: ys) (.agg cs :: vs) := by
  obtain ⟨h1, vb, b1, b2⟩ := hr
  obtain ⟨va, a1, a2⟩ := h.reads
  refine ⟨fun a ha => ?_, va ++ vb, a1.append b1, fun F n hn => VL.cons'.2 ⟨?_, ?_⟩⟩
  · cases ha with
    | head => exact h.ok
    | tail _ hm => exact h1 a hm
  · have := a2 F n hn.left
    simp only [encA, V]
    exact ⟨cs.toList, by simp, this⟩
  · rw [← a1.length]
    exact b2 F _ hn.right

theorem ReadArgs.consInt {W : World} {k : IntKind} {z : Int} {ys : List Arg} {vs : List Value} (h : InR k z) (hr : ReadArgs W ys vs) : ReadArgs W ((tInt k).arg z :: ys) (.int k z :: vs) := by
  obtain ⟨h1, vb, b1, b2⟩ := hr
  refine ⟨fun a ha => ?_, vb, b1, fun F n hn => VL.cons'.2 ⟨?_, ?_⟩⟩
  · cases ha with
    | head => intro c hc; simp only [Ty.arg, tInt, List.mem_singleton] at hc; subst hc; exact h
    | tail _ hm => exact h1 a hm
  · simp only [Ty.arg, tInt, encA]
    exact ⟨rfl, h⟩
  · exact b2 F _ hn

theorem law_run {W : World} (hg : GlobOk tcx W) {x : In3} {vs : List Value} (hr : ReadArgs W (args3 x) vs) : Calls Pg 3 vs.toArray W fun e W' => e = .returned (.bool true) ∧ Below W.heap.size W W' := by
  obtain ⟨hok, vals, h1, h2⟩ := hr
  let E1 : Env := { ρ := fun _ => none, σ := fun i => vals[i]?, ph := fun _ => False, pw := W }
  have hE1 : Named E1 0 vals := fun i v hi => by simpa [E1] using hi
  have hm1 : MemR W E1 (fun _ => none) (s0 (args3 x)).R W := by
    refine ⟨Below.refl _ _, fun hi => (by cases hi), fun hi => (by cases hi), fun hi => (by cases hi), fun {r e} hr => ?_, fun b hb => hb.elim, fun hi => (by cases hi), fun _ _ => rfl⟩
    simp only [s0] at hr
    split at hr <;> try (cases hr; done)
    rename_i c hc
    cases hr
    obtain ⟨v, k1, k2, k3⟩ := h1.get hc
    exact ⟨v, k1, k2, fun b hb => ⟨k3 b hb, fun id hid => by cases hid⟩, fun ho => by cases ho⟩
  have hfr1 : Fresh E1 (s0 (args3 x)).nM (s0 (args3 x)).nR := ⟨fun _ _ => rfl, fun r hr => by
    have := h1.length
    simp only [E1]
    exact List.getElem?_eq_none (by rw [this]; exact hr)⟩
  refine Calls.mono (law_gives base x hok W E1 W vs hg (h2 E1 0 hE1) hm1 hfr1) ?_
  intro en w' hh
  cases en with
  | panicked => exact hh.elim
  | outgrown => exact hh.elim
  | returned v =>
    obtain ⟨sv, s', E', _, hv, hm', hp⟩ := hh
    refine ⟨?_, hm'.below⟩
    obtain ⟨vals', k1, k2⟩ := decRes_V hm' hp hv
    have hnil : vals' = [] := List.eq_nil_of_length_eq_zero (by rw [k1.length]; rfl)
    subst hnil
    have hb := k2 E1 0 (fun i u hi => by simp at hi)
    have hb2 : V E1 (.kb true) v := hb
    simp only [V] at hb2
    rw [hb2]
end Go.Sx
end

/-
  The row, sixth part: from the statement's reading of the arguments to its answer.
  Conditions: none.
-/
section
namespace Go.Sx
open Go Go.RowKit Go.ChangeShapes
set_option maxRecDepth 100000

abbrev theSpec : ChangeSpec := Go.Proofs.YtcibdpbblleafaaGreatDoor.Rows.timeSliceFrameSpec

def fs30 : List (TypeId × Nat) := [(26, 0), (27, 29), (28, 30), (27, 31), (4, 32)]
def fs33 : List (TypeId × Nat) := [(26, 0), (27, 29), (4, 30), (3, 31), (31, 32)]
def fs35 : List (TypeId × Nat) := [(22, 0), (22, 1)]
def ts30 : List TypeId := List.replicate 29 22 ++ [27, 28, 27, 4]
def ts33 : List TypeId := List.replicate 29 22 ++ [27, 4, 3, 31]
def ts35 : List TypeId := [22, 22]

/-- The closed facts of the program that the reading needs. -/
structure Facts (P : Program) : Prop where
  ev : EvT P
  out : laidOutB P = true
  u3 : P.underlying 3 = some (.int .i64)
  u4 : P.underlying 4 = some .bool
  r30 : P.readableRec 30 = true
  r33 : P.readableRec 33 = true
  r35 : P.readableRec 35 = true
  size : 36 < P.types.size
  f30 : fieldsOf P 30 = some fs30
  f33 : fieldsOf P 33 = some fs33
  f35 : fieldsOf P 35 = some fs35
  c30 : P.cellTypes P.depth 30 = some ts30
  c33 : P.cellTypes P.depth 33 = some ts33
  c35 : P.cellTypes P.depth 35 = some ts35
  n30 : ts30.length = P.cellsOf 30
  n33 : ts33.length = P.cellsOf 33
  n35 : ts35.length = P.cellsOf 35
  k30 : chk P fs30 0 machKs ts30 = true
  k33 : chk P fs33 0 vcpuKs ts33 = true
  k35 : chk P fs35 0 partKs ts35 = true

theorem contract {P : Program} (F : Facts P) {fn : Func} (hP : fn.params = #[30, 33, 35, 3]) (hR : fn.resultTypes = #[4]) {H : Type} {enc : TypeId × Value → H} {W : World} {base : Nat} {args : Array Value} {ds gs : List (DataW H)} {before : List MemPlace}
    (hval : ∀ (j : Nat) t v, fn.params[j]? = some t → args[j]? = some v → Value.okWide P W .any base t v)
    (hW : DataW.Whole enc P fn.params.toList theSpec.vars false W args.toList ds gs before)
    (hz : (DataW.weightsEach P (fn.params.toList ++ theSpec.plain.varTypes P) (ds ++ gs)).all (· ≤ reachBytes) = true)
    (run : ∀ (x : In3) (vs : List Value), ReadArgs W (args3 x) vs → Calls P 3 vs.toArray W fun e W' => e = .returned (.bool true) ∧ Below W.heap.size W W') :
    Calls P 3 args W fun e W' => ∃ v, e = .returned v ∧ theSpec.post enc P fn false true false false W args v W' := by
  have hW' := hW
  obtain ⟨p, q, hA, hV, rfl, _, _⟩ := hW
  rw [hP] at hA hval hz
  obtain ⟨v0, v1, v2, v3, d0, d1, d2, d3, p0, p1, p2, p3, rfl, rfl, rfl, h0, h1, h2, h3⟩ := trodAll_four (show DataW.TrodAll enc P W 0 (fun _ => true) true [30, 33, 35, 3] args.toList ds p from hA)
  obtain ⟨rfl, rfl⟩ := trodVars_none hV
  obtain ⟨n, rfl, rfl, rfl, wn⟩ := open_int F.u3 (hval 3 3 v3 rfl rfl) h3
  have hsz : ∀ (j : Nat) t d, ([30, 33, 35, 3] : List TypeId)[j]? = some t → ([d0, d1, d2, .lit (.int .i64 n)] : List (DataW H))[j]? = some d → ∀ m ∈ d.weights P t, m ≤ reachBytes := by
    intro j t d ht hd m hm
    have := List.all_eq_true.1 hz m (DataW.weights_mem_each (j := j) (t := t) (d := d) (by
      rw [List.getElem?_append_left (List.getElem?_eq_some_iff.1 ht).1]; exact ht) (by rw [List.append_nil]; exact hd) m hm)
    simpa using this
  obtain ⟨c0, k0, rfl, a0⟩ := struct_cells F.ev F.f30 F.c30 F.n30 F.k30 (hval 0 30 v0 rfl rfl) h0 (hsz 0 30 d0 rfl rfl)
  obtain ⟨c1, k1, rfl, a1⟩ := struct_cells F.ev F.f33 F.c33 F.n33 F.k33 (hval 1 33 v1 rfl rfl) h1 (hsz 1 33 d1 rfl rfl)
  obtain ⟨c2, k2, rfl, a2⟩ := struct_cells F.ev F.f35 F.c35 F.n35 F.k35 (hval 2 35 v2 rfl rfl) h2 (hsz 2 35 d2 rfl rfl)
  obtain ⟨m, rfl⟩ := mach_of a0.kinds
  obtain ⟨v, rfl⟩ := vcpu_of a1.kinds
  obtain ⟨pt, rfl⟩ := part_of a2.kinds
  have hn : InR .i64 n := by
    simp only [Lit.wf, Bool.and_eq_true, decide_eq_true_eq] at wn
    exact wn
  have hr : ReadArgs W (args3 ⟨m, v, pt, n⟩) [.agg c0, .agg c1, .agg c2, .int .i64 n] :=
    ReadArgs.consAgg a0 (ReadArgs.consAgg a1 (ReadArgs.consAgg a2 (ReadArgs.consInt hn ReadArgs.nil)))
  have hlt := hW'.lt
  refine (run _ _ hr).mono fun e W' ⟨he, hb⟩ => ?_
  subst he
  have in0 : ∀ x ∈ p0, x.block < W.heap.size := fun x hx => hlt x (by simp [hx])
  have in1 : ∀ x ∈ p1, x.block < W.heap.size := fun x hx => hlt x (by simp [hx])
  have in2 : ∀ x ∈ p2, x.block < W.heap.size := fun x hx => hlt x (by simp [hx])
  have sz := F.size
  refine ⟨_, rfl, _, [], _, [], p0 ++ (p1 ++ (p2 ++ [])), [], hW', ?_, ?_, rfl, hb.frame _, fun h => by cases h⟩
  · rw [hR]
    exact trodAll_mk1 (shut_bool F.u4 true)
  · rw [hP]
    exact trodAll_mk4 (Below.trod F.out F.r30 (Nat.lt_trans (by decide : (30 : Nat) < 36) sz) h0 hb in0) (Below.trod F.out F.r33 (Nat.lt_trans (by decide : (33 : Nat) < 36) sz) h1 hb in1) (Below.trod F.out F.r35 (Nat.lt_trans (by decide : (35 : Nat) < 36) sz) h2 hb in2) (shut_int F.u3 wn)
end Go.Sx
end
