/-
  A symbolic executor for the bodies of Go functions: literals, new variables, maps.
  Conditions: none; lemmas about single operations.
-/
import Derived.Test.YtcibdpbblleafaaGreatDoorSxH
namespace Go.Sx
open Go Go.RowKit Go.MapKept

theorem fold_over (vs us : List Value) (off : Nat) (h : off + us.length ≤ vs.length) :
    (us.toArray.zipIdx.foldl (fun cs (x : Value × Nat) => cs.setIfInBounds (off + x.2) x.1) vs.toArray) = (over vs off us).toArray := by
  rw [← Array.foldl_toList, Array.toList_zipIdx]
  obtain ⟨h1, h2⟩ := Go.Great.foldl_set off us 0 vs.toArray
  apply Array.ext'
  apply List.ext_getElem?
  intro k
  have := h2 k
  simp only [Nat.add_zero, List.size_toArray, List.getElem?_toArray] at this
  simp only [Array.getElem?_toList]
  rw [this, over_get _ _ _ _ h]
  by_cases hk : off ≤ k ∧ k < off + us.length
  · rw [if_pos ⟨hk.1, hk.2, by omega⟩, if_pos hk]
  · rw [if_neg (by omega), if_neg hk]

/-- The parts of a literal. -/
def PartsV (E : Env) : List (Nat × SV) → List (Nat × Value) → Prop
  | [], l => l = []
  | (i, s) :: ps, l => ∃ v vs, l = (i, v) :: vs ∧ V E s v ∧ PartsV E ps vs

theorem PartsV.ofMap {E : Env} (f : Operand → SV) (g : Operand → Value) : ∀ (l : List (Nat × Operand)), (∀ x ∈ l, V E (f x.2) (g x.2)) → PartsV E (l.map fun q => (q.1, f q.2)) (l.map fun q => (q.1, g q.2))
  | [], _ => rfl
  | x :: l, h => ⟨g x.2, _, rfl, h x (by simp), PartsV.ofMap f g l fun y hy => h y (by simp [hy])⟩

theorem fill_ok {E : Env} {place : Nat → Option (Nat × Nat)} : ∀ {ps : List (Nat × SV)} {vs : List (Nat × Value)} {cs : List SV} {us : List Value} {l : List SV}, PartsV E ps vs → VL E cs us →
    fillSV place cs ps = some l → ∃ ws : List Value, Instr.fill place us.toArray vs = some ws.toArray ∧ VL E l ws
  | [], _, cs, us, l, hp, hv, h => by
    simp only [PartsV] at hp; subst hp
    simp only [fillSV, Option.some.injEq] at h; subst h
    exact ⟨us, rfl, hv⟩
  | (i, s) :: ps, _, cs, us, l, hp, hv, h => by
    simp only [PartsV] at hp
    obtain ⟨v, vs, rfl, hs, hp⟩ := hp
    simp only [fillSV] at h
    split at h <;> try (cases h; done)
    rename_i off size hpl
    split at h <;> try (cases h; done)
    rename_i q hq
    obtain ⟨hn, h⟩ := cond_none h
    simp only [Bool.and_eq_true] at hn
    have hpos := Nat.le_of_ble_eq_true hn.2
    have hn := Nat.eq_of_beq_eq_true hn.1
    split at h <;> try (cases h; done)
    rename_i c hc
    obtain ⟨xs, hxc, hxs⟩ := cellsSV_V hq hs
    have hxl : xs.length = size := by rw [hxs.length, hn]
    rcases VL.splice hv hxs hc with ⟨k1, k2⟩ | ⟨rfl, rfl⟩
    · obtain ⟨ws, r1, r2⟩ := fill_ok hp k1 h
      refine ⟨ws, ?_, r2⟩
      simp only [Instr.fill, hpl, hxc, List.size_toArray, hxl]
      rw [if_neg (by simp; omega)]
      have := fold_over us xs off k2
      rw [show (xs.toArray.zipIdx.foldl (fun cs (x : Value × Nat) => match x with | (c, j) => cs.setIfInBounds (off + j) c) us.toArray) = (over us off xs).toArray from this]
      exact r1
    · simp at hn; omega

section
variable {cx : Cx} {W0 : World} {E : Env} {M : Nat → Option Blk} {R : Nat → Option RowE} {w : World}

theorem did_new (hm : MemR W0 E M R w) {o : Obj} {k : Blk} {e : Eff} {id rid : Nat} {v : Value} (h1 : e.wr = []) (h2 : e.nb = some k) (h3 : e.nr = []) (h4 : e.only = none) (hf : E.ρ id = none)
    (hk : BlkOk E (w.alloc o) w.heap.size k) (hv : V (E.own id w.heap.size) e.v v) : Did W0 E M R e id rid v (w.alloc o) (E.own id w.heap.size) := by
  refine ⟨Env.le_own hf, fun i hi => Env.own_other E hi, fun _ _ => rfl, hv, ?_⟩
  have hM : e.appM M id = upd M id (some k) := by simp [Eff.appM, h1, h2, updW]
  have hR : e.appR R rid = R := by simp [Eff.appR, h3, h4, updL]
  rw [hM, hR]
  exact hm.new hf hk

theorem blk_new {ty : TypeId} {cs : List SV} {vs : List Value} (h : VL E cs vs) : BlkOk E (w.alloc (.cells vs.toArray ty)) w.heap.size (.cells ty cs) :=
  ⟨vs, heap_alloc_new w _, h⟩

theorem own_p (id b : Nat) : V (E.own id b) (.p id 0) (.pointer (some ⟨b, 0, none⟩)) := by
  simp only [V]; exact ⟨b, Env.own_self .., rfl⟩

theorem alloc_ok (hm : MemR W0 E M R w) {t : TypeId} {cs : List SV} (h : zeroSV cx.P t = some cs) (id rid : Nat) (hf : E.ρ id = none) :
    ∃ v w', (Instr.alloc t true (.tuple #[])).run cx.P w = .ok v w' ∧ Did W0 E M R { Eff.pure (.p id 0) with nb := some (.cells t cs) } id rid v w' (E.own id w.heap.size) := by
  obtain ⟨i, z, hi, hz, hcs⟩ := zeroSV_V h
  refine ⟨.pointer (some ⟨w.heap.size, 0, none⟩), w.alloc (.cells z.cells.toList.toArray t), ?_, did_new hm rfl rfl rfl rfl hf (blk_new (hcs E)) (own_p ..)⟩
  simp [Instr.alloc, zeroValue, typeInfo, hi, hz, newVar, newRow]

theorem box_ok (hm : MemR W0 E M R w) {t : TypeId} {sv : SV} {cs : List SV} (h : cellsSV sv = some cs) {x : Value} (hx : V E sv x) (id rid : Nat) (hf : E.ρ id = none) :
    ∃ v w', (Instr.box t x).run cx.P w = .ok v w' ∧ Did W0 E M R { Eff.pure (.p id 0) with nb := some (.cells t cs) } id rid v w' (E.own id w.heap.size) := by
  obtain ⟨us, h1, h2⟩ := cellsSV_V h hx
  refine ⟨.pointer (some ⟨w.heap.size, 0, none⟩), w.alloc (.cells us.toArray t), ?_, did_new hm rfl rfl rfl rfl hf (blk_new h2) (own_p ..)⟩
  simp [Instr.box, newVar, newRow, h1]

theorem build_ok {t : TypeId} {z : List SV} {place : Nat → Option (Nat × Nat)} (hz : zeroSV cx.P t = some z) (hp : buildPlaces cx.P t = some place) {ps : List (Nat × SV)} {cs : List SV} (h : fillSV place z ps = some cs)
    {parts : Array (Nat × Value)} (hv : PartsV E ps parts.toList) : ∃ us : List Value, (Instr.build t parts).run cx.P w = .ok (.agg us.toArray) w ∧ VL E cs us := by
  obtain ⟨i, zv, hi, hz, hcs⟩ := zeroSV_V hz
  obtain ⟨us, h1, h2⟩ := fill_ok hv (hcs E) h
  refine ⟨us, run_build w t parts us.toArray ?_, h2⟩
  unfold buildPlaces at hp
  unfold Program.built
  split at hp <;> try (cases hp; done)
  · rename_i fields hu
    split at hp <;> try (cases hp; done)
    rename_i places hpl
    cases hp
    simp only [hi, hu, hz, hpl]
    simpa using h1
  · rename_i n elem hu
    split at hp <;> try (cases hp; done)
    rename_i j hj
    cases hp
    simp only [hi, hu, hz, hj]
    simpa using h1

theorem VL.ofGet {E : Env} : ∀ {ss : List SV} {vs : List Value}, ss.length = vs.length → (∀ (i : Nat) s v, ss[i]? = some s → vs[i]? = some v → V E s v) → VL E ss vs
  | [], [], _, _ => VL.nil.2 rfl
  | [], _ :: _, h, _ => by simp at h
  | _ :: _, [], h, _ => by simp at h
  | s :: ss, v :: vs, h, hh => VL.cons'.2 ⟨hh 0 s v rfl rfl, VL.ofGet (by simpa using h) fun i s v h1 h2 => hh (i + 1) s v (by simpa using h1) (by simpa using h2)⟩

theorem repL_len (l : List SV) : ∀ n, (repL l n).length = n * l.length
  | 0 => by simp [repL]
  | n + 1 => by simp [repL, repL_len l n, Nat.add_mul]; omega

theorem repL_get {l : List SV} (hl : 0 < l.length) : ∀ (n i : Nat), i < n * l.length → (repL l n)[i]? = l[i % l.length]?
  | 0, i, h => by simp at h
  | n + 1, i, h => by
    simp only [repL, List.getElem?_append]
    split
    · rename_i hlt; rw [Nat.mod_eq_of_lt hlt]
    · rename_i hge
      rw [repL_get hl n _ (by rw [Nat.add_mul] at h; omega)]
      congr 1
      rw [← Nat.mod_eq_sub_mod (by omega)]

theorem rep_V {E : Env} {z : List SV} {zs : List Value} (h : VL E z zs) (n : Nat) (hz : 0 < z.length) : VL E (repL z n) ((Array.range (n * zs.length)).map (fun i => zs.toArray[i % zs.toArray.size]!)).toList := by
  have hl := h.length
  refine VL.ofGet (by simp [repL_len, hl]) fun i s v h1 h2 => ?_
  have hi : i < n * z.length := by
    have := (List.getElem?_eq_some_iff.1 h1).1
    rwa [repL_len] at this
  rw [repL_get hz n i hi] at h1
  obtain ⟨u, q1, q2⟩ := h.get h1
  have hmod : i % z.length < zs.length := by rw [hl]; exact Nat.mod_lt _ hz
  simp only [Array.getElem?_toList, Array.getElem?_map] at h2
  rw [Array.getElem?_eq_getElem (by simp [hl]; exact hi)] at h2
  simp only [Array.getElem_range, Option.map_some, Option.some.injEq, List.size_toArray, hl] at h2
  rw [← h2]
  have : zs.toArray[i % z.length]! = u := by
    rw [getElem!_pos zs.toArray (i % z.length) (by simpa using hmod)]
    have := (List.getElem?_eq_some_iff.1 q1).2
    simpa using this
  rw [this]; exact q2

theorem buildSlice_ok (hm : MemR W0 E M R w) {t elem : TypeId} {n len : Nat} {z cs : List SV} (hu : cx.P.underlying t = some (.slice elem)) (hn : sizeT cx.P elem = some n) (hz : zeroSV cx.P elem = some z)
    (hsm : len * n ≤ 1000) (hzn : z.length = n) (hpos : 0 < n) {ps : List (Nat × SV)} (h : fillSV (elemPlace n) (repL z len) ps = some cs) {parts : Array (Nat × Value)} (hv : PartsV E ps parts.toList) (id rid : Nat) (hf : E.ρ id = none) :
    ∃ v w', (Instr.buildSlice t len parts).run cx.P w = .ok v w' ∧ Did W0 E M R { Eff.pure (.sl id len len) with nb := some (.cells elem cs) } id rid v w' (E.own id w.heap.size) := by
  obtain ⟨i, zv, hi, hzv, hcs⟩ := zeroSV_V hz
  have hzc := hcs E
  have hrep := rep_V hzc len (by omega)
  obtain ⟨us, h1, h2⟩ := fill_ok hv hrep h
  have hin : i.size = n := by
    unfold sizeT at hn; rw [hi] at hn; simpa using hn
  have hzl : zv.cells.toList.length = n := by rw [hzc.length, hzn]
  have hres : VL (E.own id w.heap.size) cs us := h2.mono (Env.le_own hf)
  refine ⟨.slice (some ⟨w.heap.size, 0, none⟩) len len, w.alloc (.cells us.toArray elem), ?_, did_new hm rfl rfl rfl rfl hf (blk_new h2) (by simp only [Eff.pure, V]; exact ⟨_, Env.own_self .., rfl⟩)⟩
  have h1' : Instr.fill (fun i => some (i * n, n)) ((Array.range (len * n)).map (zv.cells[· % zv.cells.size]!)) parts.toList = some us.toArray := by
    simp only [Array.toArray_toList] at h1
    rw [hzl] at h1
    exact h1
  by_cases hl : len * n = 0
  · have hl0 : len = 0 := by
      rcases Nat.mul_eq_zero.1 hl with h | h
      · exact h
      · omega
    subst hl0
    have h1'' : Instr.fill (fun i => some (i * n, n)) #[] parts.toList = some us.toArray := by
      have e0 : (Array.range (0 * n)).map (zv.cells[· % zv.cells.size]!) = #[] := by simp [Array.range_zero']
      rw [e0] at h1'
      exact h1'
    simp [Instr.buildSlice, run_underlying' hu, sizeOf, typeInfo, hi, hin, newRow, h1'', Array.range_zero']
  · exact run_buildSlice w t elem len parts us.toArray i zv hu hi hzv (by rw [hin]; omega) (by rw [hin]; exact hl) (by rw [hin]; exact h1')

theorem makeMap_ok (hm : MemR W0 E M R w) {t : TypeId} (id rid : Nat) (hf : E.ρ id = none) :
    ∃ v w', (Instr.makeMap t none).run cx.P w = .ok v w' ∧ Did W0 E M R { Eff.pure (.m id) with nb := some (.map []) } id rid v w' (E.own id w.heap.size) := by
  refine ⟨.map (some w.heap.size), w.alloc (.map #[] 0), ?_, did_new hm rfl rfl rfl rfl hf ⟨[], 0, heap_alloc_new w _, rfl, rfl, fun i e h => by simp at h⟩ (by simp only [Eff.pure, V]; exact ⟨_, Env.own_self .., rfl⟩)⟩
  simp [Instr.makeMap]

theorem MapOk.any {es : List (Int × SV)} {l : List MapEntry} (h : MapOk E es l) {k : Int} (hk : (es.any fun e => e.1 == k) = false) (i : Nat) (kk : IntKind) : Instr.findNow (.int kk) (.int .i64 k) l i = some none := by
  induction es generalizing l i with
  | nil => simp only [MapOk] at h; subst h; rfl
  | cons e es ih =>
    obtain ⟨k', s⟩ := e
    simp only [MapOk] at h
    obtain ⟨x, rest, rfl, hx, _, hr⟩ := h
    simp only [List.any_cons, Bool.or_eq_false_iff] at hk
    have hne : (k == k') = false := by
      have := hk.1
      simp only [beq_eq_false_iff_ne, ne_eq] at this ⊢
      exact fun e => this e.symm
    simp only [Instr.findNow, hx, Instr.sameNow, if_true, hne]
    exact ih hr hk.2 (i + 1)

theorem MapOk.push {es : List (Int × SV)} {l : List MapEntry} (h : MapOk E es l) {k : Int} {s : SV} {v : Value} (hv : V E s v) (b : Nat) : MapOk E (es ++ [(k, s)]) (l ++ [{ key := .int .i64 k, val := v, born := b }]) := by
  induction es generalizing l with
  | nil => simp only [MapOk] at h; subst h; exact ⟨_, [], rfl, rfl, hv, rfl⟩
  | cons e es ih =>
    obtain ⟨k', s'⟩ := e
    simp only [MapOk] at h
    obtain ⟨x, rest, rfl, h1, h2, h3⟩ := h
    exact ⟨x, _, rfl, h1, h2, ih h3⟩

theorem insert_ok (hm : MemR W0 E M R w) {t kt et : TypeId} {q : Nat} {k : Int} {es : List (Int × SV)} (hu : cx.P.underlying t = some (.map kt et)) (hk : cx.P.underlying kt = some (.int .i64)) (hM : M q = some (.map es))
    (ha : (es.any fun e => e.1 == k) = false) {b : Nat} (hb : E.ρ q = some b) (hfor : foreign ≤ q) {s : SV} {v : Value} (hv : V E s v) (id rid : Nat) :
    ∃ w', (Instr.mapUpdate t (.map (some b)) (.int .i64 k) v).run cx.P w = .ok () w' ∧ Did W0 E M R { Eff.pure .u with rd := [q], wr := [(q, .map (es ++ [(k, s)]))] } id rid undef w' E := by
  obtain ⟨b', hb', ents, clock, hh, hmo, hclock, hborn⟩ := hm.blk hM
  rw [hb] at hb'; cases hb'
  have hkey : IsKey (.int .i64) (.int .i64 k) := by simp [IsKey]
  have hfind := hmo.any ha 0 .i64
  obtain ⟨g1, g2⟩ := heap_set (o' := .map (ents.toArray.push { key := .int .i64 k, val := v, born := clock }) (clock + 1)) hh
  refine ⟨{ w with heap := w.heap.setIfInBounds b (.map (ents.toArray.push { key := .int .i64 k, val := v, born := clock }) (clock + 1)) }, ?_, ⟨.refl E, fun _ _ => rfl, fun _ _ => rfl, by simp only [Eff.pure, V], ?_⟩⟩
  · simp only [Instr.mapUpdate, Sem.run_bind, run_underlying' hu, Result.andThen_ok, MapKept.run_getObj_map hh, MapKept.run_checkKey hk hkey, MapKept.run_findKey hk hfind, MapKept.run_setObj_map _ hh]
  · simp only [Eff.appM, Eff.appR, Eff.pure, updW, updL]
    refine hm.put (w' := { w with heap := w.heap.setIfInBounds b (.map (ents.toArray.push { key := .int .i64 k, val := v, born := clock }) (clock + 1)) }) (k := .map (es ++ [(k, s)])) hb hfor rfl rfl rfl (by simp) (fun j hj => g2 j hj)
      ⟨ents ++ [{ key := .int .i64 k, val := v, born := clock }], clock + 1, ?_, hmo.push hv clock, by simp [hclock], fun i e he => by
        rw [List.getElem?_append] at he
        split at he
        · exact hborn i e he
        · rename_i hge
          have h0 := (List.getElem?_eq_some_iff.1 he).1
          have h1 : i = ents.length := by simp at h0; omega
          subst h1
          simp at he
          rw [← he]; exact hclock⟩
    rw [g1]; simp

theorem makeSlice_ok (hm : MemR W0 E M R w) {t elem : TypeId} {a : Int} (hu : cx.P.underlying t = some (.slice elem)) (hz : zeroSV cx.P elem = some [.n .u8 0]) (hc : rowIs cx.P elem (.bytes []) = true) (h0 : 0 ≤ a) (h1 : a ≤ 1000) (kl kc : IntKind)
    (id rid : Nat) (hf : E.σ rid = none) :
    ∃ v w', (Instr.makeSlice t (.int kl a) (.int kc a)).run cx.P w = .ok v w' ∧ Did W0 E M R { Eff.pure (.r rid) with nr := [⟨.bytes (List.replicate a.toNat 0), true⟩] } id rid v w' (E.rowed rid v) := by
  obtain ⟨i, z, hi, hzv, hs, hb, _⟩ := rowIs_info hc
  obtain ⟨i', z', hi', hz', hcs⟩ := zeroSV_V hz
  rw [hi] at hi'; cases hi'
  rw [hzv] at hz'; cases hz'
  have hs : i.size = 1 := hs
  have hz1 : z.cells = #[.int .u8 0] := by
    have := hcs E
    obtain ⟨v, vs, q, k1, k2⟩ := VL.cons.1 this
    rw [VL.nil.1 k2] at q
    simp only [V] at k1
    rw [k1.1] at q
    exact Array.ext' (by simpa using q)
  have hrun := run_make (P := cx.P) w t elem i z hu hi hzv kl kc a a h0 (Int.le_refl _) (by
    have : (i.bytes : Int) ≤ 64 := by omega
    have h2 : (i.bytes : Int) * a ≤ 64 * a := Int.mul_le_mul_of_nonneg_right this h0
    omega) (by omega)
  have hl : (RowC.bytes (List.replicate a.toNat 0)).len = a.toNat := by simp [RowC.len]
  refine ⟨_, _, hrun, did_row hm (below_alloc w _) rfl rfl rfl rfl rfl hf ?_⟩
  have hok : (RowC.bytes (List.replicate a.toNat 0)).Ok := fun v hv => by rw [List.eq_of_mem_replicate hv]; exact ⟨by decide, by decide⟩
  have key : ∀ n, n = a.toNat → RowOk W0 E (w.alloc (.cells (madeCells z.cells (a.toNat * i.size)) elem)) (.slice (some ⟨w.heap.size, 0, none⟩) n a.toNat) ⟨.bytes (List.replicate a.toNat 0), true⟩ → RowOk W0 E (w.alloc (.cells (madeCells z.cells (a.toNat * i.size)) elem)) (.slice (some ⟨w.heap.size, 0, none⟩) a.toNat a.toNat) ⟨.bytes (List.replicate a.toNat 0), true⟩ := by
    intro n hn h; subst hn; exact h
  refine key _ hl (rowOk_new hm hok (by rw [hl]; omega) (by rw [hl]; exact Nat.le_refl _) (fun j u hj => ?_) (by simp [madeCells, hs, RowC.width]))
  simp only [RowC.cells, List.map_replicate] at hj
  have hjl := (List.getElem?_eq_some_iff.1 hj).1
  have hju : u = .int .u8 0 := by
    rw [List.getElem?_replicate] at hj
    split at hj <;> simp_all
  simp only [List.length_replicate] at hjl
  rw [hs, hju]
  unfold madeCells
  rw [Array.getElem?_map, Array.getElem?_eq_getElem (by simp; omega)]
  simp [hz1, Nat.mod_one]

theorem extract_ok {vs : List SV} {q : Nat} {s : SV} (h : vs[q]? = some s) {x : Value} (hx : V E (.t vs) x) : ∃ v, (Instr.extract x q).run cx.P w = .ok v w ∧ V E s v := by
  simp only [V] at hx
  obtain ⟨ws, rfl, hw⟩ := hx
  obtain ⟨v, h1, h2⟩ := hw.get h
  exact ⟨v, by simp [Instr.extract, h1], h2⟩
end
end Go.Sx
