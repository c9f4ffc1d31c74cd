/-
  A symbolic executor for the bodies of Go functions: cuts of slices, appends, lengths, literals.
  Conditions: none; lemmas about single operations.
-/
import Derived.Test.YtcibdpbblleafaaGreatDoorSxG
import Derived.Laws.MakeOwn
import Derived.Great.BuildSlice
import Derived.MapKept
import Derived.Lib.AppendZeros
namespace Go.Sx
open Go Go.RowKit

theorem room_fits {c : RowC} {news : List Value} {z : Array Value} {n ncap : Nat} (hl : news.length = n * c.width) (hz : z.size = c.width) (h : c.len + n ≤ ncap) : ncap * c.width ≤ ((c.cells ++ news).toArray ++ Builtin.zeroCells z (ncap - (c.len + n))).size := by
  have h1 : (Builtin.zeroCells z (ncap - (c.len + n))).size = (ncap - (c.len + n)) * c.width := by simp [Builtin.zeroCells, hz]
  simp only [Array.size_append, List.size_toArray, List.length_append, h1, hl, c.cells_length]
  rw [← Nat.add_mul, ← Nat.add_mul, Nat.add_sub_cancel' h]
  exact Nat.le_refl _

theorem rowIs_info {P : Program} {elem : TypeId} {c : RowC} (h : rowIs P elem c = true) : ∃ i z, P.info? elem = some i ∧ i.zero = some z ∧ i.size = c.width ∧ i.bytes ≤ 64 ∧ z.cells.size = c.width := by
  unfold rowIs at h
  split at h <;> try (cases h; done)
  rename_i i hi
  simp only [Bool.and_eq_true] at h
  obtain ⟨⟨h1, h2⟩, h3⟩ := h
  split at h3 <;> try (cases h3; done)
  rename_i z hz
  exact ⟨i, z, hi, hz, Nat.eq_of_beq_eq_true h1, Nat.le_of_ble_eq_true h2, Nat.eq_of_beq_eq_true h3⟩

theorem RowC.cells_append_bytes (l m : List Int) : (RowC.bytes (l ++ m)).cells = (RowC.bytes l).cells ++ (RowC.bytes m).cells := by simp [RowC.cells]
theorem RowC.cells_append_evs (l m : List Ev) : (RowC.evs (l ++ m)).cells = (RowC.evs l).cells ++ (RowC.evs m).cells := by simp [RowC.cells]

theorem over_get (vs us : List Value) (off k : Nat) (h : off + us.length ≤ vs.length) : (over vs off us)[k]? = if off ≤ k ∧ k < off + us.length then us[k - off]? else vs[k]? := by
  unfold over
  simp only [List.getElem?_append, List.length_append, List.length_take, List.getElem?_take, List.getElem?_drop]
  have hm : min off vs.length = off := by omega
  rw [hm]
  by_cases h1 : k < off
  · rw [if_pos (by omega), if_pos h1, if_pos h1, if_neg (by omega)]
  · by_cases h2 : k < off + us.length
    · rw [if_pos h2, if_neg h1, if_pos ⟨by omega, h2⟩]
    · rw [if_neg h2, if_neg (by omega)]
      congr 1; omega

theorem constSV_V (E : Env) (v : Value) : V E (constSV v) v := by
  unfold constSV
  split
  · rename_i k n
    cases h : inRb k n with
    | true =>
      simp only [cond_true, V, InR]
      simp only [inRb, Bool.and_eq_true, decide_eq_true_eq] at h
      exact ⟨trivial, h⟩
    | false => simp only [cond_false, V]
  · simp only [V]
  · simp only [V]
  · simp only [V]
  · simp only [V]

theorem zeroSV_V {P : Program} {t : TypeId} {cs : List SV} (h : zeroSV P t = some cs) : ∃ i z, P.info? t = some i ∧ i.zero = some z ∧ ∀ E, VL E cs z.cells.toList := by
  unfold zeroSV at h
  split at h <;> try (cases h; done)
  rename_i i hi
  split at h <;> try (cases h; done)
  rename_i z hz
  cases h
  refine ⟨i, z, hi, hz, fun E => ?_⟩
  have := VL.ofMap (E := E) constSV id z.cells.toList fun x _ => constSV_V E x
  simpa using this

section
variable {P : Program} {cx : Cx} {W0 : World} {E : Env} {s : AS} {w : World}

/-- A row that an append has made. -/
theorem rowOk_new {M : Nat → Option Blk} {R : Nat → Option RowE} (hm : MemR W0 E M R w) {c : RowC} {cap : Nat} {cs : Array Value} {e : TypeId} (h1 : c.Ok) (h2 : c.len < 4611686018427387904) (h3 : c.len ≤ cap) (h4 : ∀ (j : Nat) (u : Value), c.cells[j]? = some u → cs[j]? = some u) (h5 : cap * c.width ≤ cs.size) :
    RowOk W0 E (w.alloc (.cells cs e)) (.slice (some ⟨w.heap.size, 0, none⟩) c.len cap) ⟨c, true⟩ := by
  refine ⟨⟨⟨h1, h2⟩, some ⟨w.heap.size, 0, none⟩, cap, rfl, h3, rfl, by simp, fun j u hj => ?_⟩, fun b hb => ⟨fun hp => ?_, fun id hid => ?_⟩, fun _ b hb => ?_⟩
  · simp only [Nat.zero_add]
    rw [World.cell?_alloc_new]
    exact h4 j u hj
  · cases hb
    exact absurd (hm.ph _ hp) (by simp)
  · cases hb
    have := (hm.own hid).2
    exact absurd this (by simp)
  · cases hb
    exact ⟨hm.size, cs, e, heap_alloc_new w _, by simpa [Room] using h5⟩

theorem did_row {M : Nat → Option Blk} {R : Nat → Option RowE} (hm : MemR W0 E M R w) {w' : World} (hg : Below w.heap.size w w') {e : Eff} {id rid : Nat} {v : Value} {x : RowE}
    (h1 : e.wr = []) (h2 : e.nb = none) (h3 : e.nr = [x]) (h4 : e.only = none) (h5 : e.v = .r rid) (hf : E.σ rid = none) (hv : RowOk W0 E w' v x) :
    Did W0 E M R e id rid v w' (E.rowed rid v) := by
  have hm' := (hm.grow hg).addRow hf hv
  refine ⟨Env.le_rowed hf, fun _ _ => rfl, fun r hr => Env.rowed_other E (by unfold rowsEach at hr; omega), ?_, ?_⟩
  · rw [h5]; simp only [V]
    obtain ⟨⟨_, a, cap, rfl, _⟩, _⟩ := hv
    exact ⟨Env.rowed_self .., a, _, cap, rfl⟩
  · have hM : e.appM M id = M := by simp [Eff.appM, h1, h2, updW]
    have hR : e.appR R rid = upd R rid (some x) := by simp [Eff.appR, h3, h4, updL]
    rw [hM, hR]; exact hm'

theorem below_draw_alloc (w : World) (o : Obj) : Below w.heap.size w (w.drew.alloc o) :=
  (Below.refl w.heap.size w).drew.alloc (by simp) o

/-- One append of a row of cells to a full row. -/
theorem run_append_row {t ty elem : TypeId} {c : RowC} (hu : P.underlying t = some (.slice elem)) (hc : rowIs P elem c = true) {a : Option Addr} {cap : Nat} (hr : RowAt w (.slice a c.len cap) c) (hsmall : c.len < 1000000)
    {n : Nat} {news : List Value} (hn : 0 < n) (hn2 : n < 1000000) (hl : news.length = n * c.width) (k : Nat) (hcap : a = none → k = 0) (hk : k < c.len + n)
    (p : Addr) (m : Nat) (hnews : ∀ j v, news[j]? = some v → w.cell? (p.add j) = some v) :
    ∃ ncap zs, (Builtin.append_ #[t, t] ty #[.slice a c.len k, .slice (some p) n m]).run P w = .ok (.slice (some ⟨w.heap.size, 0, none⟩) (c.len + n) ncap) (w.drew.alloc (.cells ((c.cells ++ news).toArray ++ zs) elem)) ∧ c.len + n ≤ ncap ∧ ncap * c.width ≤ ((c.cells ++ news).toArray ++ zs).size := by
  obtain ⟨i, z, hi, hz, hs, hb, hzc⟩ := rowIs_info hc
  obtain ⟨⟨h1, h2⟩, a', cap', hv, h3, h4⟩ := hr
  cases hv
  cases a with
  | none =>
    simp only at h4
    have hk0 := hcap rfl
    subst hk0
    have hcl : c.cells = [] := by
      have := c.cells_length
      rw [h4.1, Nat.zero_mul] at this
      exact List.length_eq_zero_iff.1 this
    have hrun := run_append_nil (P := P) w t ty elem i z hu hi hz p n m news (by rw [hs]; exact hl) hnews hn (by omega) (by
      have : n * i.bytes ≤ n * 64 := Nat.mul_le_mul_left _ hb
      omega)
    have hfit := room_fits (z := z.cells) hl hzc (ncap := grownCap w n 0 elem) (by rw [h4.1, Nat.zero_add]; exact grownCap_ge w n 0 elem)
    rw [h4.1, hcl] at *
    refine ⟨grownCap w n 0 elem, Builtin.zeroCells z.cells (grownCap w n 0 elem - n), ?_, by rw [Nat.zero_add]; exact grownCap_ge w n 0 elem, by simpa using hfit⟩
    rw [hrun]; simp
  | some q =>
    obtain ⟨qb, qo, qs⟩ := q
    simp only at h4
    obtain ⟨rfl, h5, h6⟩ := h4
    have hfit : Builtin.nextslicecap (c.len + n) k * i.bytes ≤ 281474976710656 := growslice_fits hk (by
      have : (c.len + n) * i.bytes ≤ (c.len + n) * 64 := Nat.mul_le_mul_left _ hb
      omega)
    have hrun := run_append_grow (P := P) w t ty elem i z hu hi hz ⟨qb, qo, none⟩ c.len k c.cells (by rw [hs]; exact c.cells_length) (fun j v hj => by rw [add_mk]; exact h6 j v hj) p n m news (by rw [hs]; exact hl) hnews hk (by omega) hfit
    refine ⟨grownCap w (c.len + n) k elem, Builtin.zeroCells z.cells (grownCap w (c.len + n) k elem - (c.len + n)), ?_, grownCap_ge w _ k elem, room_fits hl hzc (grownCap_ge w _ k elem)⟩
    rw [hrun]
    congr 3
    simp

/-- The value of a cut, its row named. -/
def named (rid : Nat) (e : Eff) : Eff := { e with v := match e.v with | .r 0 => .r rid | v => v }

def OptV (E : Env) : Option SV → Option Value → Prop
  | none, y => y = none
  | some sv, y => ∃ v, y = some v ∧ V E sv v

theorem evSlice_ok (hm : MemR W0 E s.M s.R w) {t : TypeId} {sx : SV} {lo hi mx : Option SV} {e : Eff} (h : evSlice cx s t sx lo hi mx = some e) (hnd : AllT e.needs) {x : Value} (hx : V E sx x)
    {l g m : Option Value} (hl : OptV E lo l) (hg : OptV E hi g) (hmx : OptV E mx m) (id rid : Nat) (hf : E.σ rid = none) :
    ∃ v F, (Instr.sliceAt t x l g m).run cx.P w = .ok v w ∧ Did W0 E s.M s.R (named rid e) id rid v w F := by
  unfold evSlice at h
  split at h <;> try (cases h; done)
  rename_i elem hu
  split at h <;> try (cases h; done)
  rename_i n hn
  simp only [OptV] at hl
  subst hl
  have cut : ∀ (r : Nat) (hv : Int) (k : IntKind) (c c' : RowC) (o : Bool), V E (.r r) x → g = some (.int k hv) → m = none → s.R r = some ⟨c, o⟩ → AllT [decide (0 ≤ hv), decide (hv ≤ (c.len : Int))] →
      (hv ≤ (c.len : Int) → c'.len = hv.toNat ∧ c'.Ok ∧ ∀ (j : Nat) u, c'.cells[j]? = some u → c.cells[j]? = some u) → c'.width = c.width → e.wr = [] → e.nb = none → e.nr = [⟨c', o⟩] → e.only = none → e.v = .r 0 →
      ∃ v F, (Instr.sliceAt t x none g m).run cx.P w = .ok v w ∧ Did W0 E s.M s.R (named rid e) id rid v w F := by
    rintro r hv k c c' o hx rfl rfl hR hnd hc' hwid e1 e2 e3 e4 e5
    obtain ⟨h0, h1⟩ := AllT.two hnd
    simp only [V] at hx
    obtain ⟨hx, a, len, cap, rfl⟩ := hx
    obtain ⟨⟨⟨c1, clen⟩, a', cap', hv', c2, c3⟩, c4, c5⟩ := row_val hm hR hx
    cases hv'
    dsimp only at c1 clen c2 c3 c4 c5 hx ⊢
    obtain ⟨d1, d2, d3⟩ := hc' h1
    have hrun : (Instr.sliceAt t (.slice a c.len cap) none (some (.int k hv)) none).run cx.P w = .ok (.slice a hv.toNat cap) w := by
      have hle : hv ≤ (cap : Int) := by omega
      have ha : (if cap = 0 then a else a.map (fun x => x.add (0 * n))) = a := by
        split
        · rfl
        · cases a <;> simp [Addr.add]
      simp only [Instr.sliceAt, Sem.run_bind, run_underlying' hu, Result.andThen_ok, Instr.slice, Instr.sliceBounds, Instr.sliceBound, asIntOf, Sem.run_pure, h0, hle, and_self, if_true, run_sizeOf' hn]
      simp only [Nat.sub_zero, ha]
    refine ⟨_, _, hrun, did_row hm (Below.refl _ _) (x := ⟨c', o⟩) (by simp [named, e1]) (by simp [named, e2]) (by simp [named, e3]) (by simp [named, e4]) (by simp [named, e5]) hf ?_⟩
    refine ⟨⟨⟨d2, by dsimp only; omega⟩, a, cap, by dsimp only; rw [d1], by dsimp only; omega, ?_⟩, (by cases a <;> exact c4), fun ho b hb => ?_⟩
    rotate_left
    · cases a with
      | none => cases hb
      | some p =>
        obtain ⟨q1, cs, ty, q2, q3⟩ := c5 ho b hb
        exact ⟨q1, cs, ty, q2, by simpa [Room, hwid] using q3⟩
    cases a with
    | none => exact ⟨by dsimp only at c3 ⊢; omega, c3.2⟩
    | some p => exact ⟨c3.1, c3.2.1, fun j u hj => c3.2.2 j u (d3 j u hj)⟩
  have cutr : ∀ (r : Nat) (hv : Int) (k : IntKind), evCut s r hv = some e → V E (.r r) x → g = some (.int k hv) → m = none →
      ∃ v F, (Instr.sliceAt t x none g m).run cx.P w = .ok v w ∧ Did W0 E s.M s.R (named rid e) id rid v w F := by
    rintro r hv k h hx rfl rfl
    unfold evCut at h
    split at h <;> try (cases h; done)
    · rename_i l o hR
      cases h
      refine cut r hv _ (.bytes l) (.bytes (l.take hv.toNat)) o hx rfl rfl hR hnd (fun h1 => ?_) rfl rfl rfl rfl rfl rfl
      have hok := (row_val hm hR (by simp only [V] at hx; exact hx.1)).1.1.1
      have hh := AllT.two hnd
      refine ⟨?_, fun v hv => hok v (List.mem_of_mem_take hv), fun j u hj => ?_⟩
      · simp only [RowC.len, List.length_take] at *; omega
      · simp only [RowC.cells, List.getElem?_map, List.getElem?_take] at hj ⊢
        split at hj
        · exact hj
        · simp at hj
    · rename_i l o hR
      cases h
      refine cut r hv _ (.evs l) (.evs (l.take hv.toNat)) o hx rfl rfl hR hnd (fun h1 => ?_) rfl rfl rfl rfl rfl rfl
      have hok := (row_val hm hR (by simp only [V] at hx; exact hx.1)).1.1.1
      have hh := AllT.two hnd
      refine ⟨?_, fun v hv => hok v (List.mem_of_mem_take hv), fun j u hj => ?_⟩
      · simp only [RowC.len, List.length_take] at *; omega
      · have hsplit : (RowC.evs l).cells = (RowC.evs (l.take hv.toNat)).cells ++ (RowC.evs (l.drop hv.toNat)).cells := by
          rw [← RowC.cells_append_evs, List.take_append_drop]
        rw [hsplit, List.getElem?_append_left (List.getElem?_eq_some_iff.1 hj).1]
        exact hj
  split at h
  · rename_i kk hv
    simp only [OptV] at hg hmx
    obtain ⟨gv, rfl, hgv⟩ := hg
    subst hmx
    obtain ⟨h0, h⟩ := cond_none h
    cases h
    have h0 : hv = 0 := by simpa using h0
    subst h0
    simp only [V] at hgv hx
    obtain ⟨rfl, _⟩ := hgv
    subst hx
    refine ⟨.slice none 0 0, E, ?_, Did.same hm rfl rfl rfl rfl (by simp only [named, Eff.pure, V])⟩
    simp [Instr.sliceAt, run_underlying' hu, Instr.slice, Instr.sliceBounds, Instr.sliceBound, asIntOf, run_sizeOf' hn]
  · rename_i r kk hv
    simp only [OptV] at hg hmx
    obtain ⟨gv, rfl, hgv⟩ := hg
    simp only [V] at hgv
    obtain ⟨rfl, _⟩ := hgv
    exact cutr r hv kk h hx rfl hmx
  · rename_i r kk hv
    simp only [OptV] at hg hmx
    obtain ⟨gv, rfl, hgv⟩ := hg
    simp only [V] at hgv
    obtain ⟨rfl, _⟩ := hgv
    exact cutr r hv kk h hx rfl hmx
  · rename_i r kk hv kk2 mv
    simp only [OptV] at hg hmx
    obtain ⟨gv, rfl, hgv⟩ := hg
    obtain ⟨mv', rfl, hmv⟩ := hmx
    simp only [V] at hgv hmv
    obtain ⟨rfl, _⟩ := hgv
    obtain ⟨rfl, _⟩ := hmv
    split at h <;> try (cases h; done)
    rename_i c hR
    cases h
    obtain ⟨h0, h1⟩ := AllT.two hnd
    subst h0 h1
    simp only [V] at hx
    obtain ⟨hx, a, len, cap, rfl⟩ := hx
    obtain ⟨⟨⟨c1, clen⟩, a', cap', hv', c2, c3⟩, c4, c5⟩ := row_val hm hR hx
    cases hv'
    have hrun : (Instr.sliceAt t (.slice a c.c.len cap) none (some (.int kk (c.c.len : Int))) (some (.int kk2 (c.c.len : Int)))).run cx.P w = .ok (.slice a c.c.len c.c.len) w := by
      have hle : (c.c.len : Int) ≤ (cap : Int) := by omega
      have h0 : (0 : Int) ≤ (c.c.len : Int) := by omega
      have ha : (if c.c.len = 0 then a else a.map (fun x => x.add (0 * n))) = a := by
        split
        · rfl
        · cases a <;> simp [Addr.add]
      simp only [Instr.sliceAt, Sem.run_bind, run_underlying' hu, Result.andThen_ok, Instr.slice, Instr.sliceBounds, Instr.sliceBound, asIntOf, Sem.run_pure, h0, hle, and_self, if_true, run_sizeOf' hn, Int.toNat_natCast, Int.le_refl]
      simp only [Nat.sub_zero, ha]
    refine ⟨_, E, hrun, Did.same hm rfl rfl rfl rfl ?_⟩
    simp only [named]
    exact ⟨a, _, cap, hx, rfl⟩
  · cases h

theorem byteOf_V {sv : SV} {v : Int} (h : byteOf? sv = some v) {x : Value} (hx : V E sv x) : x = .int .u8 v ∧ InR .u8 v := by
  unfold byteOf? at h
  split at h <;> try (cases h; done)
  all_goals
    cases h
    simp only [V] at hx
    exact hx

theorem evOf_V {cs : List SV} {v : Ev} (h : evOf? cs = some v) {vs : List Value} (hx : VL E cs vs) : vs = evCells v ∧ InR .i64 v.kind ∧ InR .i64 v.at_ ∧ InR .u64 v.time := by
  unfold evOf? at h
  split at h <;> try (cases h; done)
  rename_i a b c
  split at h <;> try (cases h; done)
  rename_i x y z h1 h2
  cases h
  obtain ⟨va, r1, rfl, ha, hr1⟩ := VL.cons.1 hx
  obtain ⟨vb, r2, rfl, hb, hr2⟩ := VL.cons.1 hr1
  obtain ⟨q1, q2⟩ := intsOf_V (E := E) h1 (VL.cons'.2 ⟨ha, VL.cons'.2 ⟨hb, VL.nil.2 rfl⟩⟩)
  obtain ⟨q3, q4⟩ := intsOf_V h2 hr2
  simp only [List.map_cons, List.map_nil, List.cons.injEq, and_true] at q1 q3
  refine ⟨?_, q2 x (by simp), q2 y (by simp), q4 z (by simp)⟩
  rw [q1.1, q1.2, q3]; rfl

theorem natCast_InR {n : Nat} (h : n < 4611686018427387904) : InR .i64 (n : Int) := by
  simp only [InR, IntKind.min, IntKind.max, IntKind.signed, IntKind.bits]; simp; omega

theorem run_builtin_append {ats : Array TypeId} {ty : TypeId} {cs : Array Bool} {args : Array Value} {v : Value} {w' : World} (h : (Builtin.append_ ats ty args).run P w = .ok v w') :
    (builtin .append ats ty cs args).run P w = .ok (.value v) w' := by
  simp only [builtin, Sem.run_bind, h]; rfl

/-- An append that fits in place. -/
theorem run_append_fit {t ty elem ty' : TypeId} {i : TypeInfo} (ht : P.underlying t = some (.slice elem)) (hi : P.info? elem = some i)
    {g sLen sCap : Nat} {cur : Array Value} (hg : w.heap[g]? = some (.cells cur ty' (0, 0)))
    (a : Addr) (m c : Nat) (news : List Value) (hl : news.length = m * i.size) (hnews : ∀ (j : Nat) u, news[j]? = some u → w.cell? (a.add j) = some u) (h1 : ∀ u ∈ news, u.oneCell' = true)
    (hroom : sLen + m ≤ sCap) (hfit : sLen * i.size + news.length ≤ cur.size) :
    (Builtin.append_ #[t, t] ty #[.slice (some ⟨g, 0, none⟩) sLen sCap, .slice (some a) m c]).run P w =
      .ok (.slice (some ⟨g, 0, none⟩) (sLen + m) sCap) (w.setRow g (over cur.toList (sLen * i.size) news).toArray) := by
  have hf := run_firstCells_some (P := P) w i.size m a m c news hl hnews
  have hst := run_storeCells_at P g (sLen * i.size) ty' news 0 cur w hg (by simpa using hfit) h1
  simp only [Nat.add_zero] at hst
  simp [Builtin.append_, run_underlying ht, sizeOf, typeInfo, hi, Builtin.lenOf, hroom, hf, Addr.add_lit, hst, over]

/-- An append of nothing. -/
theorem run_append_none {t ty elem : TypeId} {i : TypeInfo} (ht : P.underlying t = some (.slice elem)) (hi : P.info? elem = some i) (a b : Option Addr) (n k m : Nat) (hk : n ≤ k) :
    (Builtin.append_ #[t, t] ty #[.slice a n k, .slice b 0 m]).run P w = .ok (.slice a n k) w := by
  cases a <;> cases b <;> simp [Builtin.append_, run_underlying ht, sizeOf, typeInfo, hi, Builtin.lenOf, hk, Builtin.firstCells, loadCells, loadCellsFrom, storeCells]

theorem evCells_one (l : List Ev) : ∀ u ∈ l.flatMap evCells, u.oneCell' = true := by
  intro u hu
  obtain ⟨e, _, he⟩ := List.mem_flatMap.1 hu
  simp only [evCells, List.mem_cons, List.not_mem_nil, or_false] at he
  rcases he with rfl | rfl | rfl <;> rfl

/-- A row of the call's own, its block written behind its end. -/
theorem MemR.setOwn {M : Nat → Option Blk} {R : Nat → Option RowE} (hm : MemR W0 E M R w) {q b cap : Nat} {c : RowC} {cs us : Array Value} {ty : TypeId} (hq : E.σ q = some (.slice (some ⟨b, 0, none⟩) c.len cap)) (hR : R q = some ⟨c, true⟩)
    (hb : w.heap[b]? = some (.cells cs ty (0, 0))) (hsz : us.size = cs.size) (hat : RowAt (w.setRow b us) (.slice (some ⟨b, 0, none⟩) c.len cap) c) :
    MemR W0 E M (upd (fun _ => none) q (some ⟨c, true⟩)) (w.setRow b us) := by
  obtain ⟨g1, g2, g3⟩ := row_val (s := { T := fun _ => .u, M, R, nM := 0, nR := 0, nT := 0 }) hm hR hq
  obtain ⟨d1, cs', ty', d2, d3⟩ := g3 rfl b rfl
  rw [hb] at d2; cases d2
  have hne : ∀ j, j ≠ b → (w.setRow b us).heap[j]? = w.heap[j]? := fun j hj => setRow_other w b j _ hj
  refine ⟨hm.below.trans ⟨rfl, rfl, rfl, by simp, fun j hj => hne j (by omega)⟩, hm.inj, fun hi => ⟨(hm.own hi).1, by simpa using (hm.own hi).2⟩, fun {i k} hi => ?_, fun {r x} hr => ?_, fun c hc => by simpa using hm.ph c hc, hm.sep, fun c hc => (hne c fun e => (g2 b rfl).1 (by rw [← e]; exact hc)).trans (hm.still c hc)⟩
  · obtain ⟨c, k1, k2⟩ := hm.blk hi
    exact ⟨c, k1, k2.world (hne c fun e => (g2 b rfl).2 i (by rw [← e]; exact k1))⟩
  · rw [upd_apply] at hr
    split at hr
    · cases hr
      rename_i hqq; subst hqq
      refine ⟨_, hq, hat, g2, fun _ c hc => ?_⟩
      cases hc
      exact ⟨d1, _, ty, setRow_heap w b cs _ ty _ hb, by simpa [Room, hsz] using d3⟩
    · cases hr

/-- An append to a row of the call's own. -/
theorem append_own (hm : MemR W0 E s.M s.R w) {t ty elem : TypeId} {c c' : RowC} (hu : P.underlying t = some (.slice elem)) (hc : rowIs P elem c = true) {q : Nat} (hR : s.R q = some ⟨c, true⟩) {x : Value} (hx : E.σ q = some x)
    {p : Option Addr} {n m : Nat} {news : List Value} (hp : match p with | none => n = 0 | some a => ∀ (j : Nat) v, news[j]? = some v → w.cell? (a.add j) = some v) (hl : news.length = n * c.width) (h1 : ∀ u ∈ news, u.oneCell' = true)
    (hcells : c'.cells = c.cells ++ news) (hlen : c'.len = c.len + n) (hwid : c'.width = c.width) (hok : c'.Ok) (hs1 : c.len < 1000000) (hs2 : n < 1000000) {e : Eff} (e1 : e.wr = []) (e2 : e.nb = none) (e3 : e.nr = [⟨c', true⟩]) (e4 : e.only = some (q, ⟨c, true⟩)) (e5 : e.v = .r 0)
    (id rid : Nat) (hf : E.σ rid = none) :
    ∃ v w' F, (Builtin.append_ #[t, t] ty #[x, .slice p n m]).run P w = .ok v w' ∧ Did W0 E s.M s.R (named rid e) id rid v w' F := by
  obtain ⟨i, z, hi, hz, hsz, hb, hzc⟩ := rowIs_info hc
  have hval := row_val hm hR hx
  have hat := hval.1
  obtain ⟨⟨⟨c1, clen⟩, a, cap, rfl, c2, c3⟩, c4, c5⟩ := hval
  dsimp only at c1 clen c2 c3 c4 c5 hx hat ⊢
  have hsmall : MemR W0 E s.M (upd (fun _ => none) q (some ⟨c, true⟩)) w := hm.lessRows fun r e h => by
    rw [upd_apply] at h
    split at h
    · cases h; rename_i hq; subst hq; exact hR
    · cases h
  have fin : ∀ (v : Value) (w' : World), MemR W0 E s.M (upd (fun _ => none) q (some ⟨c, true⟩)) w' → RowOk W0 E w' v ⟨c', true⟩ → Did W0 E s.M s.R (named rid e) id rid v w' (E.rowed rid v) := by
    intro v w' hm' hv
    refine ⟨Env.le_rowed hf, fun _ _ => rfl, fun r hr => Env.rowed_other E (by unfold rowsEach at hr; omega), ?_, ?_⟩
    · simp only [named, e5, V]
      obtain ⟨⟨_, a, cap, rfl, _⟩, _⟩ := hv
      exact ⟨Env.rowed_self .., a, _, cap, rfl⟩
    · have hM : (named rid e).appM s.M id = s.M := by simp [named, Eff.appM, e1, e2, updW]
      have hR' : (named rid e).appR s.R rid = upd (upd (fun _ => none) q (some ⟨c, true⟩)) rid (some ⟨c', true⟩) := by simp [named, Eff.appR, e3, e4, updL]
      rw [hM, hR']
      exact hm'.addRow hf hv
  by_cases hn : n = 0
  · subst hn
    have hnn : news = [] := List.length_eq_zero_iff.1 (by rw [hl, Nat.zero_mul])
    subst hnn
    rw [List.append_nil] at hcells
    refine ⟨_, w, _, run_append_none (P := P) (w := w) (ty := ty) hu hi a p c.len cap m c2, fin _ _ hsmall ⟨⟨⟨hok, by dsimp only; omega⟩, a, cap, by dsimp only; rw [hlen, Nat.add_zero], by dsimp only; omega, ?_⟩, c4, fun _ b hb => ?_⟩⟩
    · cases a with
      | none => exact ⟨by dsimp only at c3 ⊢; omega, c3.2⟩
      | some a => exact ⟨c3.1, c3.2.1, fun j u hj => c3.2.2 j u (by dsimp only at hj; rw [hcells] at hj; exact hj)⟩
    · cases a with
      | none => cases hb
      | some a =>
        obtain ⟨q1, cs, ty, q2, q3⟩ := c5 rfl b hb
        exact ⟨q1, cs, ty, q2, by simpa [Room, hwid] using q3⟩
  · cases p with
    | none => exact absurd hp hn
    | some p =>
      dsimp only at hp
      by_cases hfit : c.len + n ≤ cap
      · cases a with
        | none => dsimp only at c3; omega
        | some a =>
          obtain ⟨b, o, sp⟩ := a
          obtain ⟨d1, cs, ty', d2, d3⟩ := c5 rfl b rfl
          simp only [Room] at d3
          obtain ⟨rfl, d3⟩ := d3
          obtain ⟨rfl, c6, c7⟩ := c3
          simp only [Nat.zero_add] at c7
          have hroom : c.len * i.size + news.length ≤ cs.size := by
            rw [hsz, hl, ← Nat.add_mul]
            exact Nat.le_trans (Nat.mul_le_mul_right _ hfit) d3
          have hrun := run_append_fit (P := P) (w := w) (ty := ty) hu hi d2 p n m news (by rw [hsz]; exact hl) hp h1 hfit hroom
          have hcs : ∀ (j : Nat) u, c.cells[j]? = some u → cs.toList[j]? = some u := fun j u hj => by
            have := c7 j u hj
            rw [cell_of_row w b j cs ty' (0, 0) d2] at this
            simpa using this
          have hcl := c.cells_length
          have hget : ∀ (j : Nat) u, (c.cells ++ news)[j]? = some u → (over cs.toList (c.len * i.size) news).toArray[j]? = some u := fun j u hj => by
            rw [List.getElem?_toArray, over_get _ _ _ _ (by simpa using hroom)]
            rw [List.getElem?_append, hcl] at hj
            rw [hsz]
            split at hj
            · rename_i hlt
              rw [if_neg (by omega)]
              exact hcs j u hj
            · rename_i hge
              have := (List.getElem?_eq_some_iff.1 hj).1
              rw [if_pos (by omega)]
              exact hj
          have hcell : ∀ (j : Nat) u, (c.cells ++ news)[j]? = some u → (w.setRow b (over cs.toList (c.len * i.size) news).toArray).cell? ⟨b, 0 + j, none⟩ = some u := fun j u hj => by
            rw [Nat.zero_add, cell_setRow_same w b j cs _ ty' (0, 0) d2]
            exact hget j u hj
          have hosz : (over cs.toList (c.len * i.size) news).toArray.size = cs.size := by
            have := hroom
            simp only [over, List.size_toArray, List.length_append, List.length_take, List.length_drop, Array.length_toList]
            omega
          have hat' : RowAt (w.setRow b (over cs.toList (c.len * i.size) news).toArray) (.slice (some ⟨b, 0, none⟩) c.len cap) c :=
            ⟨⟨c1, clen⟩, some ⟨b, 0, none⟩, cap, rfl, c2, rfl, by simpa using c6, fun j u hj => hcell j u (by rw [List.getElem?_append_left (List.getElem?_eq_some_iff.1 hj).1]; exact hj)⟩
          refine ⟨_, _, _, hrun, fin _ _ (hm.setOwn hx hR d2 hosz hat') ⟨⟨⟨hok, by dsimp only; omega⟩, some ⟨b, 0, none⟩, cap, by dsimp only; rw [hlen], by dsimp only; omega, rfl, by simpa using c6, fun j u hj => hcell j u (by dsimp only at hj; rw [hcells] at hj; exact hj)⟩, c4, fun _ b' hb => ?_⟩⟩
          cases hb
          exact ⟨d1, _, ty', setRow_heap w b cs _ ty' _ d2, by simp only [Room]; exact ⟨trivial, by rw [hosz, hwid]; exact d3⟩⟩
      · obtain ⟨ncap, zs, hrun, hcap, hfits⟩ := run_append_row (P := P) (w := w) (ty := ty) hu hc hat hs1 (n := n) (news := news) (by omega) hs2 hl cap (fun ha => by subst ha; exact c3.2) (by omega) p m hp
        refine ⟨_, _, _, hrun, fin _ _ (hsmall.grow (below_draw_alloc w _)) ?_⟩
        rw [← hlen]
        refine rowOk_new (hsmall.drew) (c := c') (cap := ncap) hok (by omega) (by omega) (fun j u hj => ?_) (by rw [hwid]; exact hfits)
        rw [hcells] at hj
        rw [Array.getElem?_append_left (by simpa using (List.getElem?_eq_some_iff.1 hj).1)]
        simpa using hj

theorem zeros_cells {z : Array Value} (hz : z = #[.int .i64 0, .int .i64 0, .int .u64 0]) : ∀ k, (Builtin.zeroCells z k).toList = (List.replicate k (⟨0, 0, 0⟩ : Ev)).flatMap evCells := by
  subst hz
  intro k
  simp only [Builtin.zeroCells, Array.toList_map, Array.toList_range]
  induction k with
  | zero => rfl
  | succ k ih =>
    rw [List.replicate_succ', List.flatMap_append, ← ih]
    have h3 : (k + 1) * (#[Value.int .i64 0, .int .i64 0, .int .u64 0] : Array Value).size = k * 3 + 1 + 1 + 1 := by simp; omega
    rw [h3, List.range_succ, List.range_succ, List.range_succ]
    have e0 : k * 3 % 3 = 0 := by omega
    have e1 : (k * 3 + 1) % 3 = 1 := by omega
    have e2 : (k * 3 + 1 + 1) % 3 = 2 := by omega
    simp [evCells, e0, e1, e2]

theorem evBuiltin_ok (hm : MemR W0 E s.M s.R w) {bt : Builtin} {ats : List TypeId} {sargs : List SV} {e : Eff} (h : evBuiltin cx s bt ats sargs = some e) (hnd : AllT e.needs) {vs : List Value} (hv : VL E sargs vs)
    (ty : TypeId) (consts : Array Bool) (id rid : Nat) (hf : E.σ rid = none) :
    ∃ v w' F, (builtin bt ats.toArray ty consts vs.toArray).run cx.P w = .ok (.value v) w' ∧ Did W0 E s.M s.R (named rid e) id rid v w' F := by
  unfold evBuiltin at h
  split at h
  · -- len
    rename_i t sx
    obtain ⟨x, r, rfl, hx, hr⟩ := VL.cons.1 hv
    have hnil := VL.nil.1 hr
    subst hnil
    split at h <;> try (cases h; done)
    rename_i el hu
    have run : ∀ a n c, (builtin .len [t].toArray ty consts [Value.slice a n c].toArray).run cx.P w = .ok (.value (.int .i64 n)) w := by
      intro a n c
      simp [builtin, Builtin.len_, run_underlying' hu, goInt]
    split at h
    · have hc := cond_none h
      clear h
      obtain ⟨hk, h2⟩ := hc
      cases h2
      simp only [V] at hx
      obtain ⟨b, hb, rfl⟩ := hx
      refine ⟨_, w, E, run .., Did.same hm rfl rfl rfl rfl ?_⟩
      simp only [named, Eff.pure, V]
      exact ⟨trivial, natCast_InR (by have := Nat.le_of_ble_eq_true hk; omega)⟩
    · cases h
      simp only [V] at hx
      subst hx
      refine ⟨_, w, E, run .., Did.same hm rfl rfl rfl rfl ?_⟩
      simp only [named, Eff.pure, V]
      exact ⟨by simp, by decide, by decide⟩
    · split at h <;> try (cases h; done)
      rename_i r xr hR
      cases h
      simp only [V] at hx
      obtain ⟨hx, a, len, cap, rfl⟩ := hx
      obtain ⟨⟨⟨c1, clen⟩, a', cap', hv', c2, c3⟩, c4, c5⟩ := row_val hm hR hx
      cases hv'
      refine ⟨_, w, E, run .., Did.same hm rfl rfl rfl rfl ?_⟩
      simp only [named, Eff.pure, V]
      exact ⟨trivial, natCast_InR clen⟩
    · cases h
  · -- min
    rename_i sx sy
    obtain ⟨x, r, rfl, hx, hr⟩ := VL.cons.1 hv
    obtain ⟨y, r2, rfl, hy, hr2⟩ := VL.cons.1 hr
    have hnil := VL.nil.1 hr2
    subst hnil
    split at h <;> try (cases h; done)
    all_goals
      have hc := cond_none h
      clear h
      obtain ⟨hk, h2⟩ := hc
      have hkk := kindB_eq hk
      subst hkk
      cases h2
      simp only [V] at hx hy
      obtain ⟨rfl, hx⟩ := hx
      obtain ⟨rfl, hy⟩ := hy
      refine ⟨_, w, E, by simp [builtin, Builtin.min_, Builtin.min2]; rfl, Did.same hm rfl rfl rfl rfl ?_⟩
      simp only [named, Eff.pure, V]
      refine ⟨trivial, ?_⟩
      split <;> assumption
  · -- max
    rename_i sx sy
    obtain ⟨x, r, rfl, hx, hr⟩ := VL.cons.1 hv
    obtain ⟨y, r2, rfl, hy, hr2⟩ := VL.cons.1 hr
    have hnil := VL.nil.1 hr2
    subst hnil
    split at h <;> try (cases h; done)
    all_goals
      have hc := cond_none h
      clear h
      obtain ⟨hk, h2⟩ := hc
      have hkk := kindB_eq hk
      subst hkk
      cases h2
      simp only [V] at hx hy
      obtain ⟨rfl, hx⟩ := hx
      obtain ⟨rfl, hy⟩ := hy
      refine ⟨_, w, E, by simp [builtin, Builtin.max_, Builtin.max2]; rfl, Did.same hm rfl rfl rfl rfl ?_⟩
      simp only [named, Eff.pure, V]
      refine ⟨trivial, ?_⟩
      split <;> assumption
  · -- append of one element to a full row
    rename_i st xt r id'
    obtain ⟨x, r1, rfl, hx, hr⟩ := VL.cons.1 hv
    obtain ⟨y, r2, rfl, hy, hr2⟩ := VL.cons.1 hr
    have hnil := VL.nil.1 hr2
    subst hnil
    simp only [V] at hx hy
    obtain ⟨a, len, cap, hx, rfl⟩ := hx
    obtain ⟨b, hb, rfl⟩ := hy
    have fin : ∀ (c c' : RowC) (o : Bool) (ty' elem : TypeId) (cs : List SV) (news : List Value), cx.P.underlying st = some (.slice elem) → rowIs cx.P elem c = true → st = xt → s.R r = some ⟨c, o⟩ → s.M id' = some (.cells ty' cs) →
        c.len < 1000000 → (∀ vs : List Value, VL E cs vs → vs = news) → news.length = c.width → c'.cells = c.cells ++ news → c'.len = c.len + 1 → c'.width = c.width → (c.Ok → c'.Ok) → e.wr = [] → e.nb = none → e.nr = [⟨c', true⟩] → e.only = none → e.v = .r 0 →
        ∃ v w' F, (builtin .append [st, xt].toArray ty consts [Value.slice a len len, .slice (some ⟨b, 0, none⟩) 1 1].toArray).run cx.P w = .ok (.value v) w' ∧ Did W0 E s.M s.R (named rid e) id rid v w' F := by
      intro c c' o ty' elem cs news hu hc hst hR hM hsmall hnews hnl hcells hlen hwid hok e1 e2 e3 e4 e5
      subst hst
      have hrow := row_val hm hR hx
      obtain ⟨vs, k1, k2⟩ := blk_cell hm hM hb
      have hvs := hnews vs k2
      subst hvs
      have hat := hrow.1
      obtain ⟨⟨⟨c1, clen⟩, a', cap', hv', c2, c3⟩, c4, c5⟩ := hrow
      cases hv'
      dsimp only at c1 clen c2 c3 c4 c5 hx hat ⊢
      obtain ⟨ncap, zs, hrun, hcap, hfit⟩ := run_append_row (P := cx.P) (w := w) (ty := ty) hu hc hat hsmall (n := 1) (news := vs) (by omega) (by omega) (by omega) c.len (fun ha => by subst ha; exact c3.1) (by omega) ⟨b, 0, none⟩ 1
        (fun j v hj => by rw [add_mk, cell_of_blk k1, Nat.zero_add]; exact hj)
      have q1 : (named rid e).wr = [] := e1
      have q2 : (named rid e).nb = none := e2
      have q3 : (named rid e).nr = [⟨c', true⟩] := e3
      have q4 : (named rid e).only = none := e4
      have q5 : (named rid e).v = .r rid := by simp [named, e5]
      refine ⟨.slice (some ⟨w.heap.size, 0, none⟩) (c.len + 1) ncap, w.drew.alloc (.cells ((c.cells ++ vs).toArray ++ zs) elem), _, ?_, did_row hm (below_draw_alloc w _) (x := ⟨c', true⟩) q1 q2 q3 q4 q5 hf ?_⟩
      · exact run_builtin_append hrun
      · rw [← hlen]
        refine rowOk_new (hm.drew) (c := c') (cap := ncap) (hok c1) (by omega) (by omega) (fun j u hj => ?_) (by rw [hwid]; exact hfit)
        rw [hcells] at hj
        rw [Array.getElem?_append_left (by simpa using (List.getElem?_eq_some_iff.1 hj).1)]
        simpa using hj
    split at h <;> try (cases h; done)
    · rename_i elem el2 l o ty' c hu hu2 hR hM
      obtain ⟨hc, h⟩ := cond_none h
      simp only [Bool.and_eq_true] at hc
      split at h <;> try (cases h; done)
      rename_i v hv
      cases h
      have hsm : l.length < 1000000 := by simpa using hnd (decide (l.length < 1000000)) (by simp)
      refine fin (.bytes l) (.bytes (l ++ [v])) o ty' elem [c] [.int .u8 v] hu hc.1 (Nat.eq_of_beq_eq_true hc.2) hR hM hsm (fun vs hvs => ?_) rfl (by simp [RowC.cells]) (by simp [RowC.len]) rfl (fun hok => ?_) rfl rfl rfl rfl rfl
      · obtain ⟨u, us, rfl, hu1, hu2⟩ := VL.cons.1 hvs
        rw [VL.nil.1 hu2, (byteOf_V hv hu1).1]
      · obtain ⟨vs, _, k2⟩ := blk_cell hm hM hb
        obtain ⟨u, us, rfl, hu1, hu2⟩ := VL.cons.1 k2
        intro q hq
        rcases List.mem_append.1 hq with h1 | h1
        · exact hok q h1
        · simp at h1; subst h1; exact (byteOf_V hv hu1).2
    · rename_i elem el2 l o ty' cs hu hu2 hR hM
      obtain ⟨hc, h⟩ := cond_none h
      simp only [Bool.and_eq_true] at hc
      split at h <;> try (cases h; done)
      rename_i v hv
      cases h
      have hsm : l.length < 1000000 := by simpa using hnd (decide (l.length < 1000000)) (by simp)
      refine fin (.evs l) (.evs (l ++ [v])) o ty' elem cs (evCells v) hu hc.1 (Nat.eq_of_beq_eq_true hc.2) hR hM hsm (fun vs hvs => (evOf_V hv hvs).1) rfl (by simp [RowC.cells]) (by simp [RowC.len]) rfl (fun hok => ?_) rfl rfl rfl rfl rfl
      obtain ⟨vs, _, k2⟩ := blk_cell hm hM hb
      intro q hq
      rcases List.mem_append.1 hq with h1 | h1
      · exact hok q h1
      · simp at h1; subst h1; exact (evOf_V hv k2).2
  · -- a row behind an empty slice
    rename_i st xt id' r
    obtain ⟨x, r1, rfl, hx, hr⟩ := VL.cons.1 hv
    obtain ⟨y, r2, rfl, hy, hr2⟩ := VL.cons.1 hr
    have hnil := VL.nil.1 hr2
    subst hnil
    simp only [V] at hx hy
    obtain ⟨b, hb, rfl⟩ := hx
    obtain ⟨hy, a, len, cap, rfl⟩ := hy
    split at h <;> try (cases h; done)
    rename_i elem el2 l o hu hu2 hR
    obtain ⟨hc, h⟩ := cond_none h
    simp only [Bool.and_eq_true] at hc
    cases h
    have hst := Nat.eq_of_beq_eq_true hc.2
    subst hst
    have hh := AllT.two hnd
    obtain ⟨⟨⟨c1, clen⟩, a', cap', hv', c2, c3⟩, c4, c5⟩ := row_val hm hR hy
    cases hv'
    dsimp only at c1 clen c2 c3 c4 c5 hy ⊢
    have hl : (RowC.bytes l).len = l.length := rfl
    cases a with
    | none => dsimp only at c3; omega
    | some p =>
      obtain ⟨pb, po, ps⟩ := p
      dsimp only at c3
      obtain ⟨rfl, c6, c7⟩ := c3
      have hempty : RowAt w (.slice (some ⟨b, 0, none⟩) (RowC.bytes []).len 0) (.bytes []) := by
        refine ⟨⟨fun v hv => (by cases hv), by decide⟩, some ⟨b, 0, none⟩, 0, rfl, Nat.le_refl _, rfl, (hm.own hb).2, fun j u hj => by simp [RowC.cells] at hj⟩
      have hc0 : rowIs cx.P elem (.bytes []) = true := hc.1
      obtain ⟨ncap, zs, hrun, hcap, hfit⟩ := run_append_row (P := cx.P) (w := w) (ty := ty) hu hc0 hempty (by decide) (n := l.length) (news := (RowC.bytes l).cells) hh.1 hh.2 (RowC.cells_length _) 0 (fun _ => rfl) (by omega) ⟨pb, po, none⟩ cap
        (fun j v hj => by rw [add_mk]; exact c7 j v hj)
      refine ⟨.slice (some ⟨w.heap.size, 0, none⟩) ((RowC.bytes []).len + l.length) ncap, w.drew.alloc (.cells (((RowC.bytes []).cells ++ (RowC.bytes l).cells).toArray ++ zs) elem), _, ?_, did_row hm (below_draw_alloc w _) (x := ⟨.bytes l, true⟩) rfl rfl rfl rfl rfl hf ?_⟩
      · exact run_builtin_append hrun
      · have : (RowC.bytes []).len + l.length = (RowC.bytes l).len := by simp [RowC.len]
        rw [this]
        refine rowOk_new (hm.drew) (cap := ncap) c1 clen (by omega) (fun j u hj => ?_) hfit
        rw [Array.getElem?_append_left (by simpa [RowC.cells] using (List.getElem?_eq_some_iff.1 hj).1)]
        simpa [RowC.cells] using hj
  · -- zeros behind nil
    rename_i st xt n
    obtain ⟨x, r1, rfl, hx, hr⟩ := VL.cons.1 hv
    obtain ⟨y, r2, rfl, hy, hr2⟩ := VL.cons.1 hr
    have hnil := VL.nil.1 hr2
    subst hnil
    simp only [V] at hx hy
    subst hx
    obtain ⟨rfl, hy⟩ := hy
    split at h <;> try (cases h; done)
    rename_i elem k hu hxu
    split at h <;> try (cases h; done)
    rename_i hz
    obtain ⟨hc, h⟩ := cond_none h
    cases h
    have hh := AllT.two hnd
    obtain ⟨i, z, hi, hzv, hs, hb, hzc⟩ := rowIs_info hc
    obtain ⟨i', z', hi', hz', hcs⟩ := zeroSV_V hz
    rw [hi] at hi'; cases hi'
    rw [hzv] at hz'; cases hz'
    have hs3 : i.size = 3 := hs
    have hz3 : z.cells = #[.int .i64 0, .int .i64 0, .int .u64 0] := by
      have := hcs E
      obtain ⟨a, l1, q1, k1, h1⟩ := VL.cons.1 this
      obtain ⟨b, l2, q2, k2, h2⟩ := VL.cons.1 h1
      obtain ⟨c, l3, q3, k3, h3⟩ := VL.cons.1 h2
      rw [q2, q3, VL.nil.1 h3] at q1
      simp only [V] at k1 k2 k3
      rw [k1.1, k2.1, k3.1] at q1
      exact Array.ext' (by simpa using q1)
    have hn : ((n.toNat : Nat) : Int) = n := by omega
    have hrun := Lib.run_append_nil_zeros (P := cx.P) w st xt ty elem i z .i64 k hu hxu hi hzv n.toNat (by omega) (by omega) (by omega) (by
      have : n.toNat * i.bytes ≤ n.toNat * 64 := Nat.mul_le_mul_left _ hb
      omega)
    rw [hn] at hrun
    have hl : (RowC.evs (List.replicate n.toNat ⟨0, 0, 0⟩)).len = n.toNat := by simp [RowC.len]
    have hge := grownCap_ge w n.toNat 0 elem
    refine ⟨_, _, _, run_builtin_append hrun, did_row hm (below_draw_alloc w _) (x := ⟨.evs (List.replicate n.toNat ⟨0, 0, 0⟩), true⟩) rfl rfl rfl rfl rfl hf ?_⟩
    have key : RowOk W0 E (w.drew.alloc (.cells (Builtin.zeroCells z.cells n.toNat ++ Builtin.zeroCells z.cells (grownCap w n.toNat 0 elem - n.toNat)) elem)) (.slice (some ⟨w.drew.heap.size, 0, none⟩) (RowC.evs (List.replicate n.toNat ⟨0, 0, 0⟩)).len (grownCap w n.toNat 0 elem)) ⟨.evs (List.replicate n.toNat ⟨0, 0, 0⟩), true⟩ := by
      refine rowOk_new (hm.drew) (fun e he => ?_) (by rw [hl]; omega) (by rw [hl]; exact hge) (fun j u hj => ?_) ?_
      · rw [List.eq_of_mem_replicate he]
        exact ⟨⟨by decide, by decide⟩, ⟨by decide, by decide⟩, ⟨by decide, by decide⟩⟩
      · simp only [RowC.cells] at hj
        rw [← zeros_cells hz3] at hj
        simp only [Array.getElem?_toList] at hj
        rw [Array.getElem?_append_left (Array.getElem?_eq_some_iff.1 hj).1]
        exact hj
      · simp only [Array.size_append, size_zeroCells, hzc, ← Nat.add_mul, RowC.width]
        have : n.toNat + (grownCap w n.toNat 0 elem - n.toNat) = grownCap w n.toNat 0 elem := by omega
        rw [this]
        exact Nat.le_refl _
    rw [hl] at key
    exact key
  · -- a row behind a row of the call's own
    rename_i st xt q r
    obtain ⟨x, r1, rfl, hx, hr⟩ := VL.cons.1 hv
    obtain ⟨y, r2, rfl, hy, hr2⟩ := VL.cons.1 hr
    have hnil := VL.nil.1 hr2
    subst hnil
    simp only [V] at hx hy
    obtain ⟨hx, _⟩ := hx
    obtain ⟨hy, a, len, cap, rfl⟩ := hy
    split at h <;> try (cases h; done)
    rename_i elem el2 l m o hu hu2 hR hR2
    obtain ⟨hc, h⟩ := cond_none h
    simp only [Bool.and_eq_true] at hc
    cases h
    have hst := Nat.eq_of_beq_eq_true hc.2
    subst hst
    have hh := AllT.two hnd
    have hl := row_val hm hR hx
    obtain ⟨⟨⟨c1, clen⟩, a', cap', hv', c2, c3⟩, _⟩ := row_val hm hR2 hy
    cases hv'
    obtain ⟨v, w', F, h1, h2⟩ := append_own (P := cx.P) (ty := ty) hm hu hc.1 (c' := .evs (l ++ m)) hR hx (p := a) (n := m.length) (m := cap) (news := m.flatMap evCells) (by
      cases a with
      | none => exact c3.1
      | some p =>
        obtain ⟨pb, po, ps⟩ := p
        obtain ⟨rfl, _, c7⟩ := c3
        exact fun j v hj => by rw [add_mk]; exact c7 j v hj) (by rw [evCells_length]; exact Nat.mul_comm _ _) (evCells_one m) (RowC.cells_append_evs l m) (by simp [RowC.len]) rfl (fun e he => by
          rcases List.mem_append.1 he with he | he
          · exact hl.1.1.1 e he
          · exact c1 e he) hh.1 hh.2 (e := { Eff.pure (.r 0) with needs := [decide (l.length < 1000000), decide (m.length < 1000000)], rdR := [q, r], nr := [⟨.evs (l ++ m), true⟩], only := some (q, ⟨.evs l, true⟩) }) rfl rfl rfl rfl rfl id rid hf
    exact ⟨v, w', F, run_builtin_append h1, h2⟩
  · -- one element behind a row of the call's own
    rename_i st xt q id'
    obtain ⟨x, r1, rfl, hx, hr⟩ := VL.cons.1 hv
    obtain ⟨y, r2, rfl, hy, hr2⟩ := VL.cons.1 hr
    have hnil := VL.nil.1 hr2
    subst hnil
    simp only [V] at hx hy
    obtain ⟨hx, _⟩ := hx
    obtain ⟨b, hb, rfl⟩ := hy
    split at h <;> try (cases h; done)
    rename_i elem el2 l ty' cs hu hu2 hR hM
    obtain ⟨hc, h⟩ := cond_none h
    simp only [Bool.and_eq_true] at hc
    split at h <;> try (cases h; done)
    rename_i ev hev
    cases h
    have hst := Nat.eq_of_beq_eq_true hc.2
    subst hst
    have hsm : l.length < 1000000 := by simpa using hnd (decide (l.length < 1000000)) (by simp)
    have hl := row_val hm hR hx
    obtain ⟨vs, k1, k2⟩ := blk_cell hm hM hb
    obtain ⟨rfl, hevr⟩ := evOf_V hev k2
    obtain ⟨v, w', F, h1, h2⟩ := append_own (P := cx.P) (ty := ty) hm hu hc.1 (c' := .evs (l ++ [ev])) hR hx (p := some ⟨b, 0, none⟩) (n := 1) (m := 1) (news := evCells ev)
      (fun j v hj => by rw [add_mk, cell_of_blk k1, Nat.zero_add]; exact hj) rfl (by simpa using evCells_one [ev]) (by rw [RowC.cells_append_evs]; simp [RowC.cells]) (by simp [RowC.len]) rfl (fun e he => by
          rcases List.mem_append.1 he with he | he
          · exact hl.1.1.1 e he
          · simp at he; subst he; exact hevr) hsm (by decide) (e := { Eff.pure (.r 0) with needs := [decide (l.length < 1000000)], rd := [id'], rdR := [q], nr := [⟨.evs (l ++ [ev]), true⟩], only := some (q, ⟨.evs l, true⟩) }) rfl rfl rfl rfl rfl id rid hf
    exact ⟨v, w', F, run_builtin_append h1, h2⟩
  · -- cap
    rename_i t
    obtain ⟨x, r, rfl, hx, hr⟩ := VL.cons.1 hv
    have hnil := VL.nil.1 hr
    subst hnil
    split at h <;> try (cases h; done)
    rename_i el hu
    cases h
    simp only [V] at hx
    subst hx
    refine ⟨.int .i64 0, w, E, ?_, Did.same hm rfl rfl rfl rfl ?_⟩
    · simp [builtin, Builtin.cap_, run_underlying' hu, goInt]
    · simp only [named, Eff.pure, V]
      exact ⟨trivial, by decide, by decide⟩
  · cases h
end
end Go.Sx
