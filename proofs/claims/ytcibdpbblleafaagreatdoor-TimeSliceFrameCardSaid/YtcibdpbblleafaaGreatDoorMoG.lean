/-
  The method that writes a register of the instruction in progress through its address; its summary.
  Conditions: none; the summary holds of the program's method.
-/
import Derived.Test.YtcibdpbblleafaaGreatDoorMoF
namespace Go.Sx
open Go Go.RowKit Tree

structure StepS where
  m : Mach
  i : Instr
  (x y z : Int)
  t : Trap

def StepS.tail (q : StepS) : List CD := .bytes q.m.mem :: .int .u64 q.m.time :: .bytes q.m.out :: .bool q.m.halted :: (q.i.cds ++ (.int .u32 q.x :: .int .u32 q.y :: .int .u32 q.z :: q.t.cds))
def StepS.rest (q : StepS) : List CD := q.m.core.csr.cds ++ q.tail
def StepS.cds (q : StepS) : List CD := q.m.core.regs.cds ++ (.int .u32 q.m.core.pc :: q.rest)
def stepKs : List Kd := machKs ++ (instrKs ++ ([.int .u32, .int .u32, .int .u32] ++ trapKs))
def StepS.of (cs : List CD) : Option StepS :=
  match Regs.of cs with
  | some (r, .int .u32 pc :: c1) => (match Csrs.of c1 with
    | some (c, .bytes mem :: .int .u64 time :: .bytes out :: .bool halted :: .int .i64 op :: .int .i64 rd :: .int .i64 ra :: .int .i64 rb :: .int .i32 imm :: .int .u32 x :: .int .u32 y :: .int .u32 z :: .int .i64 tc :: .int .u32 tv :: []) =>
      some ⟨⟨⟨r, pc, c⟩, mem, time, out, halted⟩, ⟨op, rd, ra, rb, imm⟩, x, y, z, ⟨tc, tv⟩⟩
    | _ => none)
  | _ => none
theorem StepS.of_spec {cs : List CD} {q : StepS} (h : StepS.of cs = some q) : cs = q.cds := by
  unfold StepS.of at h
  split at h <;> try (cases h; done)
  rename_i r pc c1 hr
  split at h <;> try (cases h; done)
  rename_i hc
  cases h
  rw [Regs.of_spec hr, Csrs.of_spec hc]
  rfl

/-- The cells behind 'put'. -/
def putRegs (q : StepS) (v : Int) : Regs := q.m.core.regs.set q.i.rd v
def putPc (q : StepS) : Int := IntKind.u32.wrap (q.m.core.pc + 4)
def putHead (q : StepS) (v : Int) : List SV := (putRegs q v).list.map (SV.i .u32) ++ [.i .u32 (putPc q)]

def S104 : Summ := fun xs M R _ =>
  match xs with
  | [.p id 0, .i .u32 v] => (match M id with
    | some (.cells ty cs) => bif Nat.ble foreign id then (match decL R stepKs cs with
      | some cds => (match StepS.of cds with
        | some q => some { Eff.pure (.t []) with rd := [id], rdR := idsL cs, wr := [(id, .cells ty (putHead q v ++ cs.drop 17))] }
        | none => none)
      | none => none) else none
    | _ => none)
  | _ => none

theorem S104_loc : SummLoc S104 := by
  intro xs M M' R R' rid e h hm hr
  unfold S104 at h ⊢
  split at h <;> try (cases h; done)
  rename_i id v
  split at h <;> try (cases h; done)
  rename_i ty cs hM
  have hf := (cond_none h).1
  have h2 := (cond_none h).2
  split at h2 <;> try (cases h2; done)
  rename_i cds hcds
  have h3 := h2
  split at h2 <;> try (cases h2; done)
  have hrd : e.rd = [id] := by cases h2; rfl
  have hrr : e.rdR = idsL cs := by cases h2; rfl
  rw [hm id (by rw [hrd]; simp), hM]
  dsimp only
  rw [hf, decL_loc hcds (by rw [← hrr]; exact hr)]
  exact h3

def L104 : List (FuncId × Summ) := [(82, S82)]
theorem g104 (B : Base) : Good L104 := Good.nil.cons (o82 B) (mkSumm_loc _ _)
def s104 (ty : TypeId) (q : StepS) : AS := { T := fun _ => .u, M := fun i => bif Nat.beq i 8 then some (.cells ty (encL q.cds 0)) else none, R := fun _ => none, nM := 9, nR := 2, nT := 0 }
noncomputable def rf104 (ty : TypeId) (q : StepS) (v : Int) : Tree (SV × Option Blk) := runFn (teng L104) 100 104 [.p 8 0, .i .u32 v] (s104 ty q) (fun sv s => (sv, s.M 8))
theorem t104 (ty : TypeId) (q : StepS) (v : Int) : rf104 ty q v = leaf (.t [], some (.cells ty (putHead q v ++ encL q.rest 0))) := by kernel_rfl

structure SaysG {α : Type} (t : Tree α) (p : α → Prop) : Prop where
  holds : t.Holds p

theorem runFn_saysG {α : Type} {en : Eng} {W0 : World} {p : α → Prop} (hen : EngOk en) (hl : ∀ g S, en.summ g = some S → SummLoc S) (hg : GlobOk en.cx W0) {fuel : Nat} {g : FuncId} {xs : List SV} {s : AS} {obs : SV → AS → α}
    (h : SaysG (runFn en fuel g xs s obs) p) {E : Env} {w : World} {vs : List Value} (hvs : VL E xs vs) (hm : MemR W0 E s.M s.R w) (hfr : Fresh E s.nM s.nR) :
    Calls en.cx.P g vs.toArray w fun
      | .returned v, w' => ∃ sv s' E', E.Le E' ∧ V E' sv v ∧ MemR W0 E' s'.M s'.R w' ∧ p (obs sv s')
      | _, _ => False := runFn_sound hen hl hg h.holds hvs hm hfr

theorem h104 (ty : TypeId) (q : StepS) (v : Int) : SaysG (rf104 ty q v) (· = (.t [], some (.cells ty (putHead q v ++ encL q.rest 0)))) := ⟨by rw [t104]; rfl⟩

/-- Encoded cells stand for one list of values. -/
theorem encL_one {F : Env} : ∀ {cs : List CD} {n : Nat} {a b : List Value}, VL F (encL cs n) a → VL F (encL cs n) b → a = b
  | [], _, _, _, h, k => by rw [VL.nil.1 h, VL.nil.1 k]
  | .int _ _ :: cs, n, _, _, h, k => by
    obtain ⟨u, us, rfl, h1, h2⟩ := VL.cons.1 h
    obtain ⟨w, ws, rfl, k1, k2⟩ := VL.cons.1 k
    simp only [V] at h1 k1
    rw [h1.1, k1.1, encL_one h2 k2]
  | .bool _ :: cs, n, _, _, h, k => by
    obtain ⟨u, us, rfl, h1, h2⟩ := VL.cons.1 h
    obtain ⟨w, ws, rfl, k1, k2⟩ := VL.cons.1 k
    simp only [V] at h1 k1
    rw [h1, k1, encL_one h2 k2]
  | .bytes _ :: cs, n, _, _, h, k => by
    obtain ⟨u, us, rfl, h1, h2⟩ := VL.cons.1 h
    obtain ⟨w, ws, rfl, k1, k2⟩ := VL.cons.1 k
    simp only [V] at h1 k1
    have := h1.1.symm.trans k1.1
    cases this
    rw [encL_one h2 k2]
  | .evs _ :: cs, n, _, _, h, k => by
    obtain ⟨u, us, rfl, h1, h2⟩ := VL.cons.1 h
    obtain ⟨w, ws, rfl, k1, k2⟩ := VL.cons.1 k
    simp only [V] at h1 k1
    have := h1.1.symm.trans k1.1
    cases this
    rw [encL_one h2 k2]

theorem encL_head (q : StepS) (n : Nat) : encL q.cds n = (q.m.core.regs.list.map (SV.i .u32) ++ [.i .u32 q.m.core.pc]) ++ encL q.rest n := rfl

theorem VL.drop {E : Env} : ∀ {ss : List SV} {vs : List Value} (n : Nat), VL E ss vs → VL E (ss.drop n) (vs.drop n)
  | _, _, 0, h => h
  | [], _, n + 1, h => by rw [VL.nil.1 h]; exact VL.nil.2 rfl
  | _ :: _, _, n + 1, h => by
    obtain ⟨v, vs, rfl, _, h2⟩ := VL.cons.1 h
    exact VL.drop n h2

theorem putHead_free {E F : Env} (q : StepS) (v : Int) {us : List Value} (h : VL F (putHead q v) us) : VL E (putHead q v) us := by
  have aux : ∀ (l : List Int) (us : List Value), VL F (l.map (SV.i .u32)) us → VL E (l.map (SV.i .u32)) us := by
    intro l
    induction l with
    | nil => intro us h; exact h
    | cons a l ih =>
      intro us h
      obtain ⟨u, us, rfl, h1, h2⟩ := VL.cons.1 h
      exact VL.cons'.2 ⟨by simpa only [V] using h1, ih us h2⟩
  obtain ⟨a, b, rfl, h1, h2⟩ := VL.split h
  obtain ⟨u, us, rfl, h3, h4⟩ := VL.cons.1 h2
  rw [VL.nil.1 h4]
  exact VL.append (aux _ _ h1) (VL.cons'.2 ⟨by simpa only [V] using h3, VL.nil.2 rfl⟩)

theorem o104 (B : Base) : SummOk tcx 104 S104 := by
  refine ⟨hasBody_spec (by kernel_rfl), ?_⟩
  intro W0 E M R w xs vs id rid e hg hs hnd hvs hm hfr
  unfold S104 at hs
  split at hs <;> try (cases hs; done)
  rename_i id' v
  split at hs <;> try (cases hs; done)
  rename_i ty cs hM
  have hfor := Nat.le_of_ble_eq_true (cond_none hs).1
  replace hs := (cond_none hs).2
  split at hs <;> try (cases hs; done)
  rename_i cds hcds
  split at hs <;> try (cases hs; done)
  rename_i q hq
  cases hs
  have hqc := StepS.of_spec hq
  subst hqc
  obtain ⟨x, r1, rfl, hx, hr1⟩ := VL.cons.1 hvs
  obtain ⟨y, r2, rfl, hy, hr2⟩ := VL.cons.1 hr1
  have hnil := VL.nil.1 hr2
  subst hnil
  simp only [V] at hx
  obtain ⟨b, hb, rfl⟩ := hx
  obtain ⟨vs2, k1, k2⟩ := blk_cell (s := { T := fun _ => .u, M, R, nM := 0, nR := 0, nT := 0 }) hm hM hb
  have hbs := hm.own hb
  obtain ⟨vals, r1, r2⟩ := decL_V hm hcds k2
  let E1 : Env := { ρ := fun i => bif Nat.beq i 8 then some b else none, σ := fun i => vals[i]?, ph := fun c => c < w.heap.size ∧ c ≠ b, pw := w }
  have hρ : ∀ {i c}, E1.ρ i = some c → i = 8 ∧ c = b := by
    intro i c hi
    simp only [E1] at hi
    cases h0 : Nat.beq i 8 with
    | true => rw [h0] at hi; cases hi; exact ⟨Nat.eq_of_beq_eq_true h0, rfl⟩
    | false => rw [h0] at hi; cases hi
  have hE1 : Named E1 0 vals := fun i v hi => by simpa [E1] using hi
  have hcells := r2 E1 0 hE1
  have hm1 : MemR W0 E1 (s104 ty q).M (s104 ty q).R w := by
    refine ⟨hm.below, fun hi hj => (hρ hi).1.trans (hρ hj).1.symm, fun hi => ?_, fun {i k'} hi => ?_, fun hi => (by cases hi), fun c hc => hc.1, fun hi hp => ?_, fun _ _ => rfl⟩
    · obtain ⟨rfl, rfl⟩ := hρ hi
      exact ⟨fun _ => hbs.1 hfor, hbs.2⟩
    · simp only [s104] at hi
      cases h0 : Nat.beq i 8 with
      | false => rw [h0] at hi; cases hi
      | true =>
        rw [h0] at hi; cases hi
        have := Nat.eq_of_beq_eq_true h0
        subst this
        exact ⟨b, rfl, vs2, k1, hcells⟩
    · exact hp.2 (hρ hi).2
  have hv1 : VL E1 [.p 8 0, .i .u32 v] [.pointer (some ⟨b, 0, none⟩), y] := VL.cons'.2 ⟨by simp only [V]; exact ⟨b, rfl, rfl⟩, VL.cons'.2 ⟨by simpa only [V] using hy, VL.nil.2 rfl⟩⟩
  have hfr1 : Fresh E1 9 2 := by
    refine ⟨fun i hi => ?_, fun r hr => ?_⟩
    · simp only [E1]
      cases h0 : Nat.beq i 8 with
      | true => have := Nat.eq_of_beq_eq_true h0; omega
      | false => rfl
    · have hl : vals.length = 2 := r1.length
      simp only [E1]
      exact List.getElem?_eq_none (by omega)
  have hsays : SaysG (runFn (teng L104) 100 104 [.p 8 0, .i .u32 v] (s104 ty q) (fun sv s => (sv, s.M 8))) (· = (.t [], some (.cells ty (putHead q v ++ encL q.rest 0)))) := h104 ty q v
  have hcalls := runFn_saysG (teng_ok B (g104 B)) (teng_loc (g104 B)) (by rw [teng_cx]; exact hg) hsays hv1 hm1 hfr1
  rw [teng_cx] at hcalls
  refine Calls.mono hcalls ?_
  intro en' w' hh
  cases en' with
  | panicked => exact hh.elim
  | outgrown => exact hh.elim
  | returned u =>
    obtain ⟨sv, s', E', hle, hv, hm', hp⟩ := hh
    simp only [Prod.mk.injEq] at hp
    obtain ⟨rfl, hM'⟩ := hp
    have hb8 : E'.ρ 8 = some b := hle.ρ (show E1.ρ 8 = some b from rfl)
    have hph : E'.ph = fun c => c < w.heap.size ∧ c ≠ b := hle.ph
    have hpw : E'.pw = w := hle.pw
    have same : ∀ c, c < w.heap.size → c ≠ b → w'.heap[c]? = w.heap[c]? := by
      intro c hc hcb
      have := hm'.still c (by rw [hph]; exact ⟨hc, hcb⟩)
      rw [hpw] at this
      exact this
    have hsz : w.heap.size ≤ w'.heap.size := by
      have hlt : ∀ c, c < w.heap.size → c < w'.heap.size := by
        intro c hc
        by_cases hcb : c = b
        · subst hcb; exact (hm'.own hb8).2
        · have := same c hc hcb
          rw [Array.getElem?_eq_getElem hc] at this
          exact (Array.getElem?_eq_some_iff.1 this).1
      rcases Nat.lt_or_ge w'.heap.size w.heap.size with h | h
      · exact absurd (hlt _ h) (Nat.lt_irrefl _)
      · exact h
    obtain ⟨b2, e2, vs3, j1, j2⟩ := hm'.blk hM'
    rw [hb8] at e2; cases e2
    have hblk : VL E (putHead q v ++ cs.drop 17) vs3 := by
      obtain ⟨a, c, rfl, a1, a2⟩ := VL.split j2
      have c1 : VL E' (encL q.rest 0) (vs2.drop 17) := by
        have := VL.drop 17 (hcells.mono hle)
        rw [encL_head] at this
        simpa [Regs.list] using this
      rw [encL_one a2 c1]
      exact VL.append (putHead_free q v a1) (VL.drop 17 k2)
    have hvE : V E (.t []) u := by
      simp only [V] at hv ⊢
      obtain ⟨l, e1, e2⟩ := hv
      exact ⟨l, e1, VL.nil.2 (VL.nil.1 e2)⟩
    refine ⟨E, .refl E, fun _ _ => rfl, fun _ _ => rfl, hvE, ?_⟩
    simp only [Eff.appM, Eff.appR, Eff.pure, updW, updL]
    refine ⟨hm'.below, hm.inj, fun hi => ⟨(hm.own hi).1, Nat.lt_of_lt_of_le (hm.own hi).2 hsz⟩, fun {i k} hi => ?_, fun {r x} hr => ?_, fun c hc => Nat.lt_of_lt_of_le (hm.ph c hc) hsz, hm.sep, fun c hc => (same c (hm.ph c hc) fun e => hm.sep hb (by rw [← e]; exact hc)).trans (hm.still c hc)⟩
    · rw [upd_apply] at hi
      split at hi
      · cases hi; rename_i hii; subst hii
        exact ⟨b, hb, vs3, j1, hblk⟩
      · rename_i hne
        obtain ⟨c, g1, g2⟩ := hm.blk hi
        exact ⟨c, g1, g2.world (same c (hm.own g1).2 fun e => hne (by subst e; exact hm.inj g1 hb))⟩
    · obtain ⟨u', g1, g2, g3, g4⟩ := hm.row hr
      have hne : ∀ c, blockOf u' = some c → c ≠ b := fun c hc e => (g3 c hc).2 id' (by rw [e]; exact hb)
      refine ⟨u', g1, g2.world hsz fun c hc => same c (g2.block_lt hc) (hne c hc), g3, fun ho c hc => ?_⟩
      obtain ⟨q1, cs', ty', q2⟩ := g4 ho c hc
      exact ⟨q1, cs', ty', (same c (g2.block_lt hc) (hne c hc)).trans q2.1, q2.2⟩
end Go.Sx
