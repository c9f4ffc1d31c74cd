/-
  A symbolic executor for the bodies of Go functions: what its values and blocks stand for.
  Conditions: none; lemmas about lists and about the meaning of symbolic values.
-/
import Derived.Test.YtcibdpbblleafaaGreatDoorSxB
import Derived.Below
import Derived.Laws.Rows
import Derived.Laws.Append
import Derived.LoopN
namespace Go.Sx
open Go Go.RowKit

/-- Which block each own block is, which slice each row is; which other blocks no row lies in, and how these were (in the world pw). -/
structure Env where
  ρ : Nat → Option Nat
  σ : Nat → Option Value
  ph : Nat → Prop
  pw : World

structure Env.Le (E F : Env) : Prop where
  ρ : ∀ {i b}, E.ρ i = some b → F.ρ i = some b
  σ : ∀ {r v}, E.σ r = some v → F.σ r = some v
  ph : F.ph = E.ph
  pw : F.pw = E.pw

theorem Env.Le.refl (E : Env) : E.Le E := ⟨id, id, rfl, rfl⟩
theorem Env.Le.trans {E F G : Env} (h : E.Le F) (k : F.Le G) : E.Le G := ⟨fun x => k.ρ (h.ρ x), fun x => k.σ (h.σ x), k.ph.trans h.ph, k.pw.trans h.pw⟩

def InR (k : IntKind) (v : Int) : Prop := k.min ≤ v ∧ v ≤ k.max

mutual
def V (E : Env) : SV → Value → Prop
  | .n k v, x => x = .int k v ∧ InR k v
  | .i k v, x => x = .int k v ∧ InR k v
  | .kb b, x => x = .bool b
  | .b b, x => x = .bool b
  | .p id off, x => ∃ b, E.ρ id = some b ∧ x = .pointer (some ⟨b, off, none⟩)
  | .pi id off st cnt ix, x => ∃ b, E.ρ id = some b ∧ 0 ≤ ix ∧ ix < (cnt : Int) ∧ x = .pointer (some ⟨b, off + st * ix.toNat, none⟩)
  | .pg g off, x => x = .pointer (some ⟨g, off, none⟩)
  | .pgi g off st cnt ix, x => 0 ≤ ix ∧ ix < (cnt : Int) ∧ x = .pointer (some ⟨g, off + st * ix.toNat, none⟩)
  | .pr r st off ix, x => ∃ b o len cap, E.σ r = some (.slice (some ⟨b, o, none⟩) len cap) ∧ 0 ≤ ix ∧ ix < (len : Int) ∧ x = .pointer (some ⟨b, o + st * ix.toNat + off, none⟩)
  | .r r, x => E.σ r = some x ∧ ∃ a len cap, x = .slice a len cap
  | .rf r, x => ∃ a len cap, E.σ r = some (.slice a len cap) ∧ x = .slice a len len
  | .nsl, x => x = .slice none 0 0
  | .nf, x => x = .nilFunc
  | .f fn first caps, x => ∃ fs cs : List Value, x = .func (.func fn) fs.toArray cs.toArray ∧ VL E first fs ∧ VL E caps cs
  | .sl id len cap, x => ∃ b, E.ρ id = some b ∧ x = .slice (some ⟨b, 0, none⟩) len cap
  | .m id, x => ∃ b, E.ρ id = some b ∧ x = .map (some b)
  | .a cs, x => ∃ vs : List Value, x = .agg vs.toArray ∧ VL E cs vs
  | .t cs, x => ∃ vs : List Value, x = .tuple vs.toArray ∧ VL E cs vs
  | .u, x => x = undef
  | .xx, _ => True
def VL (E : Env) : List SV → List Value → Prop
  | [], l => l = []
  | s :: ss, l => ∃ v vs, l = v :: vs ∧ V E s v ∧ VL E ss vs
end

mutual
theorem V.mono {E F : Env} (h : E.Le F) : ∀ {s : SV} {x : Value}, V E s x → V F s x
  | .n _ _, _, hv => by simpa only [V] using hv
  | .i _ _, _, hv => by simpa only [V] using hv
  | .kb _, _, hv => by simpa only [V] using hv
  | .b _, _, hv => by simpa only [V] using hv
  | .p _ _, _, hv => by
    simp only [V] at hv ⊢; obtain ⟨b, hb, e⟩ := hv; exact ⟨b, h.ρ hb, e⟩
  | .pi _ _ _ _ _, _, hv => by
    simp only [V] at hv ⊢; obtain ⟨b, hb, e⟩ := hv; exact ⟨b, h.ρ hb, e⟩
  | .pg _ _, _, hv => by simpa only [V] using hv
  | .pgi _ _ _ _ _, _, hv => by simpa only [V] using hv
  | .pr _ _ _ _, _, hv => by
    simp only [V] at hv ⊢; obtain ⟨b, o, len, cap, hb, e⟩ := hv; exact ⟨b, o, len, cap, h.σ hb, e⟩
  | .r _, _, hv => by simp only [V] at hv ⊢; exact ⟨h.σ hv.1, hv.2⟩
  | .rf _, _, hv => by
    simp only [V] at hv ⊢; obtain ⟨a, len, cap, hb, e⟩ := hv; exact ⟨a, len, cap, h.σ hb, e⟩
  | .nsl, _, hv => by simpa only [V] using hv
  | .nf, _, hv => by simpa only [V] using hv
  | .f _ _ _, _, hv => by
    simp only [V] at hv ⊢; obtain ⟨fs, cs, e, h1, h2⟩ := hv; exact ⟨fs, cs, e, VL.mono h h1, VL.mono h h2⟩
  | .sl _ _ _, _, hv => by
    simp only [V] at hv ⊢; obtain ⟨b, hb, e⟩ := hv; exact ⟨b, h.ρ hb, e⟩
  | .m _, _, hv => by
    simp only [V] at hv ⊢; obtain ⟨b, hb, e⟩ := hv; exact ⟨b, h.ρ hb, e⟩
  | .a _, _, hv => by
    simp only [V] at hv ⊢; obtain ⟨vs, e, h1⟩ := hv; exact ⟨vs, e, VL.mono h h1⟩
  | .t _, _, hv => by
    simp only [V] at hv ⊢; obtain ⟨vs, e, h1⟩ := hv; exact ⟨vs, e, VL.mono h h1⟩
  | .u, _, hv => by simpa only [V] using hv
  | .xx, _, _ => by simp only [V]
theorem VL.mono {E F : Env} (h : E.Le F) : ∀ {s : List SV} {x : List Value}, VL E s x → VL F s x
  | [], _, hv => by simpa only [VL] using hv
  | _ :: _, _, hv => by
    simp only [VL] at hv ⊢
    obtain ⟨v, vs, e, h1, h2⟩ := hv
    exact ⟨v, vs, e, V.mono h h1, VL.mono h h2⟩
end

theorem VL.nil {E : Env} {l : List Value} : VL E [] l ↔ l = [] := by simp only [VL]
theorem VL.cons {E : Env} {s : SV} {ss : List SV} {l : List Value} : VL E (s :: ss) l ↔ ∃ v vs, l = v :: vs ∧ V E s v ∧ VL E ss vs := by simp only [VL]
theorem VL.cons' {E : Env} {s : SV} {ss : List SV} {v : Value} {vs : List Value} : VL E (s :: ss) (v :: vs) ↔ V E s v ∧ VL E ss vs := by
  rw [VL.cons]
  constructor
  · rintro ⟨_, _, e, h1, h2⟩; cases e; exact ⟨h1, h2⟩
  · rintro ⟨h1, h2⟩; exact ⟨v, vs, rfl, h1, h2⟩

theorem VL.length {E : Env} : ∀ {ss : List SV} {l : List Value}, VL E ss l → l.length = ss.length
  | [], _, h => by rw [VL.nil.1 h]; rfl
  | _ :: _, _, h => by
    obtain ⟨v, vs, rfl, _, h2⟩ := VL.cons.1 h
    simp [VL.length h2]

theorem VL.get {E : Env} : ∀ {ss : List SV} {l : List Value} {i : Nat} {s : SV}, VL E ss l → ss[i]? = some s → ∃ v, l[i]? = some v ∧ V E s v
  | [], _, _, _, _, hs => by simp at hs
  | _ :: _, _, 0, _, h, hs => by
    obtain ⟨v, vs, rfl, h1, _⟩ := VL.cons.1 h
    simp at hs; subst hs
    exact ⟨v, rfl, h1⟩
  | _ :: _, _, i + 1, _, h, hs => by
    obtain ⟨v, vs, rfl, _, h2⟩ := VL.cons.1 h
    exact VL.get (i := i) h2 (by simpa using hs)

theorem VL.append {E : Env} : ∀ {ss tt : List SV} {l m : List Value}, VL E ss l → VL E tt m → VL E (ss ++ tt) (l ++ m)
  | [], _, _, _, h, k => by rw [VL.nil.1 h]; exact k
  | _ :: _, _, _, _, h, k => by
    obtain ⟨v, vs, rfl, h1, h2⟩ := VL.cons.1 h
    exact VL.cons'.2 ⟨h1, VL.append h2 k⟩

theorem VL.split {E : Env} : ∀ {ss tt : List SV} {l : List Value}, VL E (ss ++ tt) l → ∃ a b, l = a ++ b ∧ VL E ss a ∧ VL E tt b
  | [], _, l, h => ⟨[], l, rfl, VL.nil.2 rfl, h⟩
  | _ :: _, _, _, h => by
    obtain ⟨v, vs, rfl, h1, h2⟩ := VL.cons.1 h
    obtain ⟨a, b, rfl, ha, hb⟩ := VL.split h2
    exact ⟨v :: a, b, rfl, VL.cons'.2 ⟨h1, ha⟩, hb⟩

/-- What a list of symbolic values stands for, by one operand after the other. -/
theorem VL.ofMap {E : Env} {α : Type} (f : α → SV) (g : α → Value) : ∀ (l : List α), (∀ x ∈ l, V E (f x) (g x)) → VL E (l.map f) (l.map g)
  | [], _ => VL.nil.2 rfl
  | x :: l, h => VL.cons'.2 ⟨h x (by simp), VL.ofMap f g l fun y hy => h y (by simp [hy])⟩

/-! ### The engine's list functions -/
theorem slice_eq {cs : List SV} : ∀ {n off : Nat} {l : List SV}, slice cs off n = some l → l.length = n ∧ ∀ j, j < n → cs[off + j]? = l[j]?
  | 0, off, l, h => by simp only [slice, Option.some.injEq] at h; subst h; exact ⟨rfl, fun j hj => absurd hj (by omega)⟩
  | n + 1, off, l, h => by
    simp only [slice] at h
    split at h
    · rename_i v hv
      split at h
      · rename_i l' hl
        simp only [Option.some.injEq] at h; subst h
        obtain ⟨h1, h2⟩ := slice_eq hl
        refine ⟨by simp [h1], fun j hj => ?_⟩
        cases j with
        | zero => simpa using hv
        | succ j =>
          have := h2 j (by omega)
          rw [List.getElem?_cons_succ, ← this]; congr 1; omega
      · cases h
    · cases h

theorem VL.slice {E : Env} {cs : List SV} {vs : List Value} {n off : Nat} {l : List SV} (h : VL E cs vs) (hs : slice cs off n = some l) :
    ∃ us : List Value, us.length = n ∧ VL E l us ∧ ∀ j v, us[j]? = some v → vs[off + j]? = some v := by
  induction n generalizing off l with
  | zero => simp only [Sx.slice, Option.some.injEq] at hs; subst hs; exact ⟨[], rfl, VL.nil.2 rfl, by simp⟩
  | succ n ih =>
    simp only [Sx.slice] at hs
    split at hs
    · rename_i s hv
      split at hs
      · rename_i l' hl
        simp only [Option.some.injEq] at hs; subst hs
        obtain ⟨us, hn, hu, hj⟩ := ih hl
        obtain ⟨v, hv1, hv2⟩ := h.get hv
        refine ⟨v :: us, by simp [hn], VL.cons'.2 ⟨hv2, hu⟩, fun j w hw => ?_⟩
        cases j with
        | zero => simp at hw; subst hw; simpa using hv1
        | succ j =>
          have := hj j w (by simpa using hw)
          rw [← this]; congr 1; omega
      · cases hs
    · cases hs

theorem forceL_eq {α : Type} : ∀ (cs : List SV) (k : List SV → α), forceL cs k = k cs
  | [], k => rfl
  | c :: cs, k => by
    cases c <;> simp only [forceL] <;> rw [forceL_eq cs]

/-- A list with other values written from a place on. -/
def over (vs : List Value) (off : Nat) (us : List Value) : List Value := vs.take off ++ us ++ vs.drop (off + us.length)

theorem over_nil (vs : List Value) (off : Nat) : over vs off [] = vs := by simp [over]
theorem over_zero_cons (v u : Value) (vs us : List Value) : over (v :: vs) 0 (u :: us) = u :: over vs 0 us := by simp [over]
theorem over_succ (v : Value) (vs us : List Value) (off : Nat) : over (v :: vs) (off + 1) us = v :: over vs off us := by
  have h : off + 1 + us.length = off + us.length + 1 := by omega
  simp [over, h]

theorem VL.splice {E : Env} : ∀ {cs : List SV} {vs : List Value} {off : Nat} {ws : List SV} {us : List Value} {l : List SV}, VL E cs vs → VL E ws us →
    splice cs off ws = some l → VL E l (over vs off us) ∧ off + us.length ≤ vs.length ∨ ws = [] ∧ l = cs := by
  intro cs
  induction cs with
  | nil =>
    intro vs off ws us l h hw hs
    cases ws with
    | nil => simp only [Sx.splice, Option.some.injEq] at hs; exact .inr ⟨rfl, hs.symm⟩
    | cons => simp only [Sx.splice] at hs; cases hs
  | cons c cs ih =>
    intro vs off ws us l h hw hs
    cases ws with
    | nil => simp only [Sx.splice, Option.some.injEq] at hs; exact .inr ⟨rfl, hs.symm⟩
    | cons w ws =>
      left
      obtain ⟨v, vs, rfl, h1, h2⟩ := VL.cons.1 h
      cases off with
      | zero =>
        simp only [Sx.splice] at hs
        split at hs
        · rename_i l' hl
          simp only [Option.some.injEq] at hs; subst hs
          obtain ⟨u, us, rfl, k1, k2⟩ := VL.cons.1 hw
          rw [over_zero_cons]
          rcases ih h2 k2 hl with ⟨q, hq⟩ | ⟨rfl, rfl⟩
          · exact ⟨VL.cons'.2 ⟨k1, q⟩, by simp at hq ⊢; omega⟩
          · rw [VL.nil.1 k2, over_nil]; exact ⟨VL.cons'.2 ⟨k1, h2⟩, by simp⟩
        · cases hs
      | succ off =>
        simp only [Sx.splice] at hs
        split at hs
        · rename_i l' hl
          simp only [Option.some.injEq] at hs; subst hs
          rw [over_succ]
          rcases ih h2 hw hl with ⟨q, hq⟩ | ⟨hn, _⟩
          · exact ⟨VL.cons'.2 ⟨h1, q⟩, by simp at hq ⊢; omega⟩
          · cases hn
        · cases hs

theorem kindB_eq {a b : IntKind} (h : kindB a b = true) : a = b := by cases a <;> cases b <;> simp_all [kindB]

theorem pick_InR {k : IntKind} {l : List Int} (h : ∀ v ∈ l, InR k v) {ix : Int} (h0 : 0 ≤ ix) (h1 : ix < (l.length : Int)) : InR k (pick ix l) ∧ l[ix.toNat]? = some (pick ix l) := by
  have hlt : ix.toNat < l.length := by omega
  have he : l[ix.toNat]? = some l[ix.toNat] := List.getElem?_eq_getElem hlt
  have hp : pick ix l = l[ix.toNat] := by simp [Sx.pick, he]
  rw [hp]
  exact ⟨h _ (List.getElem_mem hlt), he⟩

theorem intsOf_V {E : Env} {k : IntKind} : ∀ {cs : List SV} {l : List Int} {vs : List Value}, intsOf k cs = some l → VL E cs vs → vs = l.map (Value.int k) ∧ ∀ v ∈ l, InR k v
  | [], l, vs, h, hv => by
    simp only [intsOf, Option.some.injEq] at h; subst h
    rw [VL.nil.1 hv]; simp
  | .n k' v :: cs, l, vs, h, hv => by
    simp only [intsOf] at h
    obtain ⟨x, xs, rfl, h1, h2⟩ := VL.cons.1 hv
    cases hk : kindB k k' <;> simp only [hk, cond_true, cond_false] at h
    · cases h
    · split at h
      · rename_i l' hl
        simp only [Option.some.injEq] at h; subst h
        obtain ⟨q1, q2⟩ := intsOf_V hl h2
        simp only [V] at h1
        cases kindB_eq hk
        refine ⟨by simp [h1.1, q1], ?_⟩
        intro v hv; cases hv with
        | head => exact h1.2
        | tail _ hm => exact q2 _ hm
      · cases h
  | .i k' v :: cs, l, vs, h, hv => by
    simp only [intsOf] at h
    obtain ⟨x, xs, rfl, h1, h2⟩ := VL.cons.1 hv
    cases hk : kindB k k' <;> simp only [hk, cond_true, cond_false] at h
    · cases h
    · split at h
      · rename_i l' hl
        simp only [Option.some.injEq] at h; subst h
        obtain ⟨q1, q2⟩ := intsOf_V hl h2
        simp only [V] at h1
        cases kindB_eq hk
        refine ⟨by simp [h1.1, q1], ?_⟩
        intro v hv; cases hv with
        | head => exact h1.2
        | tail _ hm => exact q2 _ hm
      · cases h
  | .kb _ :: _, _, _, h, _ => by simp [intsOf] at h
  | .b _ :: _, _, _, h, _ => by simp [intsOf] at h
  | .p _ _ :: _, _, _, h, _ => by simp [intsOf] at h
  | .pi _ _ _ _ _ :: _, _, _, h, _ => by simp [intsOf] at h
  | .pg _ _ :: _, _, _, h, _ => by simp [intsOf] at h
  | .pgi _ _ _ _ _ :: _, _, _, h, _ => by simp [intsOf] at h
  | .pr _ _ _ _ :: _, _, _, h, _ => by simp [intsOf] at h
  | .r _ :: _, _, _, h, _ => by simp [intsOf] at h
  | .rf _ :: _, _, _, h, _ => by simp [intsOf] at h
  | .nsl :: _, _, _, h, _ => by simp [intsOf] at h
  | .nf :: _, _, _, h, _ => by simp [intsOf] at h
  | .f _ _ _ :: _, _, _, h, _ => by simp [intsOf] at h
  | .sl _ _ _ :: _, _, _, h, _ => by simp [intsOf] at h
  | .m _ :: _, _, _, h, _ => by simp [intsOf] at h
  | .a _ :: _, _, _, h, _ => by simp [intsOf] at h
  | .t _ :: _, _, _, h, _ => by simp [intsOf] at h
  | .u :: _, _, _, h, _ => by simp [intsOf] at h
  | .xx :: _, _, _, h, _ => by simp [intsOf] at h

theorem boolsOf_V {E : Env} : ∀ {cs : List SV} {l : List Bool} {vs : List Value}, boolsOf cs = some l → VL E cs vs → vs = l.map Value.bool := by
  intro cs
  induction cs with
  | nil => intro l vs h hv; simp only [boolsOf, Option.some.injEq] at h; subst h; rw [VL.nil.1 hv]; rfl
  | cons c cs ih =>
    intro l vs h hv
    obtain ⟨x, xs, rfl, h1, h2⟩ := VL.cons.1 hv
    cases c <;> simp only [boolsOf] at h <;> first | (cases h; done) | skip
    all_goals
      split at h
      · rename_i l' hl
        simp only [Option.some.injEq] at h; subst h
        simp only [V] at h1
        rw [ih hl h2, h1]; rfl
      · cases h

theorem choice_V {E : Env} {ix : Int} {cs : List SV} {s : SV} {vs : List Value} (h : choice ix cs = some s) (hv : VL E cs vs) (h0 : 0 ≤ ix) (h1 : ix < (cs.length : Int)) :
    ∃ v, vs[ix.toNat]? = some v ∧ V E s v := by
  have hlen := hv.length
  have ints : ∀ k, (match intsOf k cs with | some l => some (SV.i k (pick ix l)) | none => none) = some s → ∃ v, vs[ix.toNat]? = some v ∧ V E s v := by
    intro k h
    split at h
    · rename_i l hl
      obtain ⟨q1, q2⟩ := intsOf_V hl hv
      simp only [Option.some.injEq] at h; subst h
      have hll : l.length = cs.length := by rw [← hlen, q1, List.length_map]
      obtain ⟨p1, p2⟩ := pick_InR q2 h0 (by rw [hll]; exact h1)
      refine ⟨.int k (pick ix l), by rw [q1, List.getElem?_map, p2]; rfl, ?_⟩
      simp only [V]; exact ⟨trivial, p1⟩
    · cases h
  have bools : (match boolsOf cs with | some l => some (SV.b (pickB ix l)) | none => none) = some s → ∃ v, vs[ix.toNat]? = some v ∧ V E s v := by
    intro h
    split at h
    · rename_i l hl
      have q1 := boolsOf_V hl hv
      simp only [Option.some.injEq] at h; subst h
      have hll : l.length = cs.length := by rw [← hlen, q1, List.length_map]
      have hlt : ix.toNat < l.length := by omega
      have he : l[ix.toNat]? = some l[ix.toNat] := List.getElem?_eq_getElem hlt
      refine ⟨.bool (pickB ix l), by rw [q1, List.getElem?_map, he]; simp [pickB, he], ?_⟩
      simp only [V]
    · cases h
  cases cs with
  | nil => simp [choice] at h
  | cons c cs =>
    cases c <;> simp only [choice] at h <;> first | exact ints _ h | exact bools h | cases h

theorem column_V {E : Env} {cs : List SV} {vs : List Value} (hv : VL E cs vs) : ∀ {c off stride : Nat} {l : List SV}, column cs off stride c = some l →
    ∃ us : List Value, VL E l us ∧ l.length = c ∧ ∀ j v, us[j]? = some v → vs[off + stride * j]? = some v
  | 0, off, stride, l, h => by simp only [column, Option.some.injEq] at h; subst h; exact ⟨[], VL.nil.2 rfl, rfl, by simp⟩
  | c + 1, off, stride, l, h => by
    simp only [column] at h
    split at h
    · rename_i s hs
      split at h
      · rename_i l' hl
        simp only [Option.some.injEq] at h; subst h
        obtain ⟨us, q1, q2, q3⟩ := column_V hv hl
        obtain ⟨v, hv1, hv2⟩ := hv.get hs
        refine ⟨v :: us, VL.cons'.2 ⟨hv2, q1⟩, by simp [q2], fun j w hw => ?_⟩
        cases j with
        | zero => simp at hw; subst hw; simpa using hv1
        | succ j =>
          have := q3 j w (by simpa using hw)
          rw [← this]; congr 1; rw [Nat.mul_add, Nat.mul_one]; omega
      · cases h
    · cases h

theorem choices_V {E : Env} {cs : List SV} {vs : List Value} {ix : Int} {stride cnt : Nat} (hv : VL E cs vs) (h0 : 0 ≤ ix) (h1 : ix < (cnt : Int)) : ∀ {n off : Nat} {l : List SV},
    choices ix cs off stride cnt n = some l →
    ∃ us : List Value, us.length = n ∧ VL E l us ∧ ∀ j v, us[j]? = some v → vs[off + stride * ix.toNat + j]? = some v
  | 0, off, l, h => by simp only [choices, Option.some.injEq] at h; subst h; exact ⟨[], rfl, VL.nil.2 rfl, by simp⟩
  | n + 1, off, l, h => by
    simp only [choices] at h
    split at h
    · rename_i col hc
      split at h
      · rename_i s hs
        split at h
        · rename_i l' hl
          simp only [Option.some.injEq] at h; subst h
          obtain ⟨us, q1, q2, q3⟩ := choices_V hv h0 h1 hl
          obtain ⟨ws, r1, r2, r3⟩ := column_V hv hc
          obtain ⟨v, hv1, hv2⟩ := choice_V hs r1 h0 (by rw [r2]; exact h1)
          refine ⟨v :: us, by simp [q1], VL.cons'.2 ⟨hv2, q2⟩, fun j w hw => ?_⟩
          cases j with
          | zero => simp at hw; subst hw; simpa using r3 _ _ hv1
          | succ j =>
            have := q3 j w (by simpa using hw)
            rw [← this]; congr 1; omega
        · cases h
      · cases h
    · cases h

/-- One integer written at a place that a number names. -/
theorem spread_V {E : Env} {ix : Int} {k : IntKind} {v : Int} (hr : InR k v) : ∀ {cs : List SV} {vs : List Value} {e : Int} {stride left cnt : Nat} {l : List SV}, 0 < stride → VL E cs vs →
    spread ix k v cs e stride left cnt = some l → e ≤ ix → ix < e + cnt →
    left + stride * (ix - e).toNat < vs.length ∧ VL E l (vs.set (left + stride * (ix - e).toNat) (.int k v)) := by
  intro cs
  induction cs with
  | nil =>
    intro vs e stride left cnt l hst hv h h0 h1
    cases cnt with
    | zero => omega
    | succ => simp [spread] at h
  | cons c cs ih =>
    intro vs e stride left cnt l hst hv h h0 h1
    obtain ⟨x, xs, rfl, hx, hxs⟩ := VL.cons.1 hv
    cases cnt with
    | zero => omega
    | succ cnt =>
      cases left with
      | succ left =>
        simp only [spread] at h
        split at h
        · rename_i l' hl
          simp only [Option.some.injEq] at h; subst h
          obtain ⟨q1, q2⟩ := ih hst hxs hl h0 h1
          have : left + 1 + stride * (ix - e).toNat = left + stride * (ix - e).toNat + 1 := by omega
          rw [this]
          exact ⟨by simp; omega, by rw [List.set_cons_succ]; exact VL.cons'.2 ⟨hx, q2⟩⟩
        · cases h
      | zero =>
        have fin : ∀ (o : Int), x = .int k o → InR k o → (match spread ix k v cs (e + 1) stride (stride - 1) cnt with | some l => some (SV.i k (upI ix e v o) :: l) | none => none) = some l →
            0 + stride * (ix - e).toNat < (x :: xs).length ∧ VL E l ((x :: xs).set (0 + stride * (ix - e).toNat) (.int k v)) := by
          intro o hxo hro h
          split at h
          · rename_i l' hl
            simp only [Option.some.injEq] at h; subst h
            by_cases hie : ix = e
            · subst hie
              simp only [Int.sub_self, Int.toNat_zero, Nat.mul_zero, Nat.add_zero, List.set_cons_zero]
              refine ⟨by simp, VL.cons'.2 ⟨?_, ?_⟩⟩
              · simp only [V, upI, if_true]; exact ⟨trivial, hr⟩
              · -- nothing is written behind
                have aux : ∀ (cs : List SV) (vs : List Value) (e' : Int) (left cnt : Nat) (l : List SV), VL E cs vs → spread ix k v cs e' stride left cnt = some l → ix < e' → VL E l vs := by
                  intro cs
                  induction cs with
                  | nil =>
                    intro vs e' left cnt l hv h hlt
                    cases cnt with
                    | zero => simp only [spread, Option.some.injEq] at h; subst h; exact hv
                    | succ => simp [spread] at h
                  | cons c cs ih2 =>
                    intro vs e' left cnt l hv h hlt
                    obtain ⟨y, ys, rfl, hy, hys⟩ := VL.cons.1 hv
                    cases cnt with
                    | zero => simp only [spread, Option.some.injEq] at h; subst h; exact hv
                    | succ cnt =>
                      cases left with
                      | succ left =>
                        simp only [spread] at h
                        split at h
                        · rename_i l' hl
                          simp only [Option.some.injEq] at h; subst h
                          exact VL.cons'.2 ⟨hy, ih2 _ _ _ _ _ hys hl hlt⟩
                        · cases h
                      | zero =>
                        cases c <;> simp only [spread] at h <;> first | (cases h; done) | skip
                        all_goals
                          rename_i k' o'
                          cases hk : kindB k k' <;> simp only [hk, cond_true, cond_false] at h
                          · cases h
                          · split at h
                            · rename_i l' hl
                              simp only [Option.some.injEq] at h; subst h
                              cases kindB_eq hk
                              refine VL.cons'.2 ⟨?_, ih2 _ _ _ _ _ hys hl (by omega)⟩
                              simp only [V] at hy ⊢
                              rw [upI, if_neg (by omega)]
                              exact hy
                            · cases h
                exact aux cs xs _ _ _ _ hxs hl (by omega)
            · obtain ⟨q1, q2⟩ := ih hst hxs hl (by omega) (by omega)
              have he : (ix - e).toNat = (ix - (e + 1)).toNat + 1 := by omega
              have hm : stride * (ix - e).toNat = stride * (ix - (e + 1)).toNat + stride := by rw [he, Nat.mul_add, Nat.mul_one]
              have : 0 + stride * (ix - e).toNat = (stride - 1 + stride * (ix - (e + 1)).toNat) + 1 := by omega
              rw [this]
              refine ⟨by simp; omega, ?_⟩
              rw [List.set_cons_succ]
              refine VL.cons'.2 ⟨?_, q2⟩
              simp only [V, upI, if_neg hie]; exact ⟨hxo, hro⟩
          · cases h
        cases c <;> simp only [spread] at h <;> first | (cases h; done) | skip
        all_goals
          rename_i k' o'
          cases hk : kindB k k' <;> simp only [hk, cond_true, cond_false] at h
          · cases h
          · cases kindB_eq hk
            simp only [V] at hx
            exact fin o' hx.1 hx.2 h
end Go.Sx
