/-
  The machine of the program as plain Lean data, and how it lies in the cells of the program's values.
  Conditions: none; definitions, and lemmas that decoding undoes encoding.
-/
import Derived.Test.YtcibdpbblleafaaGreatDoorSxP
import Derived.Test.YtcibdpbblleafaaGreatDoorProg
namespace Go.Sx
open Go Go.RowKit

structure Regs where
  (r0 r1 r2 r3 r4 r5 r6 r7 r8 r9 r10 r11 r12 r13 r14 r15 : Int)

structure Csrs where
  (c0 c1 c2 c3 c4 c5 c6 c7 c8 c9 c10 c11 : Int)

structure Core where
  regs : Regs
  pc : Int
  csr : Csrs

structure Mach where
  core : Core
  mem : List Int
  time : Int
  out : List Int
  halted : Bool

structure Vcpu where
  core : Core
  out : List Int
  halted : Bool
  done : Int
  log : List Ev

structure Instr where
  (op rd ra rb imm : Int)

structure Trap where
  (cause tval : Int)

structure Part where
  (base size : Int)

def Regs.list (c : Regs) : List Int := [c.r0, c.r1, c.r2, c.r3, c.r4, c.r5, c.r6, c.r7, c.r8, c.r9, c.r10, c.r11, c.r12, c.r13, c.r14, c.r15]
def Csrs.list (c : Csrs) : List Int := [c.c0, c.c1, c.c2, c.c3, c.c4, c.c5, c.c6, c.c7, c.c8, c.c9, c.c10, c.c11]
def Regs.cds (c : Regs) : List CD := [.int .u32 c.r0, .int .u32 c.r1, .int .u32 c.r2, .int .u32 c.r3, .int .u32 c.r4, .int .u32 c.r5, .int .u32 c.r6, .int .u32 c.r7, .int .u32 c.r8, .int .u32 c.r9, .int .u32 c.r10, .int .u32 c.r11, .int .u32 c.r12, .int .u32 c.r13, .int .u32 c.r14, .int .u32 c.r15]
def Csrs.cds (c : Csrs) : List CD := [.int .u32 c.c0, .int .u32 c.c1, .int .u32 c.c2, .int .u32 c.c3, .int .u32 c.c4, .int .u32 c.c5, .int .u32 c.c6, .int .u32 c.c7, .int .u32 c.c8, .int .u32 c.c9, .int .u32 c.c10, .int .u32 c.c11]
def Core.cds (c : Core) : List CD := c.regs.cds ++ (.int .u32 c.pc :: c.csr.cds)
def coreKs : List Kd := List.replicate 29 (.int .u32)

/-- Integers of one kind at the head of a list of cells. -/
def ints (k : IntKind) : Nat → List CD → Option (List Int × List CD)
  | 0, cs => some ([], cs)
  | n + 1, .int k' v :: cs => bif kindB k k' then (match ints k n cs with
      | some (l, r) => some (v :: l, r)
      | none => none) else none
  | _ + 1, _ => none

def Regs.ofList : List Int → Option Regs
  | [r0, r1, r2, r3, r4, r5, r6, r7, r8, r9, r10, r11, r12, r13, r14, r15] => some ⟨r0, r1, r2, r3, r4, r5, r6, r7, r8, r9, r10, r11, r12, r13, r14, r15⟩
  | _ => none

def Csrs.ofList : List Int → Option Csrs
  | [c0, c1, c2, c3, c4, c5, c6, c7, c8, c9, c10, c11] => some ⟨c0, c1, c2, c3, c4, c5, c6, c7, c8, c9, c10, c11⟩
  | _ => none

def Regs.of (cs : List CD) : Option (Regs × List CD) :=
  match ints .u32 16 cs with
  | some (l, r) => (match Regs.ofList l with | some c => some (c, r) | none => none)
  | none => none

def Csrs.of (cs : List CD) : Option (Csrs × List CD) :=
  match ints .u32 12 cs with
  | some (l, r) => (match Csrs.ofList l with | some c => some (c, r) | none => none)
  | none => none

def Core.of (cs : List CD) : Option (Core × List CD) :=
  match Regs.of cs with
  | some (r, .int .u32 pc :: rest) => (match Csrs.of rest with | some (c, rest) => some (⟨r, pc, c⟩, rest) | none => none)
  | _ => none

def Regs.of' (cs : List CD) : Option Regs :=
  match Regs.of cs with
  | some (c, []) => some c
  | _ => none

def Csrs.of' (cs : List CD) : Option Csrs :=
  match Csrs.of cs with
  | some (c, []) => some c
  | _ => none

def Mach.cds (m : Mach) : List CD := m.core.cds ++ [.bytes m.mem, .int .u64 m.time, .bytes m.out, .bool m.halted]
def machKs : List Kd := coreKs ++ [.bytes, .int .u64, .bytes, .bool]
def Mach.of (cs : List CD) : Option Mach :=
  match Core.of cs with
  | some (c, [.bytes mem, .int .u64 time, .bytes out, .bool halted]) => some ⟨c, mem, time, out, halted⟩
  | _ => none

def Vcpu.cds (v : Vcpu) : List CD := v.core.cds ++ [.bytes v.out, .bool v.halted, .int .i64 v.done, .evs v.log]
def vcpuKs : List Kd := coreKs ++ [.bytes, .bool, .int .i64, .evs]
def Vcpu.of (cs : List CD) : Option Vcpu :=
  match Core.of cs with
  | some (c, [.bytes out, .bool halted, .int .i64 done, .evs log]) => some ⟨c, out, halted, done, log⟩
  | _ => none

def Instr.cds (i : Instr) : List CD := [.int .i64 i.op, .int .i64 i.rd, .int .i64 i.ra, .int .i64 i.rb, .int .i32 i.imm]
def instrKs : List Kd := [.int .i64, .int .i64, .int .i64, .int .i64, .int .i32]
def Instr.of : List CD → Option Instr
  | [.int .i64 op, .int .i64 rd, .int .i64 ra, .int .i64 rb, .int .i32 imm] => some ⟨op, rd, ra, rb, imm⟩
  | _ => none

def Trap.cds (t : Trap) : List CD := [.int .i64 t.cause, .int .u32 t.tval]
def trapKs : List Kd := [.int .i64, .int .u32]
def Trap.of : List CD → Option Trap
  | [.int .i64 c, .int .u32 v] => some ⟨c, v⟩
  | _ => none

def Part.cds (p : Part) : List CD := [.int .u32 p.base, .int .u32 p.size]
def partKs : List Kd := [.int .u32, .int .u32]
def Part.of : List CD → Option Part
  | [.int .u32 b, .int .u32 s] => some ⟨b, s⟩
  | _ => none

def Core.of' (cs : List CD) : Option Core :=
  match Core.of cs with
  | some (c, []) => some c
  | _ => none

theorem kindB_refl (k : IntKind) : kindB k k = true := by cases k <;> rfl

theorem ints_spec {k : IntKind} : ∀ {n : Nat} {cs : List CD} {l : List Int} {r : List CD}, ints k n cs = some (l, r) → cs = l.map (CD.int k) ++ r
  | 0, cs, l, r, h => by
    simp only [ints, Option.some.injEq, Prod.mk.injEq] at h
    obtain ⟨rfl, rfl⟩ := h; rfl
  | n + 1, [], l, r, h => by simp [ints] at h
  | n + 1, .bool _ :: _, l, r, h => by simp [ints] at h
  | n + 1, .bytes _ :: _, l, r, h => by simp [ints] at h
  | n + 1, .evs _ :: _, l, r, h => by simp [ints] at h
  | n + 1, .int k' v :: cs, l, r, h => by
    simp only [ints] at h
    obtain ⟨hk, h⟩ := cond_none h
    split at h <;> try (cases h; done)
    rename_i l' r' hl
    cases h
    have hkk := kindB_eq hk
    subst hkk
    rw [ints_spec hl]; rfl

theorem Regs.ofList_spec {l : List Int} {c : Regs} (h : Regs.ofList l = some c) : l = c.list := by
  unfold Regs.ofList at h
  split at h
  · cases h; rfl
  · cases h

theorem Csrs.ofList_spec {l : List Int} {c : Csrs} (h : Csrs.ofList l = some c) : l = c.list := by
  unfold Csrs.ofList at h
  split at h
  · cases h; rfl
  · cases h

theorem Regs.of_spec {cs : List CD} {c : Regs} {r : List CD} (h : Regs.of cs = some (c, r)) : cs = c.cds ++ r := by
  unfold Regs.of at h
  split at h <;> try (cases h; done)
  rename_i l r' hl
  split at h <;> try (cases h; done)
  rename_i c' hc
  cases h
  rw [ints_spec hl, Regs.ofList_spec hc]; rfl

theorem Csrs.of_spec {cs : List CD} {c : Csrs} {r : List CD} (h : Csrs.of cs = some (c, r)) : cs = c.cds ++ r := by
  unfold Csrs.of at h
  split at h <;> try (cases h; done)
  rename_i l r' hl
  split at h <;> try (cases h; done)
  rename_i c' hc
  cases h
  rw [ints_spec hl, Csrs.ofList_spec hc]; rfl

theorem Core.of_spec {cs : List CD} {c : Core} {r : List CD} (h : Core.of cs = some (c, r)) : cs = c.cds ++ r := by
  unfold Core.of at h
  split at h <;> try (cases h; done)
  rename_i r' pc rest hr
  split at h <;> try (cases h; done)
  rename_i c' rest' hc
  cases h
  rw [Regs.of_spec hr, Csrs.of_spec hc]; simp [Core.cds]

theorem Regs.of'_spec {cs : List CD} {c : Regs} (h : Regs.of' cs = some c) : cs = c.cds := by
  unfold Regs.of' at h
  split at h <;> try (cases h; done)
  rename_i hc
  cases h
  rw [Regs.of_spec hc, List.append_nil]

theorem Csrs.of'_spec {cs : List CD} {c : Csrs} (h : Csrs.of' cs = some c) : cs = c.cds := by
  unfold Csrs.of' at h
  split at h <;> try (cases h; done)
  rename_i hc
  cases h
  rw [Csrs.of_spec hc, List.append_nil]

theorem Core.of'_spec {cs : List CD} {c : Core} (h : Core.of' cs = some c) : cs = c.cds := by
  unfold Core.of' at h
  split at h <;> try (cases h; done)
  rename_i hc
  cases h
  rw [Core.of_spec hc, List.append_nil]

theorem Mach.of_spec {cs : List CD} {m : Mach} (h : Mach.of cs = some m) : cs = m.cds := by
  unfold Mach.of at h
  split at h <;> try (cases h; done)
  rename_i hc
  cases h
  rw [Core.of_spec hc]; rfl

theorem Vcpu.of_spec {cs : List CD} {m : Vcpu} (h : Vcpu.of cs = some m) : cs = m.cds := by
  unfold Vcpu.of at h
  split at h <;> try (cases h; done)
  rename_i hc
  cases h
  rw [Core.of_spec hc]; rfl

theorem Instr.of_spec {cs : List CD} {m : Instr} (h : Instr.of cs = some m) : cs = m.cds := by
  unfold Instr.of at h
  split at h
  · cases h; rfl
  · cases h

theorem Trap.of_spec {cs : List CD} {m : Trap} (h : Trap.of cs = some m) : cs = m.cds := by
  unfold Trap.of at h
  split at h
  · cases h; rfl
  · cases h

theorem Part.of_spec {cs : List CD} {m : Part} (h : Part.of cs = some m) : cs = m.cds := by
  unfold Part.of at h
  split at h
  · cases h; rfl
  · cases h

/-! ### Arguments and results -/
structure Ty (α : Type) where
  agg : Bool
  ks : List Kd
  enc : α → List CD
  dec : List CD → Option α
  ok : ∀ {cs a}, dec cs = some a → cs = enc a

def Ty.arg {α : Type} (A : Ty α) (a : α) : Arg := ⟨A.agg, A.enc a⟩
def Ty.sig {α : Type} (A : Ty α) : Sig := ⟨A.agg, A.ks⟩
def Ty.from {α : Type} (A : Ty α) (x : Arg) : Option α := bif x.agg == A.agg then A.dec x.cs else none

theorem Ty.from_spec {α : Type} {A : Ty α} {x : Arg} {a : α} (h : A.from x = some a) : x = A.arg a := by
  unfold Ty.from at h
  obtain ⟨h1, h2⟩ := cond_none h
  have := A.ok h2
  have h1 := eq_of_beq h1
  cases x; cases this; cases h1; rfl

def tRegs : Ty Regs := ⟨true, List.replicate 16 (.int .u32), Regs.cds, Regs.of', Regs.of'_spec⟩
def tCsrs : Ty Csrs := ⟨true, List.replicate 12 (.int .u32), Csrs.cds, Csrs.of', Csrs.of'_spec⟩
def tCore : Ty Core := ⟨true, coreKs, Core.cds, Core.of', Core.of'_spec⟩
def tMach : Ty Mach := ⟨true, machKs, Mach.cds, Mach.of, Mach.of_spec⟩
def tVcpu : Ty Vcpu := ⟨true, vcpuKs, Vcpu.cds, Vcpu.of, Vcpu.of_spec⟩
def tInstr : Ty Instr := ⟨true, instrKs, Instr.cds, Instr.of, Instr.of_spec⟩
def tTrap : Ty Trap := ⟨true, trapKs, Trap.cds, Trap.of, Trap.of_spec⟩
def tPart : Ty Part := ⟨true, partKs, Part.cds, Part.of, Part.of_spec⟩
def tEv : Ty Ev := ⟨true, [.int .i64, .int .i64, .int .u64], fun e => [.int .i64 e.kind, .int .i64 e.at_, .int .u64 e.time],
  fun cs => match cs with | [.int .i64 k, .int .i64 a, .int .u64 t] => some ⟨k, a, t⟩ | _ => none, by
    intro cs a h
    split at h
    · cases h; rfl
    · cases h⟩
def tInt (k : IntKind) : Ty Int := ⟨false, [.int k], fun v => [.int k v], fun cs => match cs with | [.int k' v] => bif kindB k k' then some v else none | _ => none, by
    intro cs a h
    split at h
    · obtain ⟨h1, h2⟩ := cond_none h
      cases h2
      rw [kindB_eq h1]
    · cases h⟩
def tBool : Ty Bool := ⟨false, [.bool], fun v => [.bool v], fun cs => match cs with | [.bool v] => some v | _ => none, by
    intro cs a h
    split at h
    · cases h; rfl
    · cases h⟩
def tBytes : Ty (List Int) := ⟨false, [.bytes], fun v => [.bytes v], fun cs => match cs with | [.bytes v] => some v | _ => none, by
    intro cs a h
    split at h
    · cases h; rfl
    · cases h⟩
def tEvs : Ty (List Ev) := ⟨false, [.evs], fun v => [.evs v], fun cs => match cs with | [.evs v] => some v | _ => none, by
    intro cs a h
    split at h
    · cases h; rfl
    · cases h⟩

/-! ### The engine for this program -/
def globals : Nat → Option (List SV) := fun g =>
  match g with
  | 0 => some ((repL [.kb false, .kb false, .kb false, .kb false, .kb false] 1) ++ [.kb true, .kb true, .kb true, .kb false, .kb false, .kb true, .kb true, .kb false, .kb true, .kb false, .kb true, .kb false, .kb false, .kb true, .kb false,
      .kb false, .kb false, .kb false, .kb false, .kb false, .kb true, .kb false, .kb false, .kb false, .kb true, .kb false, .kb true, .kb false, .kb false, .kb true, .kb false, .kb true, .kb false, .kb false, .kb false])
  | 1 => some [.n .i64 0, .n .i64 1, .n .i64 1, .n .i64 1, .n .i64 1, .n .i64 1, .n .i64 1, .n .i64 1, .n .i64 1, .n .i64 2, .n .i64 3, .n .i64 2, .n .i64 2, .n .i64 2, .n .i64 2, .n .i64 2, .n .i64 2, .n .i64 2, .n .i64 3, .n .i64 2, .n .i64 4, .n .i64 5, .n .i64 6, .n .i64 4, .n .i64 4, .n .i64 7]
  | 2 => some [.n .i64 0, .n .u32 0]
  | _ => none

def eqTypes (t : TypeId) : Bool := Nat.beq t 23 || (Nat.beq t 26 || (Nat.beq t 56 || Nat.beq t 65))

noncomputable def tcx : Cx := { P := Go.Proofs.Tryz.prog, gl := globals, eqT := eqTypes }

def look (l : List (FuncId × Summ)) (g : FuncId) : Option Summ :=
  match l with
  | [] => none
  | (h, S) :: l => bif Nat.beq h g then some S else look l g

noncomputable def teng (l : List (FuncId × Summ)) : Eng := { cx := tcx, summ := look l, inl := fun g => match look l g with | some _ => false | none => true }

theorem look_mem {l : List (FuncId × Summ)} {g : FuncId} {S : Summ} (h : look l g = some S) : (g, S) ∈ l := by
  induction l with
  | nil => cases h
  | cons q l ih =>
    obtain ⟨k, T⟩ := q
    simp only [look] at h
    cases hk : Nat.beq k g <;> simp only [hk, cond_true, cond_false] at h
    · exact List.mem_cons_of_mem _ (ih h)
    · cases h; rw [Nat.eq_of_beq_eq_true hk]; exact List.mem_cons_self ..

/-- What the engine needs of the program, beside summaries. -/
structure Base : Prop where
  eq : EqOk tcx
  names : ∀ (g : FuncId) (fn : Func), tcx.P.funcs[g]? = some fn → (fn.name == "runtime.NumGoroutine") = false
  mixed : tcx.P.follows .mixedOrders = true

def Good (l : List (FuncId × Summ)) : Prop := ∀ q ∈ l, SummOk tcx q.1 q.2 ∧ SummLoc q.2

theorem Good.nil : Good [] := fun q hq => by cases hq
theorem Good.cons {g : FuncId} {S : Summ} {l : List (FuncId × Summ)} (h : SummOk tcx g S) (h2 : SummLoc S) (hl : Good l) : Good ((g, S) :: l) := by
  intro q hq
  cases hq with
  | head => exact ⟨h, h2⟩
  | tail _ hm => exact hl q hm

theorem teng_ok (B : Base) {l : List (FuncId × Summ)} (hl : Good l) : EngOk (teng l) :=
  ⟨B.eq, B.names, B.mixed, fun _ _ h => (hl _ (look_mem h)).1⟩
theorem teng_loc {l : List (FuncId × Summ)} (hl : Good l) : ∀ g S, (teng l).summ g = some S → SummLoc S := fun _ _ h => (hl _ (look_mem h)).2

noncomputable def hasBody (g : FuncId) : Bool :=
  match tcx.P.funcs[g]? with
  | some fn => fn.body.isSome
  | none => false

theorem hasBody_spec {g : FuncId} (h : hasBody g = true) : ∃ fn c, tcx.P.funcs[g]? = some fn ∧ fn.body = some c := by
  unfold hasBody at h
  split at h
  · rename_i fn hf
    obtain ⟨c, hc⟩ := Option.isSome_iff_exists.1 h
    exact ⟨fn, c, hf, hc⟩
  · cases h

/-- A function by itself, on arguments of the program's types. -/
noncomputable def rf (l : List (FuncId × Summ)) (g : FuncId) (xs : List Arg) (rs : List Sig) : Tree (Option (List Arg)) := runFn (teng l) 100 g (encArgs xs 0) (s0 xs) (obsRes rs)

section
variable {α β γ δ : Type}

def sp0 (f : List Bool × List Arg) : SpecF := fun xs => match xs with | [] => some f | _ => none
def sp1 (A : Ty α) (f : α → List Bool × List Arg) : SpecF := fun xs =>
  match xs with
  | [x] => (match A.from x with | some a => some (f a) | none => none)
  | _ => none
def sp2 (A : Ty α) (B : Ty β) (f : α → β → List Bool × List Arg) : SpecF := fun xs =>
  match xs with
  | [x, y] => (match A.from x, B.from y with | some a, some b => some (f a b) | _, _ => none)
  | _ => none
def sp3 (A : Ty α) (B : Ty β) (C : Ty γ) (f : α → β → γ → List Bool × List Arg) : SpecF := fun xs =>
  match xs with
  | [x, y, z] => (match A.from x, B.from y, C.from z with | some a, some b, some c => some (f a b c) | _, _, _ => none)
  | _ => none
def sp4 (A : Ty α) (B : Ty β) (C : Ty γ) (D : Ty δ) (f : α → β → γ → δ → List Bool × List Arg) : SpecF := fun xs =>
  match xs with
  | [x, y, z, u] => (match A.from x, B.from y, C.from z, D.from u with | some a, some b, some c, some d => some (f a b c d) | _, _, _, _ => none)
  | _ => none

theorem summ0 (B0 : Base) {l : List (FuncId × Summ)} (hl : Good l) {g : FuncId} {rs : List Sig} {f : List Bool × List Arg}
    (h : AllT f.1 → Says (rf l g [] rs) (· = some f.2)) (hb : hasBody g = true) : SummOk tcx g (mkSumm [] (sp0 f)) := by
  refine mkSumm_ok (teng_ok B0 hl) (teng_loc hl) (fuel := 100) (rs := rs) (fun xs needs res hok hx hn => ?_) (hasBody_spec hb)
  unfold sp0 at hx
  split at hx <;> try (cases hx; done)
  cases hx
  exact h hn

theorem summ1 (B0 : Base) {l : List (FuncId × Summ)} (hl : Good l) {g : FuncId} {rs : List Sig} {A : Ty α} {f : α → List Bool × List Arg}
    (h : ∀ a, OkAs [A.arg a] → AllT (f a).1 → Says (rf l g [A.arg a] rs) (· = some (f a).2)) (hb : hasBody g = true) : SummOk tcx g (mkSumm [A.sig] (sp1 A f)) := by
  refine mkSumm_ok (teng_ok B0 hl) (teng_loc hl) (fuel := 100) (rs := rs) (fun xs needs res hok hx hn => ?_) (hasBody_spec hb)
  unfold sp1 at hx
  split at hx <;> try (cases hx; done)
  split at hx <;> try (cases hx; done)
  rename_i a ha
  simp only [Option.some.injEq] at hx
  have e0 := Ty.from_spec ha
  subst e0
  have := h a hok (by rw [hx]; exact hn)
  rw [hx] at this
  exact this

theorem summ2 (B0 : Base) {l : List (FuncId × Summ)} (hl : Good l) {g : FuncId} {rs : List Sig} {A : Ty α} {B : Ty β} {f : α → β → List Bool × List Arg}
    (h : ∀ a b, OkAs [A.arg a, B.arg b] → AllT (f a b).1 → Says (rf l g [A.arg a, B.arg b] rs) (· = some (f a b).2)) (hb : hasBody g = true) : SummOk tcx g (mkSumm [A.sig, B.sig] (sp2 A B f)) := by
  refine mkSumm_ok (teng_ok B0 hl) (teng_loc hl) (fuel := 100) (rs := rs) (fun xs needs res hok hx hn => ?_) (hasBody_spec hb)
  unfold sp2 at hx
  split at hx <;> try (cases hx; done)
  split at hx <;> try (cases hx; done)
  rename_i a b ha hb'
  simp only [Option.some.injEq] at hx
  have e0 := Ty.from_spec ha
  have e1 := Ty.from_spec hb'
  subst e0 e1
  have := h a b hok (by rw [hx]; exact hn)
  rw [hx] at this
  exact this

theorem summ3 (B0 : Base) {l : List (FuncId × Summ)} (hl : Good l) {g : FuncId} {rs : List Sig} {A : Ty α} {B : Ty β} {C : Ty γ} {f : α → β → γ → List Bool × List Arg}
    (h : ∀ a b c, OkAs [A.arg a, B.arg b, C.arg c] → AllT (f a b c).1 → Says (rf l g [A.arg a, B.arg b, C.arg c] rs) (· = some (f a b c).2)) (hb : hasBody g = true) : SummOk tcx g (mkSumm [A.sig, B.sig, C.sig] (sp3 A B C f)) := by
  refine mkSumm_ok (teng_ok B0 hl) (teng_loc hl) (fuel := 100) (rs := rs) (fun xs needs res hok hx hn => ?_) (hasBody_spec hb)
  unfold sp3 at hx
  split at hx <;> try (cases hx; done)
  split at hx <;> try (cases hx; done)
  rename_i a b c ha hb' hc
  simp only [Option.some.injEq] at hx
  have e0 := Ty.from_spec ha
  have e1 := Ty.from_spec hb'
  have e2 := Ty.from_spec hc
  subst e0 e1 e2
  have := h a b c hok (by rw [hx]; exact hn)
  rw [hx] at this
  exact this

noncomputable def rfK (l : List (FuncId × Summ)) (i : Nat) (g : FuncId) (xs : List Arg) (rs : List Sig) : Tree (Option (List Arg)) := runFn (teng l) 100 g (knownAt i (encArgs xs 0)) (s0 xs) (obsRes rs)

theorem summ3K (B0 : Base) {l : List (FuncId × Summ)} (hl : Good l) (i : Nat) {g : FuncId} {rs : List Sig} {A : Ty α} {B : Ty β} {C : Ty γ} {f : α → β → γ → List Bool × List Arg}
    (h : ∀ a b c, OkAs [A.arg a, B.arg b, C.arg c] → AllT (f a b c).1 → Says (rfK l i g [A.arg a, B.arg b, C.arg c] rs) (· = some (f a b c).2)) (hb : hasBody g = true) : SummOk tcx g (mkSumm [A.sig, B.sig, C.sig] (sp3 A B C f)) := by
  refine mkSummK_ok (knownAt i) (fun _ _ _ => knownAt_V) (teng_ok B0 hl) (teng_loc hl) (fuel := 100) (rs := rs) (fun xs needs res hok hx hn => ?_) (hasBody_spec hb)
  unfold sp3 at hx
  split at hx <;> try (cases hx; done)
  split at hx <;> try (cases hx; done)
  rename_i a b c ha hb' hc
  simp only [Option.some.injEq] at hx
  have e0 := Ty.from_spec ha
  have e1 := Ty.from_spec hb'
  have e2 := Ty.from_spec hc
  subst e0 e1 e2
  have := h a b c hok (by rw [hx]; exact hn)
  rw [hx] at this
  exact this

theorem summ4K (B0 : Base) {l : List (FuncId × Summ)} (hl : Good l) (i : Nat) {g : FuncId} {rs : List Sig} {A : Ty α} {B : Ty β} {C : Ty γ} {D : Ty δ} {f : α → β → γ → δ → List Bool × List Arg}
    (h : ∀ a b c d, OkAs [A.arg a, B.arg b, C.arg c, D.arg d] → AllT (f a b c d).1 → Says (rfK l i g [A.arg a, B.arg b, C.arg c, D.arg d] rs) (· = some (f a b c d).2)) (hb : hasBody g = true) : SummOk tcx g (mkSumm [A.sig, B.sig, C.sig, D.sig] (sp4 A B C D f)) := by
  refine mkSummK_ok (knownAt i) (fun _ _ _ => knownAt_V) (teng_ok B0 hl) (teng_loc hl) (fuel := 100) (rs := rs) (fun xs needs res hok hx hn => ?_) (hasBody_spec hb)
  unfold sp4 at hx
  split at hx <;> try (cases hx; done)
  split at hx <;> try (cases hx; done)
  rename_i a b c d ha hb' hc hd
  simp only [Option.some.injEq] at hx
  have e0 := Ty.from_spec ha
  have e1 := Ty.from_spec hb'
  have e2 := Ty.from_spec hc
  have e3 := Ty.from_spec hd
  subst e0 e1 e2 e3
  have := h a b c d hok (by rw [hx]; exact hn)
  rw [hx] at this
  exact this

theorem summ4 (B0 : Base) {l : List (FuncId × Summ)} (hl : Good l) {g : FuncId} {rs : List Sig} {A : Ty α} {B : Ty β} {C : Ty γ} {D : Ty δ} {f : α → β → γ → δ → List Bool × List Arg}
    (h : ∀ a b c d, OkAs [A.arg a, B.arg b, C.arg c, D.arg d] → AllT (f a b c d).1 → Says (rf l g [A.arg a, B.arg b, C.arg c, D.arg d] rs) (· = some (f a b c d).2)) (hb : hasBody g = true) : SummOk tcx g (mkSumm [A.sig, B.sig, C.sig, D.sig] (sp4 A B C D f)) := by
  refine mkSumm_ok (teng_ok B0 hl) (teng_loc hl) (fuel := 100) (rs := rs) (fun xs needs res hok hx hn => ?_) (hasBody_spec hb)
  unfold sp4 at hx
  split at hx <;> try (cases hx; done)
  split at hx <;> try (cases hx; done)
  rename_i a b c d ha hb' hc hd
  simp only [Option.some.injEq] at hx
  have e0 := Ty.from_spec ha
  have e1 := Ty.from_spec hb'
  have e2 := Ty.from_spec hc
  have e3 := Ty.from_spec hd
  subst e0 e1 e2 e3
  have := h a b c d hok (by rw [hx]; exact hn)
  rw [hx] at this
  exact this
end
end Go.Sx
