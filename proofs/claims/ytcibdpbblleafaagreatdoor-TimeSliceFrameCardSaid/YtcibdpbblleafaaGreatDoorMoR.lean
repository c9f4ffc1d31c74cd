/-
  Steps until one traps, as a plain Lean function; its summary.
  Conditions: none; the summary holds of the program's function where the plain function comes to an end within its bound.
-/
import Derived.Test.YtcibdpbblleafaaGreatDoorMoQ
import Derived.Test.YtcibdpbblleafaaGreatDoorSxR
namespace Go.Sx
open Go Go.RowKit Tree

noncomputable def fnOf (g : FuncId) : Func := (tcx.P.funcs[g]?).getD default
noncomputable def bodyOf (g : FuncId) : Code := (fnOf g).body.getD .skip

theorem fn_at {g : FuncId} (h : hasBody g = true) : tcx.P.funcs[g]? = some (fnOf g) ∧ (fnOf g).body = some (bodyOf g) := by
  obtain ⟨fn, c, h1, h2⟩ := hasBody_spec h
  have h3 : fnOf g = fn := by simp only [fnOf, h1]; rfl
  have h4 : bodyOf g = c := by simp only [bodyOf, h3, h2]; rfl
  rw [h3, h4]
  exact ⟨h1, h2⟩

/-- The state in which a body begins. -/
noncomputable def entry (g : FuncId) (xs : List Arg) : AS := { s0 xs with T := entryT (encArgs xs 0), nT := (fnOf g).ntmps }

theorem gives_of {l : List (FuncId × Summ)} {g : FuncId} {xs : List Arg} {rs : List Sig} {res : List Arg} (hb : hasBody g = true) (hlen : decide ((encArgs xs 0).length ≤ (fnOf g).ntmps) = true)
    (h : Goes (teng l) (bodyOf g) (entry g xs) (Fin (teng l) (fnOf g) rs res)) : Gives tcx g (encArgs xs 0) (s0 xs) rs res := by
  obtain ⟨h1, h2⟩ := fn_at hb
  refine Goes.gives (en := teng l) h1 h2 (of_decide_eq_true hlen) (Goes.mono h fun e s' ⟨k1, k2⟩ => ⟨k1, ?_⟩)
  unfold resOf at k2
  split at k2
  · rename_i sv hsv
    exact ⟨sv, hsv, k2⟩
  · cases k2

section
variable {α β γ δ : Type}
theorem summ1G {g : FuncId} {rs : List Sig} {A : Ty α} {f : α → List Bool × List Arg}
    (h : ∀ a, OkAs [A.arg a] → AllT (f a).1 → Gives tcx g (encArgs [A.arg a] 0) (s0 [A.arg a]) rs (f a).2) (hb : hasBody g = true) : SummOk tcx g (mkSumm [A.sig] (sp1 A f)) := by
  refine mkSummG_ok (rs := rs) (fun xs needs res hok hx hn => ?_) (hasBody_spec hb)
  unfold sp1 at hx
  split at hx <;> try (cases hx; done)
  split at hx <;> try (cases hx; done)
  rename_i a ha
  simp only [Option.some.injEq] at hx
  have e0 := Ty.from_spec ha
  subst e0
  have := h a hok (by rw [hx]; exact hn)
  rw [hx] at this
  exact this
theorem summ2G {g : FuncId} {rs : List Sig} {A : Ty α} {B : Ty β} {f : α → β → List Bool × List Arg}
    (h : ∀ a b, OkAs [A.arg a, B.arg b] → AllT (f a b).1 → Gives tcx g (encArgs [A.arg a, B.arg b] 0) (s0 [A.arg a, B.arg b]) rs (f a b).2) (hb : hasBody g = true) : SummOk tcx g (mkSumm [A.sig, B.sig] (sp2 A B f)) := by
  refine mkSummG_ok (rs := rs) (fun xs needs res hok hx hn => ?_) (hasBody_spec hb)
  unfold sp2 at hx
  split at hx <;> try (cases hx; done)
  split at hx <;> try (cases hx; done)
  rename_i a b ha hb'
  simp only [Option.some.injEq] at hx
  have e0 := Ty.from_spec ha
  have e1 := Ty.from_spec hb'
  subst e0 e1
  have := h a b hok (by rw [hx]; exact hn)
  rw [hx] at this
  exact this
theorem summ4G {g : FuncId} {rs : List Sig} {A : Ty α} {B : Ty β} {C : Ty γ} {D : Ty δ} {f : α → β → γ → δ → List Bool × List Arg}
    (h : ∀ a b c d, OkAs [A.arg a, B.arg b, C.arg c, D.arg d] → AllT (f a b c d).1 → Gives tcx g (encArgs [A.arg a, B.arg b, C.arg c, D.arg d] 0) (s0 [A.arg a, B.arg b, C.arg c, D.arg d]) rs (f a b c d).2) (hb : hasBody g = true) :
    SummOk tcx g (mkSumm [A.sig, B.sig, C.sig, D.sig] (sp4 A B C D f)) := by
  refine mkSummG_ok (rs := rs) (fun xs needs res hok hx hn => ?_) (hasBody_spec hb)
  unfold sp4 at hx
  split at hx <;> try (cases hx; done)
  split at hx <;> try (cases hx; done)
  rename_i a b c d ha hb' hc hd
  simp only [Option.some.injEq] at hx
  have e0 := Ty.from_spec ha
  have e1 := Ty.from_spec hb'
  have e2 := Ty.from_spec hc
  have e3 := Ty.from_spec hd
  subst e0 e1 e2 e3
  have := h a b c d hok (by rw [hx]; exact hn)
  rw [hx] at this
  exact this
end

/-! ### Steps until one traps -/
abbrev UR := Mach × Int × Trap × Int
def untilF : Nat → Mach → Int → Option UR
  | 0, _, _ => none
  | f + 1, m, n => bif decide (m.mem.length < 1000000) && decide (m.out.length < 1000000) then
      (bif (stepX m).2.cause != 0 then some ((stepX m).1, n, (stepX m).2, m.time) else untilF f (stepX m).1 (IntKind.i64.wrap (n + 1))) else none
def fuelU : Nat := 200
def untilX (m : Mach) : UR := (untilF fuelU m 0).getD (m, 0, ⟨0, 0⟩, 0)
def urArgs (r : UR) : List Arg := [tMach.arg r.1, (tInt .i64).arg r.2.1, tTrap.arg r.2.2.1, (tInt .u64).arg r.2.2.2]
def S19 : Summ := mkSumm [tMach.sig] (sp1 tMach fun m => ([(untilF fuelU m 0).isSome], urArgs (untilX m)))
def rs19 : List Sig := [tMach.sig, (tInt .i64).sig, tTrap.sig, (tInt .u64).sig]

def L19 : List (FuncId × Summ) := [(31, S31)]
theorem g19 (B : Base) : Good L19 := Good.nil.cons (o31 B) (mkSumm_loc _ _)
def Mach.zero : Mach := ⟨⟨Regs.zero, 0, ⟨0, 0, 0, 0, 0, 0, 0, 0, 0, 0, 0, 0⟩⟩, [], 0, [], false⟩
def Trap.zero : Trap := ⟨0, 0⟩
def K19 : CnK := ⟨[(6, .int .i64)], [(1, machKs), (2, machKs), (4, trapKs)]⟩
def cn19 (x : Mach × Int) : Cn := ⟨27, [(6, .int .i64 x.2)], [(1, 30, x.1.cds), (2, 30, Mach.zero.cds), (4, 56, Trap.zero.cds)]⟩
noncomputable def p19 (l : List Nat) : Code := sub (bodyOf 19) l
theorem b19 : bodyOf 19 = pieces [p19 [0], p19 [1, 0]] (.block 0 (.loop (p19 [1, 1, 0, 0]))) := by kernel_rfl
theorem t19a (m : Mach) : (sxL (teng L19) 100 [p19 [0], p19 [1, 0]] (entry 19 [tMach.arg m]) fun e s' => .leaf (e, K19.dec s')) = leaf (.normal, some (cn19 (m, 0))) := by kernel_rfl
def ob19 (m : Mach) (n : Int) : Tree Ob :=
  need (decide (m.mem.length < 1000000)) (need (decide (m.out.length < 1000000)) (br ((stepX m).2.cause != 0) (leaf (.ret (some (urArgs ((stepX m).1, n, (stepX m).2, m.time))))) (leaf (.go (some (cn19 ((stepX m).1, IntKind.i64.wrap (n + 1))))))))
theorem t19b (x : Mach × Int) : (sx (teng L19) 100 (p19 [1, 1, 0, 0]) (cn19 x).as fun e s' => .leaf (obsL (teng L19) K19 (fnOf 19) rs19 e s')) = ob19 x.1 x.2 := by kernel_rfl

theorem h19b (x : Nat × Mach × Int) (r : UR) (hx : untilF x.1 x.2.1 x.2.2 = some r) :
    Told (sx (teng L19) 100 (p19 [1, 1, 0, 0]) (cn19 x.2).as fun e s' => .leaf (obsL (teng L19) K19 (fnOf 19) rs19 e s')) fun o => match o with
      | .go c => ∃ x' : Nat × Mach × Int, untilF x'.1 x'.2.1 x'.2.2 = some r ∧ x'.1 < x.1 ∧ c = some (cn19 x'.2)
      | .out _ _ => False
      | .ret q => q = some (urArgs r) := ⟨by
  rw [t19b]
  obtain ⟨f, m, n⟩ := x
  cases f with
  | zero => cases hx
  | succ f =>
    simp only [untilF] at hx
    obtain ⟨hc, hx⟩ := cond_none hx
    simp only [Bool.and_eq_true] at hc
    refine ⟨hc.1, hc.2, fun h => ?_, fun h => ?_⟩
    · rw [h] at hx
      cases hx
      rfl
    · rw [h] at hx
      exact ⟨(f, (stepX m).1, IntKind.i64.wrap (n + 1)), hx, Nat.lt_succ_self f, rfl⟩⟩

theorem Told.rw {α : Type} {t u : Tree α} {p : α → Prop} (h : t = u) (k : u.Holds p) : Told t p := ⟨by rw [h]; exact k⟩

theorem v19 (B : Base) (m : Mach) (hn : AllT [(untilF fuelU m 0).isSome]) : Gives tcx 19 (encArgs [tMach.arg m] 0) (s0 [tMach.arg m]) rs19 (urArgs (untilX m)) := by
  have h0 := hn _ (List.mem_cons_self ..)
  obtain ⟨r, hr⟩ := Option.isSome_iff_exists.1 h0
  have hu : untilX m = r := by simp only [untilX, hr]; rfl
  rw [hu]
  refine gives_of (l := L19) (by kernel_rfl) (by kernel_rfl) ?_
  rw [b19]
  refine Goes.preK (teng_ok B (g19 B)) (teng_loc (g19 B)) (K := K19) (f := 100) (c := cn19 (m, 0)) (Told.rw (t19a m) rfl) ?_
  refine Goes.block (Goes.loopK (fun x : Nat × Mach × Int => cn19 x.2) (fun x => untilF x.1 x.2.1 x.2.2 = some r) (fun x => x.1) (K := K19) (fn := fnOf 19) (rs := rs19) (f := 100) (Out := fun _ _ => False) (Ret := fun q => q = some (urArgs r))
    (teng_ok B (g19 B)) (teng_loc (g19 B)) (fun x hx => h19b x r hx) (fun id s' h => h.elim) (fun s' h => ?_) (fuelU, m, 0) hr)
  exact ⟨fun id h => (by cases h), h⟩
theorem o19 (B : Base) : SummOk tcx 19 S19 := summ1G (fun m _ hn => v19 B m hn) (by kernel_rfl)
end Go.Sx
