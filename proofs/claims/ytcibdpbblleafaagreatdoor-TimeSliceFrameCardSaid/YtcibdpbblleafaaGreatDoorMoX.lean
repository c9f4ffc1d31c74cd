/-
  The fixed results that the law asks of the program ahead of all else; their summary.
  Conditions: none; the summary holds of the law's function.
-/
import Derived.Test.YtcibdpbblleafaaGreatDoorMoW
namespace Go.Sx
open Go Go.RowKit Tree

/-- A tree whose conditions are closed terms, evaluated. -/
def Tree.ev {α : Type} : Tree α → Option α
  | leaf a => some a
  | br c t e => bif c then t.ev else e.ev
  | need c t => bif c then t.ev else none
  | both _ _ => none
  | fail => none

section
variable {α : Type} {a : α}
theorem Tree.ev_holds (t : Tree α) (h : t.ev = some a) : t.Holds (· = a) := by
  induction t with
  | leaf x => simp only [Tree.ev, Option.some.injEq] at h; exact h
  | br c t e h1 h2 =>
    cases c with
    | true => exact ⟨fun _ => h1 h, fun k => (by cases k)⟩
    | false => exact ⟨fun k => (by cases k), fun _ => h2 h⟩
  | need c t h1 =>
    cases c with
    | true => exact ⟨rfl, h1 h⟩
    | false => cases h
  | both _ _ => cases h
  | fail => cases h
end

theorem Says.ev {t : Tree (Option (List Arg))} {r : Option (List Arg)} (h : t.ev = some r) : Says t (· = r) := ⟨Tree.ev_holds t h⟩

def L4 : List (FuncId × Summ) := [(6, S6), (7, S7), (12, S12)]
theorem g4 (B : Base) : Good L4 := ((Good.nil.cons (o12 B) (mkSumm_loc _ _)).cons (o7 B) (mkSumm_loc _ _)).cons (o6 B) (mkSumm_loc _ _)
theorem t4 : (rf L4 4 [] [tBool.sig]).ev = some (some [tBool.arg true]) := by kernel_rfl
def S4 : Summ := mkSumm [] (sp0 ([], [tBool.arg true]))
theorem h4 (_ : AllT []) : Says (rf L4 4 [] [tBool.sig]) (· = some [tBool.arg true]) := Says.ev t4
theorem o4 (B : Base) : SummOk tcx 4 S4 := summ0 B (g4 B) (f := ([], [tBool.arg true])) h4 (by kernel_rfl)
end Go.Sx
