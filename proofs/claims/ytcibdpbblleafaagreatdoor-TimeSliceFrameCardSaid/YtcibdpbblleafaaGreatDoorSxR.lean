/-
  A symbolic executor for the bodies of Go functions: a body cut into pieces.
  Conditions: none; lemmas that lead from pieces to bodies.
-/
import Derived.Test.YtcibdpbblleafaaGreatDoorSxQ
namespace Go.Sx
open Go Go.RowKit

/-- A part of a body, by the way to it. -/
def sub : Code → List Nat → Code
  | c, [] => c
  | .seq a _, 0 :: l => sub a l
  | .seq _ b, 1 :: l => sub b l
  | .block _ b, _ :: l => sub b l
  | .loop b, _ :: l => sub b l
  | .scope b, _ :: l => sub b l
  | .cond _ a _, 0 :: l => sub a l
  | .cond _ _ b, 1 :: l => sub b l
  | _, _ => .skip

/-- Some pieces, then another. -/
def pieces : List Code → Code → Code
  | [], d => d
  | c :: cs, d => .seq c (pieces cs d)

/-- A tree says of its leaves. -/
structure Told {α : Type} (t : Tree α) (p : α → Prop) : Prop where
  holds : t.Holds p

section
variable {en : Eng} {α : Type}

def sxL (en : Eng) (f : Nat) : List Code → AS → (Ex → AS → Tree α) → Tree α
  | [], s, k => k .normal s
  | c :: cs, s, k => sx en f c s fun e s' => match e with
    | .normal => sxL en f cs s' k
    | .exit id => k (.exit id) s'
    | .ret => k .ret s'

theorem Goes.pre {p : α → Prop} {obs : Ex → AS → α} {f : Nat} {d : Code} {post : Ex → AS → Prop} (hen : EngOk en) (hl : ∀ g S, en.summ g = some S → SummLoc S)
    (n : ∀ s', p (obs .normal s') → Goes en d s' post) (x : ∀ e s', e ≠ .normal → p (obs e s') → post e s') : ∀ (cs : List Code) (s : AS), (sxL en f cs s fun e s' => .leaf (obs e s')).Holds p → Goes en (pieces cs d) s post
  | [], s, h => n s h
  | c :: cs, s, h => fun W0 E a w hg hs => by
    refine wp_seq (sx_sound hen hl hg f c s _ E a w _ hs h fun e s' E' a' w' hle hs' hk => ?_)
    cases e with
    | normal =>
      refine wp_mono (Goes.pre hen hl n x cs s' hk W0 E' a' w' hg hs') ?_
      rintro e a2 w2 ⟨ex, s2, E2, h1, h2, h3, h4⟩
      exact ⟨ex, s2, E2, h1, hle.on.trans h2, h3, h4⟩
    | exit id => exact ⟨.exit id, s', E', rfl, hle.on, hs', x _ s' (by intro h; cases h) hk⟩
    | ret => exact ⟨.ret, s', E', rfl, hle.on, hs', x _ s' (by intro h; cases h) hk⟩

/-- Pieces that end where the next begins, the state written anew. -/
theorem Goes.preK {f : Nat} {d : Code} {post : Ex → AS → Prop} (hen : EngOk en) (hl : ∀ g S, en.summ g = some S → SummLoc S) {K : CnK} {c : Cn} {cs : List Code} {s : AS}
    (h : Told (sxL en f cs s fun e s' => .leaf (e, K.dec s')) (· = (.normal, some c))) (n : Goes en d c.as post) : Goes en (pieces cs d) s post :=
  Goes.pre (p := (· = (.normal, some c))) (obs := fun e s' => (e, K.dec s')) hen hl
    (fun s' h => by
      simp only [Prod.mk.injEq, true_and] at h
      exact Goes.turn (CnK.turns h) n)
    (fun e s' he h => by
      simp only [Prod.mk.injEq] at h
      exact absurd h.1 he) cs s h.holds

/-- What is looked at behind a piece: the state written anew, or the results. -/
inductive Ob where
  | go (c : Option Cn)
  | out (id : Nat) (c : Option Cn)
  | ret (r : Option (List Arg))

def resOf (en : Eng) (fn : Func) (rs : List Sig) (s : AS) : Option (List Arg) :=
  match resultSV en s fn with
  | some v => obsRes rs v s
  | none => none

def obsL (en : Eng) (K : CnK) (fn : Func) (rs : List Sig) : Ex → AS → Ob
  | .normal, s => .go (K.dec s)
  | .exit id, s => .out id (K.dec s)
  | .ret, s => .ret (resOf en fn rs s)

theorem Goes.told {K : CnK} {fn : Func} {rs : List Sig} {f : Nat} {c : Code} {s : AS} {p : Ob → Prop} {post : Ex → AS → Prop} (hen : EngOk en) (hl : ∀ g S, en.summ g = some S → SummLoc S) (h : Told (sx en f c s fun e s' => .leaf (obsL en K fn rs e s')) p)
    (k : ∀ e s', p (obsL en K fn rs e s') → post e s') : Goes en c s post := Goes.run hen hl h.holds k

/-- A loop over states written anew. -/
theorem Goes.loopK {X : Type} (cn : X → Cn) (I : X → Prop) (μ : X → Nat) {K : CnK} {fn : Func} {rs : List Sig} {f : Nat} {b : Code} {Out : Nat → Option Cn → Prop} {Ret : Option (List Arg) → Prop} {post : Ex → AS → Prop}
    (hen : EngOk en) (hl : ∀ g S, en.summ g = some S → SummLoc S)
    (body : ∀ x, I x → Told (sx en f b (cn x).as fun e s' => .leaf (obsL en K fn rs e s')) fun o => match o with
      | .go c => ∃ x', I x' ∧ μ x' < μ x ∧ c = some (cn x')
      | .out id c => Out id c
      | .ret r => Ret r)
    (ho : ∀ id s', Out id (K.dec s') → post (.exit id) s') (hr : ∀ s', Ret (resOf en fn rs s') → post .ret s') (x : X) (hx : I x) : Goes en (.loop b) (cn x).as post := by
  refine Goes.loop (fun x => (cn x).as) I μ (fun x hx => ?_) x hx
  refine Goes.told hen hl (body x hx) fun e s' h => ?_
  cases e with
  | normal =>
    obtain ⟨x', h1, h2, h3⟩ := h
    exact ⟨x', h1, h2, CnK.turns h3⟩
  | exit id => exact ho id s' h
  | ret => exact hr s' h
end


/-- One need, many times; a branch whose sides ask what it was. -/
def needG {α : Type} (c : Bool) : Nat → Tree α → Tree α
  | 0, t => t
  | n + 1, t => .need c (needG c n t)
theorem needG_ok {α : Type} {c : Bool} (hc : c = true) {p : α → Prop} {t : Tree α} (h : t.Holds p) : ∀ n, (needG c n t).Holds p
  | 0 => h
  | n + 1 => ⟨hc, needG_ok hc h n⟩
theorem need_ok {α : Type} {c : Bool} {p : α → Prop} {t : Tree α} (hc : c = true) (h : t.Holds p) : (Tree.need c t).Holds p := ⟨hc, h⟩
theorem br_ok {α : Type} {c : Bool} {p : α → Prop} {t e : Tree α} (h1 : c = true → t.Holds p) (h2 : c = false → e.Holds p) : (Tree.br c t e).Holds p := ⟨h1, h2⟩
def gT {α : Type} (c w : Bool) (n m : Nat) (t e : Tree α) : Tree α := .br c (needG ((c == w) == (true == w)) n t) (needG ((c == w) == (false == w)) m e)
theorem gT_ok {α : Type} {c w : Bool} {n m : Nat} {t e : Tree α} {p : α → Prop} (h1 : c = true → t.Holds p) (h2 : c = false → e.Holds p) : (gT c w n m t e).Holds p :=
  ⟨fun h => needG_ok (by rw [h]; simp) (h1 h) n, fun h => needG_ok (by rw [h]; simp) (h2 h) m⟩

/-! ### Ends of pieces -/
section
variable (en : Eng) (K : CnK) (fn : Func) (rs : List Sig)

/-- Behind a piece: the state is one of N, or the function has given results of Ret. -/
def Mid (N : Cn → Prop) (Ret : List Arg → Prop) : Ex → AS → Prop
  | .normal, s => ∃ c, K.dec s = some c ∧ N c
  | .exit _, _ => False
  | .ret, s => ∃ r, resOf en fn rs s = some r ∧ Ret r

/-- At a body's end. -/
def Fin (res : List Arg) (e : Ex) (s : AS) : Prop := (∀ id, e ≠ .exit id) ∧ resOf en fn rs s = some res

def obsR : Ex → AS → Option (List Arg)
  | .exit _, _ => none
  | .normal, s => resOf en fn rs s
  | .ret, s => resOf en fn rs s
end

def MidO (N : Cn → Prop) (Ret : List Arg → Prop) : Ob → Prop
  | .go c => ∃ c', c = some c' ∧ N c'
  | .out _ _ => False
  | .ret r => ∃ r', r = some r' ∧ Ret r'

/-- One round of a loop in the block 'id'. -/
def RoundO (id : Nat) (Go : Cn → Prop) (N : Cn → Prop) (Ret : List Arg → Prop) : Ob → Prop
  | .go c => ∃ c', c = some c' ∧ Go c'
  | .out j c => j = id ∧ ∃ c', c = some c' ∧ N c'
  | .ret r => ∃ r', r = some r' ∧ Ret r'

section
variable {en : Eng} {K : CnK} {fn : Func} {rs : List Sig} {f : Nat} {c d : Code} {s : AS} {N : Cn → Prop} {Ret : List Arg → Prop} {post : Ex → AS → Prop}

theorem Goes.midSeq (h : Goes en c s (Mid en K fn rs N Ret)) (n : ∀ c', N c' → Goes en d c'.as post) (r : ∀ s' x, resOf en fn rs s' = some x → Ret x → post .ret s') : Goes en (.seq c d) s post :=
  Goes.seq h (fun _ ⟨c', h1, h2⟩ => Goes.turn (CnK.turns h1) (n c' h2)) fun e s' he hm => by
    cases e with
    | normal => exact absurd rfl he
    | exit id => exact hm.elim
    | ret => obtain ⟨x, h1, h2⟩ := hm; exact r s' x h1 h2

theorem Goes.piecesM {cs : List Code} (hen : EngOk en) (hl : ∀ g S, en.summ g = some S → SummLoc S) (h : Told (sxL en f cs s fun e s' => .leaf (obsL en K fn rs e s')) (MidO N Ret)) (n : ∀ c', N c' → Goes en d c'.as post)
    (r : ∀ s' x, resOf en fn rs s' = some x → Ret x → post .ret s') : Goes en (pieces cs d) s post :=
  Goes.pre (p := MidO N Ret) (obs := fun e s' => obsL en K fn rs e s') hen hl (fun s' ⟨c', h1, h2⟩ => Goes.turn (CnK.turns h1) (n c' h2)) (fun e s' he hm => by
    cases e with
    | normal => exact absurd rfl he
    | exit id => exact hm.elim
    | ret => obtain ⟨x, h1, h2⟩ := hm; exact r s' x h1 h2) cs s h.holds

theorem Goes.mid (hen : EngOk en) (hl : ∀ g S, en.summ g = some S → SummLoc S) (h : Told (sx en f c s fun e s' => .leaf (obsL en K fn rs e s')) (MidO N Ret)) : Goes en c s (Mid en K fn rs N Ret) :=
  Goes.run hen hl h.holds fun e s' hm => by
    cases e with
    | normal => obtain ⟨c', h1, h2⟩ := hm; exact ⟨c', h1, h2⟩
    | exit id => exact hm.elim
    | ret => exact hm

theorem Goes.last {res : List Arg} (hen : EngOk en) (hl : ∀ g S, en.summ g = some S → SummLoc S) (h : Told (sx en f c s fun e s' => .leaf (obsR en fn rs e s')) (· = some res)) : Goes en c s (Fin en fn rs res) :=
  Goes.run hen hl h.holds fun e s' hm => by
    cases e with
    | normal => exact ⟨fun id h => (by cases h), hm⟩
    | exit id => cases hm
    | ret => exact ⟨fun id h => (by cases h), hm⟩

theorem Fin.ret {res x : List Arg} {s' : AS} (h : resOf en fn rs s' = some x) (hx : x = res) : Fin en fn rs res .ret s' := ⟨fun id h => (by cases h), by rw [h, hx]⟩

/-- A loop inside its block. -/
theorem Goes.blockLoop {X : Type} (cn : X → Cn) (I : X → Prop) (μ : X → Nat) {id : Nat} {b : Code} (hen : EngOk en) (hl : ∀ g S, en.summ g = some S → SummLoc S)
    (body : ∀ x, I x → Told (sx en f b (cn x).as fun e s' => .leaf (obsL en K fn rs e s')) (RoundO id (fun c => ∃ x', I x' ∧ μ x' < μ x ∧ c = cn x') N Ret)) (x : X) (hx : I x) :
    Goes en (.block id (.loop b)) (cn x).as (Mid en K fn rs N Ret) := by
  refine Goes.block (Goes.loop (fun x => (cn x).as) I μ (fun x hx => ?_) x hx)
  refine Goes.told hen hl (body x hx) fun e s' h => ?_
  cases e with
  | normal =>
    obtain ⟨c', h1, x', h2, h3, h4⟩ := h
    exact ⟨x', h2, h3, CnK.turns (by rw [h1, h4])⟩
  | exit j =>
    obtain ⟨h1, c', h2, h3⟩ := h
    exact ⟨fun _ => ⟨c', h2, h3⟩, fun hne => absurd h1 hne⟩
  | ret => exact h
end
end Go.Sx
