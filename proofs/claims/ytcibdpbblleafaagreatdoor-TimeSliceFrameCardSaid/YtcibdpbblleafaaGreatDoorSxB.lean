/-
  A symbolic executor for the bodies of Go functions: regions, tests, loops that end by themselves, calls.
  Conditions: none; nothing is claimed here.
-/
import Derived.Test.YtcibdpbblleafaaGreatDoorSxA
import Derived.Orders
namespace Go.Sx
open Go

inductive Tree (α : Type) where
  | leaf (a : α)
  | br (c : Bool) (t e : Tree α)
  | need (c : Bool) (t : Tree α)
  | both (t e : Tree α)
  | fail
  deriving Inhabited

inductive Ex where
  | normal
  | exit (id : Nat)
  | ret

def Tree.Holds {α : Type} (p : α → Prop) : Tree α → Prop
  | .leaf a => p a
  | .br c t e => (c = true → t.Holds p) ∧ (c = false → e.Holds p)
  | .need c t => c = true ∧ t.Holds p
  | .both t e => t.Holds p ∧ e.Holds p
  | .fail => False

def needsT {α : Type} : List Bool → Tree α → Tree α
  | [], t => t
  | b :: bs, t => .need b (needsT bs t)

/-- How many rows one operation may make. -/
abbrev rowsEach : Nat := 8

def AS.next (s : AS) (n : Nat) : AS := { s with nM := s.nM + n, nR := s.nR + rowsEach * n }

/-- The temporary that the guard of an operation reads. -/
def guardT (ops : Array Oper) (j : Nat) : Option Tmp :=
  match ops[j]? with
  | some o => o.dst
  | none => none

structure Eng where
  cx : Cx
  summ : FuncId → Option Summ
  inl : FuncId → Bool

section
variable (en : Eng) {α : Type}

/-- The zero value of a type of one cell. -/
def zero1 (P : Program) (t : TypeId) : Option SV :=
  match P.info? t with
  | some i => (match i.zero with
    | some (.agg _) => none
    | some z => some (constSV z)
    | none => none)
  | none => none

def lookTree (known : Bool) (n : Int) (zero : SV) (s : AS) (dst : Option Tmp) (k : AS → Tree α) : List (Int × SV) → Tree α
  | [] => k (s.put dst (.t [zero, .kb false]))
  | (key, v) :: rest => match known with
    | true => bif n == key then k (s.put dst (.t [v, .kb true])) else lookTree known n zero s dst k rest
    | false => .br (n == key) (k (s.put dst (.t [v, .kb true]))) (lookTree known n zero s dst k rest)

/-- The entries that an iterator has not handed out. -/
def freeOf (n : Nat) (seen : List Nat) : List Nat := (List.range n).filter fun j => !(seen.any fun q => Nat.beq q j)

/-- Entry number j handed out. -/
def AS.handed (s : AS) (dst : Option Tmp) (i q n : Nat) (seen : List Nat) (j : Nat) : AS :=
  AS.put { s with M := upd s.M i (some (.iter q (seen ++ [j]) n)) } dst (.t [.kb true, .xx, .xx])

def nextAll (s : AS) (dst : Option Tmp) (i q n : Nat) (seen : List Nat) (k : AS → Tree α) : List Nat → Tree α
  | [] => .fail
  | [j] => k (s.handed dst i q n seen j)
  | j :: js => .both (k (s.handed dst i q n seen j)) (nextAll s dst i q n seen k js)

/-- One operation of a region whose order is fixed. 'call': a body entered. -/
def exO (call : FuncId → List SV → AS → (SV → AS → Tree α) → Tree α) (o : Oper) (s : AS) (k : AS → Tree α) : Tree α :=
  let plain : Tree α := match evOp en.cx en.summ s s.nM s.nR o.op with
    | some e => bif decide (e.nr.length ≤ rowsEach) && okDst s o.dst then needsT e.needs (k ((s.app o.dst e s.nM s.nR).next 1)) else .fail
    | none => .fail
  match o.op with
  | .call { callee := .value f, args, argTypes := _ } => (match target (opnd s.T f) (args.toList.map (opnd s.T)) with
    | some (g, xs) => bif en.inl g && okDst s o.dst then call g xs s fun v s' => k (s'.put o.dst v) else plain
    | none => .fail)
  | .lookup t m ix true => (match en.cx.P.underlying t, opnd s.T m with
    | some (.map kt vt), .m q => (match en.cx.P.underlying kt, zero1 en.cx.P vt, s.M q with
      | some (.int .i64), some z, some (.map es) => bif okDst s o.dst then (match opnd s.T ix with
        | .n .i64 n => lookTree true n z s o.dst k es
        | .i .i64 n => lookTree false n z s o.dst k es
        | _ => .fail) else .fail
      | _, _, _ => .fail)
    | _, _ => .fail)
  | .range t x => (match en.cx.P.underlying t, opnd s.T x with
    | some (.map _ _), .m q => (match s.M q with
      | some (.map es) => bif okDst s o.dst then k ((s.app o.dst { Eff.pure (.p s.nM 0) with nb := some (.iter q [] es.length) } s.nM s.nR).next 1) else .fail
      | _ => .fail)
    | _, _ => .fail)
  | .next x false => (match opnd s.T x with
    | .p i 0 => (match s.M i with
      | some (.iter q seen n) => bif okDst s o.dst && Nat.ble foreign i then (match s.M q with
        | some (.map es) => bif Nat.beq es.length n then (match freeOf n seen with
          | [] => k (s.put o.dst (.t [.kb false]))
          | j :: js => nextAll s o.dst i q n seen k (j :: js)) else .fail
        | _ => .fail) else .fail
      | _ => .fail)
    | _ => .fail)
  | .entry x => (match opnd s.T x with
    | .p i 0 => (match s.M i with
      | some (.iter q seen n) => bif okDst s o.dst then (match s.M q, seen.getLast? with
        | some (.map es), some j => bif Nat.beq es.length n then (match es[j]? with
          | some (kk, v) => bif inRb .i64 kk then k (s.put o.dst (.t [.n .i64 kk, v])) else .fail
          | none => .fail) else .fail
        | _, _ => .fail) else .fail
      | _ => .fail)
    | _ => .fail)
  | _ => plain

/-- A bool of which it is known what it is. -/
def AS.know (s : AS) (g : Tmp) (b : Bool) : AS := { s with T := upd s.T g (.kb b) }

def known (g : Tmp) : List (Tmp × Bool) → Option Bool
  | [] => none
  | (h, b) :: l => bif Nat.beq h g then some b else known g l

/-- A region whose order is fixed. -/
def seqOps (call : FuncId → List SV → AS → (SV → AS → Tree α) → Tree α) (ops : Array Oper) : List Oper → AS → (AS → Tree α) → Tree α
  | [], s, k => k s
  | o :: rest, s, k =>
    let skip (s : AS) : AS := s.put o.dst .u
    match o.guard with
    | none => exO en call o s fun s => seqOps call ops rest s k
    | some (j, want) => bif okDst s o.dst then (match guardT ops j with
      | some g => (match s.T g with
        | .kb c => bif c == want then exO en call o s fun s => seqOps call ops rest s k else seqOps call ops rest (skip s) k
        | .b c => (match want with
          | true => .br c (exO en call o (s.know g true) fun s => seqOps call ops rest s k) (seqOps call ops rest (skip (s.know g false)) k)
          | false => .br c (seqOps call ops rest (skip (s.know g true)) k) (exO en call o (s.know g false) fun s => seqOps call ops rest s k))
        | .u => seqOps call ops rest (skip s) k
        | _ => .fail)
      | none => .fail) else .fail

/-- An operation of a region that draws, as it came up in the order of the text. -/
structure It where
  i : Nat
  flag : Bool
  e : Eff

def hits (a b : List Nat) : Bool := a.any fun x => b.any fun y => Nat.beq x y

def Eff.ws (e : Eff) (id : Nat) : List Nat := (match e.nb with | some _ => [id] | none => []) ++ e.wr.map (·.1)

/-- May 'x' (earlier in the text) and 'y' change places? -/
def indep (ops : Array Oper) (id0 rid0 : Nat) (x y : It) : Bool :=
  match ops[x.i]?, ops[y.i]? with
  | some ox, some oy =>
    Oper.apart ops ox oy &&
    !hits (x.e.ws (id0 + x.i)) (y.e.rd ++ y.e.ws (id0 + y.i)) && !hits (y.e.ws (id0 + y.i)) x.e.rd &&
    !(y.e.rdR.any fun q => decide (rid0 + rowsEach * x.i ≤ q) && decide (q < rid0 + rowsEach * x.i + rowsEach)) &&
    !(x.e.rdR.any fun q => decide (rid0 + rowsEach * y.i ≤ q) && decide (q < rid0 + rowsEach * y.i + rowsEach))
  | _, _ => false

def waits (o : Oper) (i : Nat) : Bool := o.after.any fun e => Region.binds .any e && Nat.beq e.on i

/-- It waits for one that waits for number i. -/
def waits2 (ops : Array Oper) (o : Oper) (i : Nat) : Bool :=
  o.after.any fun e => Region.binds .any e && (match ops[e.on]? with
    | some d => waits d i
    | none => false)

def okPair (ops : Array Oper) (id0 rid0 : Nat) (x y : It) : Bool :=
  indep ops id0 rid0 x y || (match ops[y.i]? with
    | some oy => waits oy x.i || waits2 ops oy x.i
    | none => false)

def okAll (ops : Array Oper) (id0 rid0 : Nat) : List It → Bool
  | [] => true
  | x :: rest => (rest.all fun y => okPair ops id0 rid0 x y) && okAll ops id0 rid0 rest

/-- Every edge that binds leads back in the text. -/
def backB (o : Oper) (i : Nat) : Bool := o.after.all fun e => !Region.binds .any e || Nat.blt e.on i

/-- The effect of an operation that runs, or does not. -/
def bodyEff (id0 rid0 : Nat) (s : AS) (i : Nat) (o : Oper) (flag : Bool) : Option Eff :=
  match flag with
  | true => (match evOp en.cx en.summ s (id0 + i) (rid0 + rowsEach * i) o.op with
    | some e => bif Nat.ble e.nr.length rowsEach && e.only.isNone then some e else none
    | none => none)
  | false => some (.pure .u)

/-- What operation number i does, its guard said to be 'flag': what the guard reads is asked for among the needs. -/
def drawEff (ops : Array Oper) (id0 rid0 : Nat) (s : AS) (i : Nat) (flag : Bool) : Option Eff :=
  match ops[i]? with
  | none => none
  | some o => bif okDst s o.dst && backB o i then
      (match o.guard with
      | none => (match flag with
        | true => bodyEff en id0 rid0 s i o true
        | false => none)
      | some (j, want) => (match guardT ops j with
        | some g => (match s.T g with
          | .kb c => bif (c == want) == flag then bodyEff en id0 rid0 s i o flag else none
          | .b c => (match bodyEff en id0 rid0 s i o flag with
            | some e => some { e with needs := ((c == want) == flag) :: e.needs }
            | none => none)
          | .u => (match flag with
            | true => none
            | false => bodyEff en id0 rid0 s i o false)
          | _ => none)
        | none => none))
    else none

/-- A region that draws its order, in the order of the text. -/
def drawOps (ops : Array Oper) (id0 rid0 : Nat) : List Nat → List (Tmp × Bool) → AS → List It → (AS → Tree α) → Tree α
  | [], _, s, acc, k => bif okAll ops id0 rid0 acc.reverse then k s else .fail
  | i :: rest, kn, s, acc, k =>
    let go (flag : Bool) (kn : List (Tmp × Bool)) : Tree α := match drawEff en ops id0 rid0 s i flag with
      | some e => needsT e.needs (drawOps ops id0 rid0 rest kn (s.app (guardT ops i) e (id0 + i) (rid0 + rowsEach * i)) (⟨i, flag, e⟩ :: acc) k)
      | none => .fail
    match ops[i]? with
    | none => .fail
    | some o => (match o.guard with
      | none => go true kn
      | some (j, want) => (match guardT ops j with
        | some g => (match s.T g with
          | .kb c => go (c == want) kn
          | .b c => (match known g kn with
            | some b => go (b == want) kn
            | none => (match want with
              | true => .br c (go true ((g, true) :: kn)) (go false ((g, false) :: kn))
              | false => .br c (go false ((g, true) :: kn)) (go true ((g, false) :: kn))))
          | .u => go false kn
          | _ => .fail)
        | none => .fail))

def entryT (xs : List SV) : Nat → SV := fun j => match xs[j]? with | some v => v | none => .u

def resultOf (s : AS) : ResultVar → Option SV
  | .tmp t => some (s.T t)
  | .cell t ty => (match evLoad en.cx s ty (s.T t) with
    | some e => some e.v
    | none => none)

def resultsOf (s : AS) : List ResultVar → Option (List SV)
  | [] => some []
  | r :: rs => (match resultOf en s r with
    | some v => (match resultsOf s rs with | some vs => some (v :: vs) | none => none)
    | none => none)

def resultSV (s : AS) (fn : Func) : Option SV :=
  match resultsOf en s fn.results.toList with
  | some [v] => some v
  | some vs => some (.t vs)
  | none => none

def rounds (run : AS → (Ex → AS → Tree α) → Tree α) : Nat → AS → (Ex → AS → Tree α) → Tree α
  | 0, _, _ => .fail
  | n + 1, s, k => run s fun e s' => match e with
    | .normal => rounds run n s' k
    | .exit id => k (.exit id) s'
    | .ret => k .ret s'

/-- A body run. -/
def sx : Nat → Code → AS → (Ex → AS → Tree α) → Tree α
  | 0, _, _, _ => .fail
  | f + 1, c, s, k =>
    match c with
    | .skip => k .normal s
    | .label _ => k .normal s
    | .ret => k .ret s
    | .exit id => k (.exit id) s
    | .seq a b => sx f a s fun e s' => match e with
      | .normal => sx f b s' k
      | .exit id => k (.exit id) s'
      | .ret => k .ret s'
    | .cond q a b => (match opnd s.T q with
      | .kb true => sx f a s k
      | .kb false => sx f b s k
      | .b x => .br x (sx f a s k) (sx f b s k)
      | _ => .fail)
    | .block id b => sx f b s fun e s' => match e with
      | .normal => k .normal s'
      | .exit j => bif Nat.beq j id then k .normal s' else k (.exit j) s'
      | .ret => k .ret s'
    | .loop b => rounds (sx f b) f s k
    | .region _ ops draw => (match draw with
      | false => seqOps en (fun g xs s k => match en.cx.P.funcs[g]? with
          | some fn => (match fn.body with
            | some c => bif decide (xs.length ≤ fn.ntmps) then sx f c { s with T := entryT xs, nT := fn.ntmps } fun e s' => (match e with
                | .exit _ => .fail
                | _ => (match resultSV en s' fn with | some v => k v { s' with T := s.T, nT := s.nT } | none => .fail)) else .fail
            | none => .fail)
          | none => .fail) ops ops.toList s (k .normal)
      | true => drawOps en ops s.nM s.nR (List.range ops.size) [] s [] fun s' => k .normal (s'.next ops.size))
    | _ => .fail

/-- A whole function: 'obs' says what is looked at in its result. -/
def runFn (fuel : Nat) (g : FuncId) (xs : List SV) (s : AS) (obs : SV → AS → α) : Tree α :=
  match en.cx.P.funcs[g]? with
  | some fn => (match fn.body with
    | some c => bif decide (xs.length ≤ fn.ntmps) then sx en fuel c { s with T := entryT xs, nT := fn.ntmps } fun e s' => (match e with
        | .exit _ => .fail
        | _ => (match resultSV en s' fn with | some v => .leaf (obs v s') | none => .fail)) else .fail
    | none => .fail)
  | none => .fail
end
end Go.Sx
