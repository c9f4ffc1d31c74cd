/-
  A symbolic executor for the bodies of Go functions: its definitions alone. A value is symbolic in its integers and bools (plain Lean terms) and written out in its shape; the memory that the call itself makes is kept block by block.
  Conditions: none; nothing is claimed here.
-/
import Derived.Calls
namespace Go.Sx
open Go

/-- A symbolic value. 'n', 'kb': known integers and bools; 'i', 'b': any. -/
inductive SV where
  | n (k : IntKind) (v : Int)
  | i (k : IntKind) (v : Int)
  | kb (x : Bool)
  | b (x : Bool)
  | p (id off : Nat)
  | pi (id off stride cnt : Nat) (ix : Int)
  | pg (g off : Nat)
  | pgi (g off stride cnt : Nat) (ix : Int)
  | pr (r st off : Nat) (ix : Int)
  | r (r : Nat)
  | rf (r : Nat)
  | nsl
  | nf
  | f (fn : FuncId) (first caps : List SV)
  | sl (id len cap : Nat)
  | m (id : Nat)
  | a (cs : List SV)
  | t (vs : List SV)
  | u
  | xx
  deriving Inhabited

/-- A block of the call's own. -/
inductive Blk where
  | cells (ty : TypeId) (cs : List SV)
  | map (es : List (Int × SV))
  | iter (q : Nat) (seen : List Nat) (n : Nat)
  deriving Inhabited

structure Ev where
  kind : Int
  at_ : Int
  time : Int
  deriving Inhabited

/-- What a slice reads as. -/
inductive RowC where
  | bytes (l : List Int)
  | evs (l : List Ev)
  deriving Inhabited

structure RowE where
  c : RowC
  own : Bool
  deriving Inhabited

def upd {α : Type} (g : Nat → α) (k : Nat) (v : α) : Nat → α := fun j => bif Nat.beq j k then v else g j

structure AS where
  T : Nat → SV
  M : Nat → Option Blk
  R : Nat → Option RowE
  nM : Nat
  nR : Nat
  nT : Nat

def okDst (s : AS) : Option Tmp → Bool
  | some d => Nat.blt d s.nT
  | none => true

/-- What one operation does. -/
structure Eff where
  v : SV
  needs : List Bool
  rd : List Nat
  rdR : List Nat
  wr : List (Nat × Blk)
  nb : Option Blk
  nr : List RowE
  only : Option (Nat × RowE)

def Eff.pure (v : SV) : Eff := { v, needs := [], rd := [], rdR := [], wr := [], nb := none, nr := [], only := none }

def updL {α : Type} (g : Nat → Option α) (k : Nat) : List α → Nat → Option α
  | [] => g
  | v :: vs => updL (upd g k (some v)) (k + 1) vs

def updW (g : Nat → Option Blk) : List (Nat × Blk) → Nat → Option Blk
  | [] => g
  | (k, v) :: vs => updW (upd g k (some v)) vs

def putT (T : Nat → SV) (dst : Option Tmp) (v : SV) : Nat → SV :=
  match dst with
  | some d => upd T d v
  | none => T

def AS.put (s : AS) (dst : Option Tmp) (v : SV) : AS := { s with T := putT s.T dst v }

def Eff.appM (e : Eff) (M : Nat → Option Blk) (id : Nat) : Nat → Option Blk :=
  match e.nb with
  | some b => upd (updW M e.wr) id (some b)
  | none => updW M e.wr

def Eff.appR (e : Eff) (R : Nat → Option RowE) (rid : Nat) : Nat → Option RowE :=
  match e.only with
  | some (q, x) => updL (upd (fun _ => none) q (some x)) rid e.nr
  | none => updL R rid e.nr

/-- The state behind an operation; its new block has the number id, its new rows from rid on. -/
def AS.app (s : AS) (dst : Option Tmp) (e : Eff) (id rid : Nat) : AS :=
  { T := putT s.T dst e.v
    M := e.appM s.M id
    R := e.appR s.R rid
    nM := s.nM
    nR := s.nR
    nT := s.nT }

/-! ### Numbers -/
def inRb (k : IntKind) (v : Int) : Bool := decide (k.min ≤ v) && decide (v ≤ k.max)

def band (k : IntKind) (a b : Int) : Int := k.wrap (BitVec.ofInt k.bits a &&& BitVec.ofInt k.bits b).toNat
def bor (k : IntKind) (a b : Int) : Int := k.wrap (BitVec.ofInt k.bits a ||| BitVec.ofInt k.bits b).toNat
def bxor (k : IntKind) (a b : Int) : Int := k.wrap (BitVec.ofInt k.bits a ^^^ BitVec.ofInt k.bits b).toNat
def bandn (k : IntKind) (a b : Int) : Int := k.wrap (BitVec.ofInt k.bits a &&& ~~~ BitVec.ofInt k.bits b).toNat
def shlI (k : IntKind) (a b : Int) : Int := k.wrap (a * 2 ^ (min b.toNat k.bits))
def shrI (k : IntKind) (a b : Int) : Int := a.fdiv (2 ^ (min b.toNat k.bits))

def arith (op : BinOp) (k : IntKind) (a b : Int) : Option Int :=
  match op with
  | .add => some (k.wrap (a + b))
  | .sub => some (k.wrap (a - b))
  | .mul => some (k.wrap (a * b))
  | .and => some (band k a b)
  | .or => some (bor k a b)
  | .xor => some (bxor k a b)
  | .andNot => some (bandn k a b)
  | _ => none

def divs (op : BinOp) (k : IntKind) (a b : Int) : Option Int :=
  match op with
  | .quo => some (k.wrap (a.tdiv b))
  | .rem => some (a.tmod b)
  | _ => none

def shifts (op : BinOp) (k : IntKind) (a b : Int) : Option Int :=
  match op with
  | .shl => some (shlI k a b)
  | .shr => some (shrI k a b)
  | _ => none

def cmp (op : BinOp) (a b : Int) : Option Bool :=
  match op with
  | .eql => some (a == b)
  | .neq => some (a != b)
  | .lss => some (decide (a < b))
  | .leq => some (decide (a ≤ b))
  | .gtr => some (decide (a > b))
  | .geq => some (decide (a ≥ b))
  | _ => none

def pick (ix : Int) (xs : List Int) : Int := xs.getD ix.toNat 0
def pickB (ix : Int) (xs : List Bool) : Bool := xs.getD ix.toNat false
def upI (ix e : Int) (v old : Int) : Int := if ix = e then v else old
def evAt (l : List Ev) (ix : Int) : Ev := l.getD ix.toNat ⟨1, 0, 0⟩

def kindB (a b : IntKind) : Bool :=
  match a, b with
  | .i8, .i8 | .i16, .i16 | .i32, .i32 | .i64, .i64 | .u8, .u8 | .u16, .u16 | .u32, .u32 | .u64, .u64 => true
  | _, _ => false

/-- The integers of a list of cells, all of the kind k. -/
def intsOf (k : IntKind) : List SV → Option (List Int)
  | [] => some []
  | .n k' v :: l => bif kindB k k' then (match intsOf k l with | some vs => some (v :: vs) | none => none) else none
  | .i k' v :: l => bif kindB k k' then (match intsOf k l with | some vs => some (v :: vs) | none => none) else none
  | _ :: _ => none
def boolsOf : List SV → Option (List Bool)
  | [] => some []
  | .kb v :: l => (match boolsOf l with | some vs => some (v :: vs) | none => none)
  | .b v :: l => (match boolsOf l with | some vs => some (v :: vs) | none => none)
  | _ :: _ => none

/-- One cell out of several, by a number: all are integers of one kind, or bools. -/
def choice (ix : Int) (cs : List SV) : Option SV :=
  match cs with
  | .n k _ :: _ => (match intsOf k cs with | some l => some (.i k (pick ix l)) | none => none)
  | .i k _ :: _ => (match intsOf k cs with | some l => some (.i k (pick ix l)) | none => none)
  | .kb _ :: _ => (match boolsOf cs with | some l => some (.b (pickB ix l)) | none => none)
  | .b _ :: _ => (match boolsOf cs with | some l => some (.b (pickB ix l)) | none => none)
  | _ => none

/-- Every stride-th cell, cnt of them. -/
def column (cs : List SV) (off stride : Nat) : Nat → Option (List SV)
  | 0 => some []
  | c + 1 => match cs[off]? with
    | some v => (match column cs (off + stride) stride c with | some l => some (v :: l) | none => none)
    | none => none

def choices (ix : Int) (cs : List SV) (off stride cnt : Nat) : Nat → Option (List SV)
  | 0 => some []
  | n + 1 => match column cs off stride cnt with
    | some col => (match choice ix col with
      | some v => (match choices ix cs (off + 1) stride cnt n with | some l => some (v :: l) | none => none)
      | none => none)
    | none => none

/-! ### Lists of cells -/
def slice (cs : List SV) : Nat → Nat → Option (List SV)
  | _, 0 => some []
  | off, n + 1 => match cs[off]? with
    | some v => (match slice cs (off + 1) n with | some l => some (v :: l) | none => none)
    | none => none

/-- 'vs' written over 'cs' from place 'off' on; none: it does not fit. -/
def splice : List SV → Nat → List SV → Option (List SV)
  | cs, _, [] => some cs
  | [], _, _ :: _ => none
  | c :: cs, off + 1, vs => (match splice cs off vs with | some l => some (c :: l) | none => none)
  | _ :: cs, 0, v :: vs => (match splice cs 0 vs with | some l => some (v :: l) | none => none)

/-- One integer cell out of several, by a number, written. -/
def spread (ix : Int) (k : IntKind) (v : Int) : (cs : List SV) → (e : Int) → (stride left : Nat) → (cnt : Nat) → Option (List SV)
  | cs, _, _, _, 0 => some cs
  | [], _, _, _, _ + 1 => none
  | c :: cs, e, stride, left + 1, cnt + 1 => (match spread ix k v cs e stride left (cnt + 1) with | some l => some (c :: l) | none => none)
  | c :: cs, e, stride, 0, cnt + 1 =>
    match c with
    | .n k' o => bif kindB k k' then (match spread ix k v cs (e + 1) stride (stride - 1) cnt with | some l => some (.i k (upI ix e v o) :: l) | none => none) else none
    | .i k' o => bif kindB k k' then (match spread ix k v cs (e + 1) stride (stride - 1) cnt with | some l => some (.i k (upI ix e v o) :: l) | none => none) else none
    | _ => none

/-- The list's spine and its cells' heads, reckoned. -/
def forceL {α : Type} : List SV → (List SV → α) → α
  | [], k => k []
  | c :: cs, k => match c with
    | .n a b => forceL cs fun l => k (.n a b :: l)
    | .i a b => forceL cs fun l => k (.i a b :: l)
    | .kb a => forceL cs fun l => k (.kb a :: l)
    | .b a => forceL cs fun l => k (.b a :: l)
    | .p a b => forceL cs fun l => k (.p a b :: l)
    | .r a => forceL cs fun l => k (.r a :: l)
    | .nsl => forceL cs fun l => k (.nsl :: l)
    | c => forceL cs fun l => k (c :: l)

/-! ### Types -/
section
variable (P : Program)

def isAggT (t : TypeId) : Option Bool :=
  match P.underlying t with
  | some (.struct _) => some true
  | some (.array _ _) => some true
  | some _ => some false
  | none => none

def sizeT (t : TypeId) : Option Nat :=
  match P.info? t with
  | some i => some i.size
  | none => none

def fieldT (s : TypeId) (fd : Nat) : Option (Nat × TypeId) :=
  match P.underlying s with
  | some (.struct fields) => (match fields[fd]? with | some q => some (q.offset, q.type) | none => none)
  | _ => none

def constSV : Value → SV
  | .int k v => bif inRb k v then .n k v else .xx
  | .bool b => .kb b
  | .slice none 0 0 => .nsl
  | .nilFunc => .nf
  | _ => .xx

def zeroSV (t : TypeId) : Option (List SV) :=
  match P.info? t with
  | some i => (match i.zero with | some z => some (z.cells.toList.map constSV) | none => none)
  | none => none

def cellsSV : SV → Option (List SV)
  | .a cs => some cs
  | .xx => none
  | v => some [v]

def atomB : SV → Bool
  | .a _ | .t _ | .u | .xx => false
  | _ => true

/-- The parts of a struct or an array laid over its zero value. -/
def fillSV (place : Nat → Option (Nat × Nat)) (cells : List SV) : List (Nat × SV) → Option (List SV)
  | [] => some cells
  | (i, v) :: rest =>
    match place i with
    | none => none
    | some (off, size) => (match cellsSV v with
      | some l => bif Nat.beq l.length size && Nat.ble 1 size then
          (match splice cells off l with | some c => fillSV place c rest | none => none)
        else none
      | none => none)

def buildPlaces (t : TypeId) : Option (Nat → Option (Nat × Nat)) :=
  match P.underlying t with
  | some (.struct fields) => (match fields.toList.mapM (fun f => (P.info? f.type).map fun i => (f.offset, i.size)) with
    | some places => some (places.toArray[·]?)
    | none => none)
  | some (.array _ elem) => (match P.info? elem with
    | some j => some fun i => some (i * j.size, j.size)
    | none => none)
  | _ => none
end

/-! ### Operations -/
def opnd (T : Nat → SV) : Operand → SV
  | .tmp t => T t
  | .const v => constSV v
  | .global g => .pg g 0
  | .func f => .f f [] []

/-- What the whole engine is run against: the program, what its package variables hold, which types' values are compared cell by cell. -/
structure Cx where
  P : Program
  gl : Nat → Option (List SV)
  eqT : TypeId → Bool

/-- A callee by its summary: arguments, the blocks and rows at hand, the number of the first new row. -/
abbrev Summ := List SV → (Nat → Option Blk) → (Nat → Option RowE) → Nat → Option Eff

variable (cx : Cx)

def evLoad (s : AS) (t : TypeId) (addr : SV) : Option Eff :=
  match isAggT cx.P t, sizeT cx.P t with
  | some agg, some n =>
    let out (l : List SV) (rd rdR : List Nat) : Option Eff :=
      match agg with
      | true => some { Eff.pure (.a l) with rd, rdR }
      | false => (match l with | [v] => some { Eff.pure v with rd, rdR } | _ => none)
    match addr with
    | .p id off => (match s.M id with
      | some (.cells _ cs) => (match slice cs off n with | some l => forceL l fun l => out l [id] [] | none => none)
      | _ => none)
    | .pi id off stride cnt ix => (match s.M id with
      | some (.cells _ cs) => (match choices ix cs off stride cnt n with | some l => forceL l fun l => out l [id] [] | none => none)
      | _ => none)
    | .pg g off => (match cx.gl g with
      | some cs => (match slice cs off n with | some l => forceL l fun l => out l [] [] | none => none)
      | none => none)
    | .pgi g off stride cnt ix => (match cx.gl g with
      | some cs => (match choices ix cs off stride cnt n with | some l => forceL l fun l => out l [] [] | none => none)
      | none => none)
    | .pr r st off ix => (match s.R r with
      | some e => (match e.c, agg, off, n, st with
        | .bytes l, false, 0, 1, 1 => some { Eff.pure (.i .u8 (pick ix l)) with rdR := [r] }
        | .evs l, true, 0, 3, 3 => some { Eff.pure (.a [.i .i64 (evAt l ix).kind, .i .i64 (evAt l ix).at_, .i .u64 (evAt l ix).time]) with rdR := [r] }
        | .evs l, false, 0, 1, 3 => some { Eff.pure (.i .i64 (evAt l ix).kind) with rdR := [r] }
        | .evs l, false, 1, 1, 3 => some { Eff.pure (.i .i64 (evAt l ix).at_) with rdR := [r] }
        | .evs l, false, 2, 1, 3 => some { Eff.pure (.i .u64 (evAt l ix).time) with rdR := [r] }
        | _, _, _, _, _ => none)
      | none => none)
    | _ => none
  | _, _ => none

/-- Blocks with a smaller number are another's: read, never written. -/
abbrev foreign : Nat := 8

def evStore (s : AS) (t : TypeId) (addr val : SV) : Option Eff :=
  match sizeT cx.P t, cellsSV val with
  | some (n + 1), some ws =>
    bif Nat.beq ws.length (n + 1) && ws.all atomB then
      match addr with
      | .p id off => bif Nat.ble foreign id then (match s.M id with
        | some (.cells ty cs) => (match splice cs off ws with
          | some l => forceL l fun l => some { Eff.pure .u with rd := [id], wr := [(id, .cells ty l)] }
          | none => none)
        | _ => none) else none
      | .pi id off (stride + 1) cnt ix => bif Nat.ble foreign id then (match s.M id with
        | some (.cells ty cs) => (match ws with
          | [.n k v] => (match spread ix k v cs 0 (stride + 1) off cnt with
            | some l => forceL l fun l => some { Eff.pure .u with rd := [id], wr := [(id, .cells ty l)] }
            | none => none)
          | [.i k v] => (match spread ix k v cs 0 (stride + 1) off cnt with
            | some l => forceL l fun l => some { Eff.pure .u with rd := [id], wr := [(id, .cells ty l)] }
            | none => none)
          | _ => none)
        | _ => none) else none
      | .pr r 1 0 ix => (match s.R r with
        | some { c := .bytes l, own := true } => (match ws with
          | [.n .u8 v] => some { Eff.pure .u with rdR := [r], only := some (r, ⟨.bytes (l.set ix.toNat v), true⟩) }
          | [.i .u8 v] => some { Eff.pure .u with rdR := [r], only := some (r, ⟨.bytes (l.set ix.toNat v), true⟩) }
          | _ => none)
        | _ => none)
      | _ => none
    else none
  | _, _ => none

def evField (st : TypeId) (addr : SV) (fd : Nat) : Option Eff :=
  match fieldT cx.P st fd with
  | some (o, ft) => (match sizeT cx.P ft with
    | some (_ + 1) => (match addr with
      | .p id off => some (.pure (.p id (off + o)))
      | .pi id off stride cnt ix => some (.pure (.pi id (off + o) stride cnt ix))
      | .pg g off => some (.pure (.pg g (off + o)))
      | .pgi g off stride cnt ix => some (.pure (.pgi g (off + o) stride cnt ix))
      | .pr r st off ix => some (.pure (.pr r st (off + o) ix))
      | _ => none)
    | _ => none)
  | none => none

def RowC.len : RowC → Nat
  | .bytes l => l.length
  | .evs l => l.length

def RowC.width : RowC → Nat
  | .bytes _ => 1
  | .evs _ => 3

def rowIs (P : Program) (elem : TypeId) (c : RowC) : Bool :=
  match P.info? elem with
  | some i => Nat.beq i.size c.width && Nat.ble i.bytes 64 && (match i.zero with | some z => Nat.beq z.cells.size c.width | none => false)
  | none => false

def evIndexAddr (s : AS) (t : TypeId) (base ix : SV) : Option Eff :=
  match cx.P.underlying t with
  | some (.array len elem) => (match sizeT cx.P elem with
    | some (e + 1) => (match base, ix with
      | .p id off, .n _ v => bif decide (0 ≤ v) && decide (v < (len : Int)) then some (.pure (.p id (off + v.toNat * (e + 1)))) else none
      | .pg g off, .n _ v => bif decide (0 ≤ v) && decide (v < (len : Int)) then some (.pure (.pg g (off + v.toNat * (e + 1)))) else none
      | .p id off, .i _ v => some { Eff.pure (.pi id off (e + 1) len v) with needs := [decide (0 ≤ v), decide (v < (len : Int))] }
      | .pg g off, .i _ v => some { Eff.pure (.pgi g off (e + 1) len v) with needs := [decide (0 ≤ v), decide (v < (len : Int))] }
      | _, _ => none)
    | _ => none)
  | some (.slice elem) => (match sizeT cx.P elem with
    | some (e + 1) => (match base, ix with
      | .sl id len _, .n _ v => bif decide (0 ≤ v) && decide (v < (len : Int)) then some (.pure (.p id (v.toNat * (e + 1)))) else none
      | .r r, .n _ v => (match s.R r with
        | some x => bif rowIs cx.P elem x.c then some { Eff.pure (.pr r (e + 1) 0 v) with needs := [decide (0 ≤ v), decide (v < (x.c.len : Int))], rdR := [r] } else none
        | none => none)
      | .r r, .i _ v => (match s.R r with
        | some x => bif rowIs cx.P elem x.c then some { Eff.pure (.pr r (e + 1) 0 v) with needs := [decide (0 ≤ v), decide (v < (x.c.len : Int))], rdR := [r] } else none
        | none => none)
      | _, _ => none)
    | _ => none)
  | _ => none

def evIndex (t : TypeId) (base ix : SV) : Option Eff :=
  match cx.P.underlying t with
  | some (.array len elem) => (match isAggT cx.P elem, sizeT cx.P elem with
    | some false, some 1 => (match base, ix with
      | .a cs, .n _ v => bif decide (0 ≤ v) && decide (v < (len : Int)) then (match cs[v.toNat]? with | some c => some (.pure c) | none => none) else none
      | .a cs, .i _ v => bif Nat.beq cs.length len then (match choice v cs with
        | some c => some { Eff.pure c with needs := [decide (0 ≤ v), decide (v < (len : Int))] }
        | none => none) else none
      | _, _ => none)
    | _, _ => none)
  | _ => none

/-- Two lists of integer and bool cells, compared. -/
def eqCells : List SV → List SV → Option Bool
  | [], [] => some true
  | .n k a :: l, .n k' b :: m => bif kindB k k' then (match eqCells l m with | some r => some ((a == b) && r) | none => none) else none
  | .n k a :: l, .i k' b :: m => bif kindB k k' then (match eqCells l m with | some r => some ((a == b) && r) | none => none) else none
  | .i k a :: l, .n k' b :: m => bif kindB k k' then (match eqCells l m with | some r => some ((a == b) && r) | none => none) else none
  | .i k a :: l, .i k' b :: m => bif kindB k k' then (match eqCells l m with | some r => some ((a == b) && r) | none => none) else none
  | _, _ => none

def evInts (op : BinOp) (k : IntKind) (a b : Int) (mk : IntKind → Int → SV) (mb : Bool → SV) : Option Eff :=
  match cmp op a b with
  | some r => some (.pure (mb r))
  | none => (match arith op k a b with
    | some r => some (.pure (mk k r))
    | none => (match divs op k a b with
      | some r => some { Eff.pure (mk k r) with needs := [decide (b ≠ 0)] }
      | none => none))

def evBools (op : BinOp) (t : TypeId) (a b : Bool) (mb : Bool → SV) : Option Eff :=
  match cx.P.underlying t with
  | some .bool => (match op with
    | .eql => some (.pure (mb (a == b)))
    | .neq => some (.pure (mb (!(a == b))))
    | _ => none)
  | _ => none

def isShift : BinOp → Bool
  | .shl | .shr => true
  | _ => false

def evBin (op : BinOp) (t : TypeId) (x y : SV) : Option Eff :=
  match isShift op with
  | true => (match x, y with
    | .n k a, .n _ b => (match shifts op k a b with | some r => some { Eff.pure (.n k r) with needs := [decide (0 ≤ b)] } | none => none)
    | .n k a, .i _ b => (match shifts op k a b with | some r => some { Eff.pure (.i k r) with needs := [decide (0 ≤ b)] } | none => none)
    | .i k a, .n _ b => (match shifts op k a b with | some r => some { Eff.pure (.i k r) with needs := [decide (0 ≤ b)] } | none => none)
    | .i k a, .i _ b => (match shifts op k a b with | some r => some { Eff.pure (.i k r) with needs := [decide (0 ≤ b)] } | none => none)
    | _, _ => none)
  | false => (match x, y with
    | .n k a, .n k' b => bif kindB k k' then evInts op k a b .n .kb else none
    | .n k a, .i k' b => bif kindB k k' then evInts op k a b .i .b else none
    | .i k a, .n k' b => bif kindB k k' then evInts op k a b .i .b else none
    | .i k a, .i k' b => bif kindB k k' then evInts op k a b .i .b else none
    | .a xs, .a ys => bif cx.eqT t && (match sizeT cx.P t with | some n => Nat.beq xs.length n | none => false) then (match eqCells xs ys with
        | some r => (match op with | .eql => some (.pure (.b r)) | .neq => some (.pure (.b (!r))) | _ => none)
        | none => none) else none
    | .kb a, .kb b => evBools cx op t a b .kb
    | .kb a, .b b => evBools cx op t a b .b
    | .b a, .kb b => evBools cx op t a b .b
    | .b a, .b b => evBools cx op t a b .b
    | .f _ _ _, .nf => (match cx.P.underlying t with
      | some (.func _ _ _) => (match op with | .eql => some (.pure (.kb false)) | .neq => some (.pure (.kb true)) | _ => none)
      | _ => none)
    | .nf, .nf => (match cx.P.underlying t with
      | some (.func _ _ _) => (match op with | .eql => some (.pure (.kb true)) | .neq => some (.pure (.kb false)) | _ => none)
      | _ => none)
    | _, _ => none)

def evUn (op : UnOp) (x : SV) : Option Eff :=
  match op, x with
  | .not, .kb b => some (.pure (.kb (!b)))
  | .not, .b b => some (.pure (.b (!b)))
  | .neg, .n k v => some (.pure (.n k (k.wrap (0 - v))))
  | .neg, .i k v => some (.pure (.i k (k.wrap (0 - v))))
  | _, _ => none

def evConv (src dst : TypeId) (x : SV) : Option Eff :=
  match cx.P.underlying src, cx.P.underlying dst with
  | some _, some (.int k) => (match x with
    | .n _ v => some (.pure (.n k (k.wrap v)))
    | .i _ v => some (.pure (.i k (k.wrap v)))
    | _ => none)
  | _, _ => none

/-- What 'pick' may choose between: two integers of a kind, two bools. -/
def evPick (c a b : SV) : Option Eff :=
  match c with
  | .kb true => some (.pure a)
  | .kb false => some (.pure b)
  | .b q => (match a, b with
    | .kb x, .kb y => some (.pure (.b (bif q then x else y)))
    | .kb x, .b y => some (.pure (.b (bif q then x else y)))
    | .b x, .kb y => some (.pure (.b (bif q then x else y)))
    | .b x, .b y => some (.pure (.b (bif q then x else y)))
    | a, .u => some { Eff.pure a with needs := [q] }
    | .u, b => some { Eff.pure b with needs := [!q] }
    | _, _ => none)
  | _ => none

def optSV (T : Nat → SV) : Option Operand → Option SV
  | none => none
  | some x => some (opnd T x)

def evCut (s : AS) (r : Nat) (h : Int) : Option Eff :=
  match s.R r with
  | some { c := .bytes l, own := o } => some { Eff.pure (.r 0) with needs := [decide (0 ≤ h), decide (h ≤ (l.length : Int))], rdR := [r], nr := [⟨.bytes (l.take h.toNat), o⟩] }
  | some { c := .evs l, own := o } => some { Eff.pure (.r 0) with needs := [decide (0 ≤ h), decide (h ≤ (l.length : Int))], rdR := [r], nr := [⟨.evs (l.take h.toNat), o⟩] }
  | none => none

def evSlice (s : AS) (t : TypeId) (x : SV) (lo hi mx : Option SV) : Option Eff :=
  match cx.P.underlying t, lo with
  | some (.slice elem), none => (match sizeT cx.P elem with
    | some _ => (match x, hi, mx with
      | .nsl, some (.n _ h), none => bif h == 0 then some (.pure .nsl) else none
      | .r r, some (.n _ h), none => evCut s r h
      | .r r, some (.i _ h), none => evCut s r h
      | .r r, some (.i _ h), some (.i _ m) => (match s.R r with
        | some e => some { Eff.pure (.rf r) with needs := [decide (h = (e.c.len : Int)), decide (m = (e.c.len : Int))], rdR := [r] }
        | none => none)
      | _, _, _ => none)
    | none => none)
  | _, _ => none

def byteOf? : SV → Option Int
  | .n .u8 v => some v
  | .i .u8 v => some v
  | _ => none
def evOf? : List SV → Option Ev
  | [a, b, c] => (match intsOf .i64 [a, b], intsOf .u64 [c] with
    | some [x, y], some [z] => some ⟨x, y, z⟩
    | _, _ => none)
  | _ => none

/-- The built-ins: len; min, max of two; append of one element to a full row, of a row to an empty slice of the call's own. -/
def evBuiltin (s : AS) (bt : Builtin) (ats : List TypeId) (args : List SV) : Option Eff :=
  match bt, ats, args with
  | .len, [t], [x] => (match cx.P.underlying t with
    | some (.slice _) => (match x with
      | .sl _ n _ => bif Nat.ble n 1000000 then some (.pure (.n .i64 (n : Int))) else none
      | .nsl => some (.pure (.n .i64 0))
      | .r r => (match s.R r with | some e => some { Eff.pure (.i .i64 (e.c.len : Int)) with rdR := [r] } | none => none)
      | _ => none)
    | _ => none)
  | .min, _, [x, y] => (match x, y with
    | .i k a, .i k' b => bif kindB k k' then some (.pure (.i k (if b < a then b else a))) else none
    | .n k a, .i k' b => bif kindB k k' then some (.pure (.i k (if b < a then b else a))) else none
    | .i k a, .n k' b => bif kindB k k' then some (.pure (.i k (if b < a then b else a))) else none
    | .n k a, .n k' b => bif kindB k k' then some (.pure (.i k (if b < a then b else a))) else none
    | _, _ => none)
  | .max, _, [x, y] => (match x, y with
    | .i k a, .i k' b => bif kindB k k' then some (.pure (.i k (if b > a then b else a))) else none
    | .n k a, .i k' b => bif kindB k k' then some (.pure (.i k (if b > a then b else a))) else none
    | .i k a, .n k' b => bif kindB k k' then some (.pure (.i k (if b > a then b else a))) else none
    | .n k a, .n k' b => bif kindB k k' then some (.pure (.i k (if b > a then b else a))) else none
    | _, _ => none)
  | .append, [st, xt], [.rf r, .sl id 1 1] => (match cx.P.underlying st, cx.P.underlying xt, s.R r, s.M id with
    | some (.slice elem), some (.slice _), some { c := .bytes l, own := _ }, some (.cells _ [c]) =>
      bif rowIs cx.P elem (.bytes l) && Nat.beq st xt then (match byteOf? c with
        | some v => some { Eff.pure (.r 0) with needs := [decide (l.length < 1000000)], rd := [id], rdR := [r], nr := [⟨.bytes (l ++ [v]), true⟩] }
        | none => none) else none
    | some (.slice elem), some (.slice _), some { c := .evs l, own := _ }, some (.cells _ cs) =>
      bif rowIs cx.P elem (.evs l) && Nat.beq st xt then (match evOf? cs with
        | some v => some { Eff.pure (.r 0) with needs := [decide (l.length < 1000000)], rd := [id], rdR := [r], nr := [⟨.evs (l ++ [v]), true⟩] }
        | none => none) else none
    | _, _, _, _ => none)
  | .append, [st, xt], [.sl id 0 0, .r r] => (match cx.P.underlying st, cx.P.underlying xt, s.R r with
    | some (.slice elem), some (.slice _), some { c := .bytes l, own := _ } =>
      bif rowIs cx.P elem (.bytes l) && Nat.beq st xt then some { Eff.pure (.r 0) with needs := [decide (0 < l.length), decide (l.length < 1000000)], rd := [id], rdR := [r], nr := [⟨.bytes l, true⟩] } else none
    | _, _, _ => none)
  | .append, [st, xt], [.nsl, .i .i64 n] => (match cx.P.underlying st, cx.P.underlying xt with
    | some (.slice elem), some (.int _) => (match zeroSV cx.P elem with
      | some [.n .i64 0, .n .i64 0, .n .u64 0] => bif rowIs cx.P elem (.evs []) then some { Eff.pure (.r 0) with needs := [decide (0 < n), decide (n < 1000000)], nr := [⟨.evs (List.replicate n.toNat ⟨0, 0, 0⟩), true⟩] } else none
      | _ => none)
    | _, _ => none)
  | .append, [st, xt], [.r q, .r r] => (match cx.P.underlying st, cx.P.underlying xt, s.R q, s.R r with
    | some (.slice elem), some (.slice _), some { c := .evs l, own := true }, some { c := .evs m, own := _ } =>
      bif rowIs cx.P elem (.evs l) && Nat.beq st xt then some { Eff.pure (.r 0) with needs := [decide (l.length < 1000000), decide (m.length < 1000000)], rdR := [q, r], nr := [⟨.evs (l ++ m), true⟩], only := some (q, ⟨.evs l, true⟩) } else none
    | _, _, _, _ => none)
  | .append, [st, xt], [.r q, .sl id 1 1] => (match cx.P.underlying st, cx.P.underlying xt, s.R q, s.M id with
    | some (.slice elem), some (.slice _), some { c := .evs l, own := true }, some (.cells _ cs) =>
      bif rowIs cx.P elem (.evs l) && Nat.beq st xt then (match evOf? cs with
        | some v => some { Eff.pure (.r 0) with needs := [decide (l.length < 1000000)], rd := [id], rdR := [q], nr := [⟨.evs (l ++ [v]), true⟩], only := some (q, ⟨.evs l, true⟩) }
        | none => none) else none
    | _, _, _, _ => none)
  | .cap, [t], [.nsl] => (match cx.P.underlying t with
    | some (.slice _) => some (.pure (.n .i64 0))
    | _ => none)
  | _, _, _ => none

/-- A row that is not empty is not nil. -/
def evNil (s : AS) (t : TypeId) (r : Nat) : Option Eff :=
  match s.R r, cx.P.underlying t with
  | some e, some (.slice _) => some { Eff.pure (.kb false) with needs := [decide (0 < e.c.len)], rdR := [r] }
  | _, _ => none

def evBinR (s : AS) (op : BinOp) (t : TypeId) (x y : SV) : Option Eff :=
  match op, x, y with
  | .eql, .r r, .nsl => evNil cx s t r
  | op, x, y => evBin cx op t x y

/-- A part of a struct's value. -/
def evFieldV (t : TypeId) (x : SV) (fd : Nat) : Option Eff :=
  match fieldT cx.P t fd with
  | some (o, ft) => (match isAggT cx.P ft, sizeT cx.P ft, x with
    | some true, some n, .a cs => (match slice cs o n with | some l => forceL l fun l => some (.pure (.a l)) | none => none)
    | some false, some _, .a cs => (match cs[o]? with | some v => some (.pure v) | none => none)
    | _, _, _ => none)
  | none => none

def allKnown : List SV → Bool
  | [] => true
  | .xx :: _ => false
  | _ :: l => allKnown l

/-- Weaker: what is known of an integer or a bool is forgotten. -/
def weak : SV → SV
  | .n k v => .i k v
  | .kb b => .b b
  | .a cs => .a (cs.map fun c => match c with | .n k v => .i k v | .kb b => .b b | c => c)
  | v => v

/-- Which function a call goes to, and with what. -/
def target (f : SV) (args : List SV) : Option (FuncId × List SV) :=
  match f with
  | .f fn first caps => some (fn, first ++ args ++ caps)
  | _ => none

def elemPlace (size : Nat) : Nat → Option (Nat × Nat) := fun i => some (i * size, size)

def repL (l : List SV) : Nat → List SV
  | 0 => []
  | n + 1 => l ++ repL l n

/-- An operation that branches nowhere and enters no body: 'rid' is the number of its first new row, 'id' of its new block. -/
def evOp (summ : FuncId → Option Summ) (s : AS) (id rid : Nat) (o : Op) : Option Eff :=
  let ρ := opnd s.T
  match o with
  | .move x => some (.pure (ρ x))
  | .assign x => some (.pure (ρ x))
  | .pick c a b => evPick (ρ c) (ρ a) (ρ b)
  | .alloc t => (match zeroSV cx.P t with
    | some cs => forceL cs fun cs => some { Eff.pure (.p id 0) with nb := some (.cells t cs) }
    | none => none)
  | .box t x => (match cellsSV (ρ x) with
    | some cs => some { Eff.pure (.p id 0) with nb := some (.cells t cs) }
    | none => none)
  | .build t parts => (match zeroSV cx.P t, buildPlaces cx.P t with
    | some z, some place => (match fillSV place z (parts.toList.map fun q => (q.1, ρ q.2)) with
      | some cs => forceL cs fun cs => some (.pure (.a cs))
      | none => none)
    | _, _ => none)
  | .buildSlice t len parts => (match cx.P.underlying t with
    | some (.slice elem) => (match sizeT cx.P elem, zeroSV cx.P elem with
      | some n, some z => bif decide (len * n ≤ 1000) && Nat.beq z.length n && Nat.ble 1 n then
          (match fillSV (elemPlace n) (repL z len) (parts.toList.map fun q => (q.1, ρ q.2)) with
          | some cs => forceL cs fun cs => some { Eff.pure (.sl id len len) with nb := some (.cells elem cs) }
          | none => none)
        else none
      | _, _ => none)
    | _ => none)
  | .load t x => evLoad cx s t (ρ x)
  | .store t x v => evStore cx s t (ρ x) (ρ v)
  | .nilCheck x => (match ρ x with
    | .p id off => some (.pure (.p id off))
    | _ => none)
  | .binOp op t x y _ => evBinR cx s op t (ρ x) (ρ y)
  | .unOp op _ x => evUn op (ρ x)
  | .convert a b x => evConv cx a b (ρ x)
  | .makeFunc (.func f) first caps => some (.pure (.f f (first.toList.map ρ) (caps.toList.map ρ)))
  | .makeMap t none => (match cx.P.underlying t with
    | some (.map _ _) => some { Eff.pure (.m id) with nb := some (.map []) }
    | _ => none)
  | .makeSlice t l c => (match cx.P.underlying t with
    | some (.slice elem) => (match ρ l, ρ c, zeroSV cx.P elem with
      | .n .i64 a, .n .i64 b, some [.n .u8 0] => bif rowIs cx.P elem (.bytes []) && (decide (0 ≤ a) && decide (a ≤ 1000) && decide (a = b)) then
          some { Eff.pure (.r rid) with nr := [⟨.bytes (List.replicate a.toNat 0), true⟩] } else none
      | _, _, _ => none)
    | _ => none)
  | .insert t m k v => (match ρ m, ρ k, cx.P.underlying t with
    | .m q, .n .i64 kk, some (.map kt _) => (match s.M q, cx.P.underlying kt with
      | some (.map es), some (.int .i64) => bif (es.any fun e => e.1 == kk) || Nat.blt q foreign then none else
          some { Eff.pure .u with rd := [q], wr := [(q, .map (es ++ [(kk, ρ v)]))] }
      | _, _ => none)
    | _, _, _ => none)
  | .slice t x lo hi mx => (match evSlice cx s t (ρ x) (optSV s.T lo) (optSV s.T hi) (optSV s.T mx) with
    | some e => some { e with v := match e.v with | .r 0 => .r rid | v => v }
    | none => none)
  | .fieldAddr t x fd => evField cx t (ρ x) fd
  | .field t x fd => evFieldV cx t (ρ x) fd
  | .indexAddr t x ix => evIndexAddr cx s t (ρ x) (ρ ix)
  | .index t x ix => evIndex cx t (ρ x) (ρ ix)
  | .extract x q => (match ρ x with
    | .t vs => (match vs[q]? with | some v => some (.pure v) | none => none)
    | _ => none)
  | .call { callee := .builtin bt, args, argTypes } => (match evBuiltin cx s bt argTypes.toList (args.toList.map ρ) with
    | some e => some { e with v := match e.v with | .r 0 => .r rid | v => v }
    | none => none)
  | .call { callee := .value f, args, argTypes := _ } => (match target (ρ f) (args.toList.map ρ) with
    | some (g, xs) => (match summ g with
      | some S => S (xs.map weak) s.M s.R rid
      | none => none)
    | none => none)
  | _ => none
