/-
  PE, the evaluator: what a Go function does to pure values, computed. Definitions alone: shapes, values, contents, operations, code.
-/
import Derived.Calls
import Derived.KernelRfl
set_option linter.unusedVariables false
namespace Go.PE

/-! ### Shapes and pure values -/
inductive Shape where
  | int (k : IntKind) | bool | str | list (s : Shape) | user (n : Nat)
  deriving DecidableEq, Inhabited

class UTypes where
  UT : Nat → Type

def El [UTypes] : Shape → Type
  | .int _ => Int
  | .bool => Bool
  | .str => List UInt8
  | .list s => List (El s)
  | .user n => UTypes.UT n

def Els [UTypes] : List Shape → Type
  | [] => Unit
  | s :: r => El s × Els r

/-- Deep data, as cells. -/
inductive D where
  | int (k : IntKind) (n : Int) | bool (b : Bool) | str (s : List UInt8) | list (n : Nat) (cells : List D)

class Univ extends UTypes where
  fields : Nat → List Shape
  out : (n : Nat) → UT n → Els (fields n)
  inn : (n : Nat) → Els (fields n) → UT n
  dft : (n : Nat) → UT n
  uD : (n : Nat) → UT n → List D
  userOf : TypeId → Option Nat

def size [Univ] : Shape → Nat
  | .user n => (Univ.fields n).length
  | _ => 1

def dflt [Univ] : (s : Shape) → El s
  | .int _ => (0 : Int)
  | .bool => false
  | .str => ([] : List UInt8)
  | .list s => ([] : List (El s))
  | .user n => Univ.dft n

def toD [Univ] : (s : Shape) → El s → List D
  | .int k, x => [.int k x]
  | .bool, x => [.bool x]
  | .str, x => [.str x]
  | .list s, x => [.list (List.length x) (List.flatMap (toD s) x)]
  | .user n, x => Univ.uD n x

/-! ### Symbolic values -/
inductive V [UTypes] where
  | undef
  | int (k : IntKind) (n : Int)
  | bool (b : Bool)
  | str (s : List UInt8)
  | nil
  | lst (s : Shape) (xs : List (El s)) (fl : Nat)
  | arr (s : Shape) (xs : List (El s))
  | row (id : Nat)
  | agg (cs : List V)
  | tuple (vs : List V)
  | ptr (id off : Nat)
  | eptr (id sz : Nat) (i : Int) (off : Nat)
  | pptr (cells : List V) (off : Nat)
  | nilptr
  | fn (f : Nat) (first caps : List V)
  | nilfn
  | map (id : Nat)
  | nilmap
  | iface (t : Nat) (v : V)
  | niface
  | err (b : Bool)
  | tb (tag : Nat) (c : Bool)
  | cnd (tag : Nat) (c w : Bool) (v : V)

/-- What a block of the call's own holds. -/
inductive C [UTypes] where
  | box (cells : List V)
  | row (s : Shape) (xs : List (El s)) (fz : Nat)
  | arr (s : Shape) (xs : List (El s))
  | tmap (k v : Shape) (es : List (El k × El v))
  | siter (s : List UInt8) (pos : Nat)
  | miter (m since : Nat) (seen : Array Nat) (last : Nat)
  | dead

/-! ### Lists with numbers -/
def get {α : Type} : List (Nat × α) → Nat → Option α
  | [], _ => none
  | (k, v) :: r, n => bif Nat.beq k n then some v else get r n

def getV [UTypes] (l : List (Nat × V)) (n : Nat) : V :=
  match get l n with
  | some v => v
  | none => .undef

/-! ### Cells -/
def leafV [UTypes] : (s : Shape) → El s → V
  | .int k, x => .int k x
  | .bool, x => .bool x
  | .str, x => .str x
  | .list s, x => .lst s x 0
  | .user _, _ => .undef

def leavesV [UTypes] : (ss : List Shape) → Els ss → List V
  | [], _ => []
  | s :: r, x => leafV s x.1 :: leavesV r x.2

def explode [Univ] : (s : Shape) → El s → List V
  | .int k, x => [.int k x]
  | .bool, x => [.bool x]
  | .str, x => [.str x]
  | .list s, x => [.lst s x 0]
  | .user n, x => leavesV (Univ.fields n) (Univ.out n x)

def isUser : Shape → Bool
  | .user _ => true
  | _ => false

/-- An element as one value. -/
def elV [Univ] : (s : Shape) → El s → V
  | .user n, x => .agg (leavesV (Univ.fields n) (Univ.out n x))
  | .int k, x => .int k x
  | .bool, x => .bool x
  | .str, x => .str x
  | .list s, x => .lst s x 0

def cellsOf [UTypes] : V → List V
  | .agg cs => cs
  | v => [v]

def castL [UTypes] (s s' : Shape) (xs : List (El s')) : Option (List (El s)) :=
  if h : s' = s then some (h ▸ xs) else none

def IntKind.code : IntKind → Nat
  | .i8 => 0 | .i16 => 1 | .i32 => 2 | .i64 => 3 | .u8 => 4 | .u16 => 5 | .u32 => 6 | .u64 => 7

def kindEq (a b : IntKind) : Bool := Nat.beq (IntKind.code a) (IntKind.code b)

/-- The pure list behind a slice value. -/
def listOf [UTypes] (hp : Nat → Option C) (s : Shape) : V → Option (List (El s))
  | .nil => some []
  | .lst s' xs _ => castL s s' xs
  | .row id => match hp id with
    | some (.row s' xs 2) => castL s s' xs
    | _ => none
  | _ => none

def inLeaf [UTypes] (hp : Nat → Option C) : (s : Shape) → V → Option (El s)
  | .int k, v => match v with
    | .int k' n => bif kindEq k' k then some n else none
    | _ => none
  | .bool, v => match v with
    | .bool b => some b
    | _ => none
  | .str, v => match v with
    | .str b => some b
    | _ => none
  | .list s, v => listOf hp s v
  | .user _, _ => none

def inLeaves [UTypes] (hp : Nat → Option C) : (ss : List Shape) → List V → Option (Els ss)
  | [], [] => some ()
  | s :: r, v :: vs => match inLeaf hp s v with
    | some x => match inLeaves hp r vs with
      | some y => some (x, y)
      | none => none
    | none => none
  | _, _ => none

def implode [Univ] (hp : Nat → Option C) : (s : Shape) → List V → Option (El s)
  | .user n, vs => match inLeaves hp (Univ.fields n) vs with
    | some x => some (Univ.inn n x)
    | none => none
  | .int k, vs => match vs with
    | [v] => inLeaf hp (.int k) v
    | _ => none
  | .bool, vs => match vs with
    | [v] => inLeaf hp .bool v
    | _ => none
  | .str, vs => match vs with
    | [v] => inLeaf hp .str v
    | _ => none
  | .list s, vs => match vs with
    | [v] => listOf hp s v
    | _ => none

/-- As it is handed to a callee that only reads. -/
def pureV [UTypes] (hp : Nat → Option C) : V → Option V
  | .row id => match hp id with
    | some (.row s xs 2) => some (.lst s xs 0)
    | _ => none
  | v => some v

def pureVs [UTypes] (hp : Nat → Option C) : List V → Option (List V)
  | [] => some []
  | v :: r => match pureV hp v with
    | some x => match pureVs hp r with
      | some y => some (x :: y)
      | none => none
    | none => none

def pureA [UTypes] (hp : Nat → Option C) : V → Option V
  | .agg cs => match pureVs hp cs with
    | some x => some (.agg x)
    | none => none
  | v => pureV hp v

def takeN {α : Type} (l : List α) (off n : Nat) : List α := (l.drop off).take n

def putN {α : Type} : List α → Nat → List α → List α
  | l, 0, [] => l
  | [], _, _ => []
  | _ :: l, 0, y :: ys => y :: putN l 0 ys
  | x :: l, n + 1, ys => x :: putN l n ys

/-- A part of a code. -/
def sub : Code → List Nat → Code
  | c, [] => c
  | .seq a _, 0 :: p => sub a p
  | .seq _ b, _ :: p => sub b p
  | .cond _ a _, 0 :: p => sub a p
  | .cond _ _ b, _ :: p => sub b p
  | .block _ a, _ :: p => sub a p
  | .loop a, _ :: p => sub a p
  | .scope a, _ :: p => sub a p
  | c, _ => c

/-! ### Types -/
def und (P : Program) (t : TypeId) : TypeDesc :=
  match P.underlying t with
  | some d => d
  | none => .invalid

def isAggD : TypeDesc → Bool
  | .struct _ => true
  | .array _ _ => true
  | _ => false

def shp [Univ] (P : Program) : Nat → TypeId → Option Shape
  | 0, _ => none
  | n + 1, t =>
    match und P t with
    | .int k => some (.int k)
    | .bool => some .bool
    | .string => some .str
    | .slice e => match shp P n e with
      | some s => some (.list s)
      | none => none
    | .struct _ => match Univ.userOf t with
      | some u => some (.user u)
      | none => none
    | _ => none

def constV [UTypes] : Value → V
  | .bool b => .bool b
  | .int k n => .int k n
  | .string s => .str s.data.toList
  | .pointer none => .nilptr
  | .slice none 0 0 => .nil
  | .map none => .nilmap
  | .nilFunc => .nilfn
  | .nilIface => .niface
  | _ => .undef

def zeroCells [UTypes] (P : Program) (t : TypeId) : Option (List V) :=
  match P.info? t with
  | some i => match i.zero with
    | some z => some (z.cells.toList.map constV)
    | none => none
  | none => none


/-! ### What is computed -/
def keep {α : Type} (x : α) : α := x
def wr8 (b : UInt8) : Int := (b.toNat : Int)
def rd8 (n : Int) : UInt8 := UInt8.ofNat n.toNat
def bytesOf (s : List UInt8) : List Int := s.map wr8
def strOf (xs : List Int) : List UInt8 := xs.map rd8
def bt (s : List UInt8) (i : Int) : Int := ((s.getD i.toNat 0).toNat : Int)
abbrev fits (n : Nat) : Prop := n ≤ 140737488355328
def sdec (s : List UInt8) (pos : Nat) : Nat × Nat := Utf8.decode ⟨s.toArray⟩ pos
def rd {α : Type} (d : α) (xs : List α) (i : Int) : α := xs.getD i.toNat d
def rdE [Univ] (s : Shape) (xs : List (El s)) (i : Int) : El s := xs.getD i.toNat (dflt s)
abbrev nn (b : Int) : Prop := 0 ≤ b
abbrev nz (b : Int) : Prop := b ≠ 0
abbrev cLo (l : Int) (n : Nat) : Prop := 0 ≤ l ∧ l ≤ (n : Int)
abbrev cLH (l h : Int) (n : Nat) : Prop := 0 ≤ l ∧ l ≤ h ∧ h ≤ (n : Int)
abbrev cMk (l c : Int) (b : Nat) : Prop := 0 ≤ l ∧ l ≤ c ∧ c * (b : Int) ≤ 140737488355328 ∧ c ≤ 140737488355328
abbrev within (i : Int) (n : Nat) : Prop := 0 ≤ i ∧ i < (n : Int)
def bitop (k : IntKind) (f : BitVec k.bits → BitVec k.bits → BitVec k.bits) (a b : Int) : Int :=
  k.wrap ((f (BitVec.ofInt k.bits a) (BitVec.ofInt k.bits b)).toNat : Int)
def iand (k : IntKind) (a b : Int) : Int := bitop k (fun x y => x &&& y) a b
def ior (k : IntKind) (a b : Int) : Int := bitop k (fun x y => x ||| y) a b
def ixor (k : IntKind) (a b : Int) : Int := bitop k (fun x y => x ^^^ y) a b
def iandn (k : IntKind) (a b : Int) : Int := bitop k (fun x y => x &&& ~~~y) a b
def shl (k : IntKind) (a b : Int) : Int := k.wrap (a * 2 ^ (min b.toNat k.bits))
def w_i8 (n : Int) : Int := IntKind.i8.wrap n
def w_i16 (n : Int) : Int := IntKind.i16.wrap n
def w_i32 (n : Int) : Int := IntKind.i32.wrap n
def w_i64 (n : Int) : Int := IntKind.i64.wrap n
def w_u8 (n : Int) : Int := IntKind.u8.wrap n
def w_u16 (n : Int) : Int := IntKind.u16.wrap n
def w_u32 (n : Int) : Int := IntKind.u32.wrap n
def w_u64 (n : Int) : Int := IntKind.u64.wrap n
def shr (k : IntKind) (a b : Int) : Int := a.fdiv (2 ^ (min b.toNat k.bits))

def elEq [UTypes] : (s : Shape) → El s → El s → Bool
  | .int _, a, b => @BEq.beq Int _ a b
  | .bool, a, b => @BEq.beq Bool _ a b
  | .str, a, b => @BEq.beq (List UInt8) _ a b
  | .list _, _, _ => false
  | .user _, _, _ => false

def keyShape : Shape → Bool
  | .int _ => true
  | .bool => true
  | .str => true
  | _ => false

def alk {α β : Type} (p : α → Bool) : List (α × β) → Option β
  | [] => none
  | (a, b) :: r => bif p a then some b else alk p r

def ast {α β : Type} (p : α → Bool) (x : α) (y : β) : List (α × β) → List (α × β)
  | [] => [(x, y)]
  | (a, b) :: r => bif p a then (a, y) :: r else (a, b) :: ast p x y r

def alook [UTypes] (k v : Shape) (x : El k) (es : List (El k × El v)) : Option (El v) := alk (elEq k x) es

def aset [UTypes] (k v : Shape) (x : El k) (y : El v) (es : List (El k × El v)) : List (El k × El v) := ast (elEq k x) x y es

/-! ### One operation -/
inductive Dir [UTypes] where
  | yes | no
  | lst | row
  | call (keep : List Nat) (shs : List (Option Shape)) (res : V) (outs news : List C)

structure Eff [UTypes] where
  v : V
  upd : List (Nat × C)
  conds : List Prop

section
variable [Univ] (P : Program) (SP : Nat → List V → List C → V → List C → List C → Prop)

def ok1 (v : V) : Option Eff := some ⟨v, [], []⟩

def opInt (op : BinOp) (k : IntKind) (a b : Int) : Option Eff :=
  match op with
  | .add => ok1 (.int k (k.wrap (a + b)))
  | .sub => ok1 (.int k (k.wrap (a - b)))
  | .mul => ok1 (.int k (k.wrap (a * b)))
  | .quo => some ⟨.int k (k.wrap (a.tdiv b)), [], [nz b]⟩
  | .rem => some ⟨.int k (a.tmod b), [], [nz b]⟩
  | .and => ok1 (.int k (iand k a b))
  | .or => ok1 (.int k (ior k a b))
  | .xor => ok1 (.int k (ixor k a b))
  | .andNot => ok1 (.int k (iandn k a b))
  | .eql => ok1 (.bool (a == b))
  | .neq => ok1 (.bool (a != b))
  | .lss => ok1 (.bool (decide (a < b)))
  | .leq => ok1 (.bool (decide (a ≤ b)))
  | .gtr => ok1 (.bool (decide (a > b)))
  | .geq => ok1 (.bool (decide (a ≥ b)))
  | _ => none

def opStr (op : BinOp) (a b : List UInt8) : Option Eff :=
  match op with
  | .add => some ⟨.str (a ++ b), [], [fits (a.length + b.length)]⟩
  | .eql => ok1 (.bool (a == b))
  | .neq => ok1 (.bool !(a == b))
  | .lss => ok1 (.bool (Op.bytesLess a b))
  | .leq => ok1 (.bool (Op.bytesLess a b || (a == b)))
  | .gtr => ok1 (.bool !(Op.bytesLess a b || (a == b)))
  | .geq => ok1 (.bool !(Op.bytesLess a b))
  | _ => none

def isConst : Operand → Bool
  | .const _ => true
  | _ => false

/-- '==' of cells, one after the other. -/
def cellsEq : List V → List V → Option Bool
  | [], [] => some true
  | .int k a :: r, .int k' b :: q => bif kindEq k k' then (match cellsEq r q with | some x => some ((a == b) && x) | none => none) else none
  | .bool a :: r, .bool b :: q => match cellsEq r q with | some x => some ((a == b) && x) | none => none
  | .str a :: r, .str b :: q => match cellsEq r q with | some x => some ((a == b) && x) | none => none
  | _, _ => none

/-- Fields of numbers, bools and strings, none of them nameless, one cell after the other. -/
def plainFields : Nat → List Field → List V → Bool
  | _, [], [] => true
  | k, f :: r, a :: q => Nat.beq f.offset k && f.name != "_" && (match und P f.type, a with | .int _, .int _ _ => true | .bool, .bool _ => true | .string, .str _ => true | _, _ => false) && plainFields (k + 1) r q
  | _, _, _ => false

def plainStruct (t : TypeId) (cs : List V) : Bool :=
  !(P.stoodInHeld t) && match und P t with
  | .struct fs => plainFields P 0 fs.toList cs
  | _ => false

def opBin (op : BinOp) (t : TypeId) (x y : Operand) (a b : V) : Option Eff :=
  match a, b with
  | .int k a, .int k' b =>
    match op with
    | .shl => some ⟨.int k (shl k a b), [], [nn b]⟩
    | .shr => some ⟨.int k (shr k a b), [], [nn b]⟩
    | op => bif kindEq k k' then opInt op k a b else none
  | .str a, .str b => opStr op a b
  | .bool a, .bool b => match und P t, op with
    | .bool, .eql => ok1 (.bool (a == b))
    | .bool, .neq => ok1 (.bool !(a == b))
    | _, _ => none
  | .agg a, .agg b => bif plainStruct P t a then match op, cellsEq a b with
    | .eql, some x => ok1 (.bool x)
    | .neq, some x => ok1 (.bool !x)
    | _, _ => none else none
  | .lst _ _ 2, .nil => match und P t, op with
    | .slice _, .eql => ok1 (.bool false)
    | .slice _, .neq => ok1 (.bool true)
    | _, _ => none
  | .nil, .nil => match und P t, op with
    | .slice _, .eql => ok1 (.bool true)
    | .slice _, .neq => ok1 (.bool false)
    | _, _ => none
  | .niface, .niface => bif isConst x || isConst y then match und P t, op with
    | .interface _, .eql => ok1 (.bool true)
    | .interface _, .neq => ok1 (.bool false)
    | _, _ => none else none
  | .niface, .err b => bif isConst x then match und P t, op with
    | .interface _, .eql => ok1 (.bool !b)
    | .interface _, .neq => ok1 (.bool b)
    | _, _ => none else none
  | .err b, .niface => bif isConst y then match und P t, op with
    | .interface _, .eql => ok1 (.bool !b)
    | .interface _, .neq => ok1 (.bool b)
    | _, _ => none else none
  | .niface, .iface _ _ => match und P t, op with
    | .interface _, .eql => ok1 (.bool false)
    | .interface _, .neq => ok1 (.bool true)
    | _, _ => none
  | .iface _ _, .niface => match und P t, op with
    | .interface _, .eql => ok1 (.bool false)
    | .interface _, .neq => ok1 (.bool true)
    | _, _ => none
  | _, _ => none

def opUn (op : UnOp) (x : V) : Option Eff :=
  match op, x with
  | .neg, .int k n => ok1 (.int k (k.wrap (0 - n)))
  | .xor, .int k n => ok1 (.int k (ixor k (if k.signed then -1 else k.max) n))
  | .not, .bool b => ok1 (.bool !b)
  | _, _ => none

/-- A slice that the operation has made: handed on as pure, or kept as a row. -/
def made (nid : Nat) (dir : Option Dir) (s : Shape) (xs : List (El s)) (fz : Nat) (upd : List (Nat × C)) (conds : List Prop) : Option Eff :=
  match dir with
  | some .lst => some ⟨.lst s xs 0, (nid, .dead) :: upd, conds⟩
  | _ => some ⟨.row nid, (nid, .row s xs fz) :: upd, conds⟩

def opConv (hp : Nat → Option C) (nid : Nat) (dir : Option Dir) (src dst : TypeId) (x : V) : Option Eff :=
  match und P src, und P dst, x with
  | .invalid, _, _ => none
  | _, .int k, .int _ n => ok1 (.int k (k.wrap n))
  | _, .string, .str s => ok1 (.str s)
  | _, .slice e, .str s => match und P e with
    | .int .u8 => made nid dir (.int .u8) (bytesOf s) 0 [] []
    | _ => none
  | .slice e, .string, x => match und P e with
    | .int .u8 => match listOf hp (.int .u8) x with
      | some xs => ok1 (.str (strOf xs))
      | none => match x with
        | .row id => match hp id with
          | some (.row (.int .u8) xs _) => ok1 (.str (strOf xs))
          | _ => none
        | _ => none
    | _ => none
  | _, _, _ => none

/-- The value of one cell. -/
def scal : V → Bool
  | .undef => false
  | .agg _ => false
  | .tuple _ => false
  | .arr _ _ => false
  | .cnd _ _ _ _ => false
  | _ => true

/-- Values that fill cells: each is one cell's, or an aggregate. -/
def solid : V → Bool
  | .agg _ => true
  | x => scal x

def fieldAt (t : TypeId) (f : Nat) : Option (Nat × TypeId) :=
  match und P t with
  | .struct fs => match fs[f]? with
    | some x => some (x.offset, x.type)
    | none => none
  | _ => none

def tsize (t : TypeId) : Nat := P.cellsOf t
def tbytes (t : TypeId) : Nat := P.bytesOf t

/-- Has the type so many cells? -/
def tsz (t : TypeId) (n : Nat) : Bool :=
  match P.info? t with
  | some i => Nat.beq i.size n
  | none => false

/-- A variable of a type, out of the cells from some place on. -/
def ofCells (t : TypeId) (cells : List V) (off : Nat) : Option V :=
  match und P t with
  | .invalid => none
  | .struct _ => bif tsz P t (takeN cells off (tsize P t)).length then some (.agg (takeN cells off (tsize P t))) else none
  | .array _ _ => bif tsz P t (takeN cells off (tsize P t)).length then some (.agg (takeN cells off (tsize P t))) else none
  | _ => cells[off]?

def opField (t : TypeId) (x : V) (f : Nat) : Option Eff :=
  match fieldAt P t f, x with
  | some (off, ft), .agg cs => match ofCells P ft cs off with
    | some v => ok1 v
    | none => none
  | _, _ => none

def opFieldAddr (t : TypeId) (x : V) (f : Nat) : Option Eff :=
  match fieldAt P t f with
  | some (off, ft) => bif Nat.beq (tsize P ft) 0 || !(tsz P ft (tsize P ft)) then none else
    match x with
    | .ptr id o => ok1 (.ptr id (o + off))
    | .eptr id sz i o => ok1 (.eptr id sz i (o + off))
    | .pptr cs o => ok1 (.pptr cs (o + off))
    | _ => none
  | none => none

def plainD : TypeDesc → Bool
  | .invalid => false
  | .struct _ => false
  | .array _ _ => false
  | _ => true

def opIndexAddr (hp : Nat → Option C) (t : TypeId) (x i : V) : Option Eff :=
  match und P t, i with
  | .slice e, .int _ i =>
    match x with
    | .lst s xs _ => bif tsz P e (size s) && Nat.blt 0 (size s) then some ⟨.pptr (explode s (rdE s xs i)) 0, [], [within i xs.length]⟩ else none
    | .row id => match hp id with
      | some (.row s xs _) => bif tsz P e (size s) && Nat.blt 0 (size s) then some ⟨.eptr id (size s) i 0, [], [within i xs.length]⟩ else none
      | _ => none
    | _ => none
  | .array n e, .int _ i =>
    match x with
    | .ptr id 0 => match hp id with
      | some (.arr s xs) => bif tsz P e (size s) && Nat.blt 0 (size s) then some ⟨.eptr id (size s) i 0, [], [within i xs.length, xs.length = n]⟩ else none
      | _ => none
    | _ => none
  | _, _ => none

def opIndex (t : TypeId) (x i : V) : Option Eff :=
  match und P t, x, i with
  | .string, .str s, .int _ i => some ⟨.int .u8 (bt s i), [], [within i s.length]⟩
  | .array n e, .arr s xs, .int _ i => bif tsz P e 1 && !(isUser s) && plainD (und P e) then some ⟨elV s (rdE s xs i), [], [within i xs.length, xs.length = n]⟩ else none
  | _, _, _ => none

def opLoad (hp : Nat → Option C) (t : TypeId) (p : V) : Option Eff :=
  match p with
  | .ptr id off => match hp id with
    | some (.box cells) => match ofCells P t cells off with
      | some v => ok1 v
      | none => none
    | some (.arr s xs) => match off, und P t with
      | 0, .array n e => bif tsz P e (size s) && tsz P t (n * size s) then some ⟨.arr s xs, [], [xs.length = n]⟩ else none
      | _, _ => none
    | _ => none
  | .eptr id sz i off => match hp id with
    | some (.row s xs _) => bif Nat.beq (size s) sz then (match ofCells P t (explode s (rdE s xs i)) off with
      | some v => some ⟨v, [], [within i xs.length]⟩
      | none => none) else none
    | some (.arr s xs) => bif Nat.beq (size s) sz then (match ofCells P t (explode s (rdE s xs i)) off with
      | some v => some ⟨v, [], [within i xs.length]⟩
      | none => none) else none
    | _ => none
  | .pptr cells off => match ofCells P t cells off with
    | some v => ok1 v
    | none => none
  | _ => none

def opStore (hp : Nat → Option C) (t : TypeId) (p x : V) : Option Eff :=
  match p with
  | .ptr id off => match hp id with
    | some (.box cells) =>
      (let cs := PE.cellsOf x; bif tsz P t cs.length && Nat.ble (off + cs.length) cells.length && cs.all scal then some ⟨.undef, [(id, .box (putN cells off cs))], []⟩ else none)
    | some (.arr s xs) => match off, x, und P t with
      | 0, .arr s' ys, .array n _ => match castL s s' ys with
        | some zs => bif tsz P t (n * size s) then some ⟨.undef, [(id, .arr s zs)], [zs.length = n, xs.length = n]⟩ else none
        | none => none
      | _, _, _ => none
    | _ => none
  | .eptr id sz i off => match hp id with
    | some (.row s xs 0) => bif Nat.beq (size s) sz && tsz P t (PE.cellsOf x).length && (PE.cellsOf x).all scal then (match implode hp s (putN (explode s (rdE s xs i)) off (PE.cellsOf x)) with
      | some y => bif Nat.ble (off + (PE.cellsOf x).length) sz then some ⟨.undef, [(id, .row s (xs.set i.toNat y) 0)], [within i xs.length]⟩ else none
      | none => none) else none
    | some (.arr s xs) => bif Nat.beq (size s) sz && tsz P t (PE.cellsOf x).length && (PE.cellsOf x).all scal then (match implode hp s (putN (explode s (rdE s xs i)) off (PE.cellsOf x)) with
      | some y => bif Nat.ble (off + (PE.cellsOf x).length) sz then some ⟨.undef, [(id, .arr s (xs.set i.toNat y))], [within i xs.length]⟩ else none
      | none => none) else none
    | _ => none
  | _ => none

def isArrD : TypeDesc → Bool
  | .array _ _ => true
  | _ => false

/-- The zero value of one cell of a shape. -/
def isZ : Shape → Value → Bool
  | .int k, .int k' n => kindEq k k' && n == 0
  | .bool, .bool b => !b
  | .str, .string t => t.data.toList.isEmpty
  | .list _, .slice none 0 0 => true
  | _, _ => false

/-- Is the zero value so many zero cells of a shape? -/
def zerosOk (t : TypeId) (s : Shape) (n : Nat) : Bool :=
  match P.info? t with
  | some i => match i.zero with
    | some (.agg cs) => Nat.beq cs.toList.length n && cs.toList.all (isZ s)
    | _ => false
  | none => false

def opAlloc (nid : Nat) (t : TypeId) : Option Eff :=
  match und P t with
  | .array n e => match shp P 4 e with
    | some s => bif isUser s then none else bif zerosOk P t s n then some ⟨.ptr nid 0, [(nid, .arr s (List.replicate n (dflt s)))], []⟩ else none
    | none => none
  | _ => match zeroCells P t with
    | some cs => some ⟨.ptr nid 0, [(nid, .box cs)], []⟩
    | none => none

def opBox (nid : Nat) (x : V) : Option Eff :=
  match x with
  | .arr s xs => some ⟨.ptr nid 0, [(nid, .arr s xs)], []⟩
  | x => bif solid x then some ⟨.ptr nid 0, [(nid, .box (PE.cellsOf x))], []⟩ else none

def fillS (t : TypeId) : List V → List (Nat × V) → Option (List V)
  | cells, [] => some cells
  | cells, (i, x) :: r => match fieldAt P t i with
    | some (off, ft) => bif tsz P ft (PE.cellsOf x).length && Nat.ble (off + (PE.cellsOf x).length) cells.length && solid x then fillS t (putN cells off (PE.cellsOf x)) r else none
    | none => none

def fillA (hp : Nat → Option C) (s : Shape) : List (El s) → List (Nat × V) → Option (List (El s))
  | xs, [] => some xs
  | xs, (i, x) :: r => match inLeaf hp s x with
    | some y => bif Nat.blt i xs.length then fillA hp s (xs.set i y) r else none
    | none => none

def opBuild (hp : Nat → Option C) (t : TypeId) (parts : List (Nat × V)) : Option Eff :=
  match und P t with
  | .array n e => match shp P 4 e with
    | some s => bif isUser s then none else bif zerosOk P t s n && tsz P e 1 then (match fillA hp s (List.replicate n (dflt s)) parts with
      | some xs => ok1 (.arr s xs)
      | none => none) else none
    | none => none
  | .struct fs => bif fs.toList.all (fun f => (P.info? f.type).isSome) then (match zeroCells P t with
    | some cs => match fillS P t cs parts with
      | some cs => ok1 (.agg cs)
      | none => none
    | none => none) else none
  | _ => none

/-- Has the type a zero value of so many cells? -/
def hasZero (t : TypeId) (n : Nat) : Bool :=
  match P.info? t with
  | some i => match i.zero with
    | some z => Nat.beq z.cells.toList.length n
    | none => false
  | none => false

def elems (hp : Nat → Option C) (s : Shape) : Nat → List (Nat × V) → Option (List (El s))
  | _, [] => some []
  | k, (i, x) :: r => bif Nat.beq i k && solid x then (match implode hp s (PE.cellsOf x) with
    | some y => match elems hp s (k + 1) r with
      | some ys => some (y :: ys)
      | none => none
    | none => none) else none

def opBuildSlice (hp : Nat → Option C) (nid : Nat) (dir : Option Dir) (t : TypeId) (n : Nat) (parts : List (Nat × V)) : Option Eff :=
  match und P t with
  | .slice e => match shp P 4 e with
    | some s => bif tsz P e (size s) && Nat.ble (n * tsize P e) 16777216 && Nat.beq parts.length n && hasZero P e (size s) then (match elems hp s 0 parts with
      | some xs => match dir with
        | some .row => some ⟨.row nid, [(nid, .row s xs 0)], []⟩
        | _ => some ⟨.lst s xs 1, [(nid, .dead)], []⟩
      | none => none) else none
    | none => none
  | _ => none

def bound : Option V → Option (Option Int)
  | none => some none
  | some (.int _ i) => some (some i)
  | _ => none

def opSlice (hp : Nat → Option C) (nid : Nat) (t : TypeId) (x : V) (lo hi mx : Option V) : Option Eff :=
  match und P t, x, bound lo, bound hi, bound mx with
  | .string, .str s, some none, some none, some none => ok1 (.str s)
  | .string, .str s, some (some l), some none, some none => some ⟨.str (s.drop l.toNat), [], [cLo l s.length]⟩
  | .string, .str s, some none, some (some h), some none => some ⟨.str (s.take h.toNat), [], [cLo h s.length]⟩
  | .string, .str s, some (some l), some (some h), some none => some ⟨.str ((s.take h.toNat).drop l.toNat), [], [cLH l h s.length]⟩
  | .slice e, x, some l, some h, some m =>
    match shp P 4 e with
    | some s => bif tsz P e (size s) then (match listOf hp s x with
      | some xs => match l, h, m with
        | some l, none, none => some ⟨.lst s (xs.drop l.toNat) 0, [], [cLo l xs.length]⟩
        | none, some h, none => some ⟨.lst s (xs.take h.toNat) 0, [], [cLo h xs.length]⟩
        | some l, some h, none => some ⟨.lst s ((xs.take h.toNat).drop l.toNat) 0, [], [cLH l h xs.length]⟩
        | none, some 0, some 0 => some ⟨.lst s [] 1, [], [cLH 0 0 xs.length]⟩
        | none, some h, some m => some ⟨.lst s (xs.take h.toNat) 0, [], [cLH h m xs.length]⟩
        | _, _, _ => none
      | none => none) else none
    | none => none
  | .array n e, .ptr id 0, some none, some none, some none => match hp id with
    | some (.arr s xs) => bif tsz P e (size s) then some ⟨.lst s xs 0, [(id, .dead)], [xs.length = n]⟩ else none
    | _ => none
  | _, _, _, _, _ => none

def shapesOf : Shape → List Shape
  | .user n => Univ.fields n
  | s => [s]

def isZs : List Shape → List Value → Bool
  | [], [] => true
  | s :: r, v :: q => isZ s v && isZs r q
  | _, _ => false

/-- Is a type's zero value that of the shape? -/
def zeroOk (t : TypeId) (s : Shape) : Bool :=
  match P.info? t with
  | some i => match i.zero with
    | some z => isZs (shapesOf s) z.cells.toList && Nat.beq i.size (size s) && (match z, isUser s with | .agg _, true => true | .agg _, false => false | _, true => false | _, false => true)
    | none => false
  | none => false

/-- Are the keys of a shape those of a map type? -/
def keyTy (t : TypeId) : Shape → Bool
  | .int k => match und P t with
    | .int k' => kindEq k k'
    | _ => false
  | .bool => match und P t with
    | .bool => true
    | _ => false
  | .str => match und P t with
    | .string => true
    | _ => false
  | _ => false

/-- Is the value whole as one of the shape is? -/
def wholeOf (s : Shape) : V → Bool
  | .agg _ => isUser s
  | x => scal x && !(isUser s)

def opLookup (hp : Nat → Option C) (t : TypeId) (m k : V) (ok : Bool) : Option Eff :=
  match und P t, m with
  | .map kt et, .map id => match hp id with
    | some (.tmap ks vs es) => bif keyTy P kt ks && zeroOk P et vs then (match inLeaf hp ks k with
      | some kk => bif ok then ok1 (.tuple [elV vs ((alook ks vs kk es).getD (dflt vs)), .bool (alook ks vs kk es).isSome])
        else ok1 (elV vs ((alook ks vs kk es).getD (dflt vs)))
      | none => none) else none
    | _ => none
  | _, _ => none

def opMakeMap (nid : Nat) (t : TypeId) (r : Option V) : Option Eff :=
  match und P t, r with
  | .map kt et, none => match shp P 4 kt, shp P 4 et with
    | some ks, some vs => some ⟨.map nid, [(nid, .tmap ks vs [])], []⟩
    | _, _ => none
  | _, _ => none

def opMapSet (hp : Nat → Option C) (t : TypeId) (m k x : V) : Option Eff :=
  match und P t, m with
  | .map kt et, .map id => match hp id with
    | some (.tmap ks vs es) => bif keyTy P kt ks && wholeOf vs x then (match inLeaf hp ks k, implode hp vs (PE.cellsOf x) with
      | some kk, some y => some ⟨.undef, [(id, .tmap ks vs (aset ks vs kk y es))], []⟩
      | _, _ => none) else none
    | _ => none
  | _, _ => none

def opMakeSlice (nid : Nat) (dir : Option Dir) (t : TypeId) (l c : V) : Option Eff :=
  match und P t, l, c with
  | .slice e, .int .i64 l, .int .i64 c => match shp P 4 e with
    | some s => bif tsz P e (size s) && zeroOk P e s then
        made nid dir s (List.replicate l.toNat (dflt s)) 0 [] [cMk l c (tbytes P e)]
      else none
    | none => none
  | _, _, _ => none

def itemsOf (hp : Nat → Option C) (s : Shape) : V → Option (List (El s))
  | .nil => some []
  | .lst s' xs _ => castL s s' xs
  | .row id => match hp id with
    | some (.row s' xs _) => castL s s' xs
    | _ => none
  | .str b => castL s (.int .u8) (bytesOf b)
  | _ => none

def opAppend (hp : Nat → Option C) (nid : Nat) (dir : Option Dir) (t : TypeId) (b x : V) : Option Eff :=
  match und P t with
  | .slice e => match shp P 4 e with
    | some s => bif tsz P e (size s) && zeroOk P e s && Nat.blt 0 (tbytes P e) then (match itemsOf hp s x with
      | some ys => match b with
        | .nil => made nid dir s ys 0 [] [fits (ys.length * tbytes P e)]
        | .lst _ [] 1 => made nid dir s ys 0 [] [fits (ys.length * tbytes P e)]
        | .row id => match hp id with
          | some (.row s' xs fz) => match castL s s' xs with
            | some xs => made nid dir s (xs ++ ys) (match fz with | 0 => 0 | _ => 1) [(id, .dead)] [fits ((xs.length + ys.length) * tbytes P e)]
            | none => none
          | _ => none
        | _ => none
      | none => none) else none
    | none => none
  | _ => none

def opCopy (hp : Nat → Option C) (t : TypeId) (d x : V) : Option Eff :=
  match und P t with
  | .slice e => match d with
    | .row id => match hp id with
      | some (.row s xs 0) => bif tsz P e (size s) then (match itemsOf hp s x with
        | some ys => some ⟨.int .i64 (min ys.length xs.length : Nat), [(id, .row s (ys.take xs.length ++ xs.drop ys.length) 0)], []⟩
        | none => none) else none
      | _ => none
    | _ => none
  | _ => none

def opBuiltin (hp : Nat → Option C) (nid : Nat) (dir : Option Dir) (b : Builtin) (ts : List TypeId) (vs : List V) : Option Eff :=
  match b, ts, vs with
  | .len, [t], [x] => match und P t, x with
    | .array n _, _ => ok1 (.int .i64 n)
    | .string, .str s => ok1 (.int .i64 s.length)
    | .slice _, .lst _ xs _ => ok1 (.int .i64 xs.length)
    | .slice _, .nil => ok1 (.int .i64 (0 : Nat))
    | .slice _, .row id => match hp id with
      | some (.row _ xs _) => ok1 (.int .i64 xs.length)
      | _ => none
    | .map _ _, .map id => match hp id with
      | some (.tmap _ _ es) => ok1 (.int .i64 es.length)
      | _ => none
    | _, _ => none
  | .append, [t, u], [a, x] => match und P u with
    | .int _ => none
    | .invalid => none
    | _ => opAppend P hp nid dir t a x
  | .copy, [t, _], [a, x] => opCopy P hp t a x
  | .min, _, [.int k x, .int k' y] => bif kindEq k k' then ok1 (.int k (if y < x then y else x)) else none
  | .max, _, [.int k x, .int k' y] => bif kindEq k k' then ok1 (.int k (if y > x then y else x)) else none
  | _, _, _ => none

mutual
def ren (m : List (Nat × Nat)) : V → Option V
  | .row id => match get m id with | some j => some (.row j) | none => none
  | .ptr id off => match get m id with | some j => some (.ptr j off) | none => none
  | .eptr id sz i off => match get m id with | some j => some (.eptr j sz i off) | none => none
  | .map id => match get m id with | some j => some (.map j) | none => none
  | .agg cs => match rens m cs with | some x => some (.agg x) | none => none
  | .tuple cs => match rens m cs with | some x => some (.tuple x) | none => none
  | .fn f a b => match rens m a with
    | some x => match rens m b with
      | some y => some (.fn f x y)
      | none => none
    | none => none
  | .iface t v => match ren m v with | some x => some (.iface t x) | none => none
  | .undef => some .undef
  | .int k n => some (.int k n)
  | .bool b => some (.bool b)
  | .str s => some (.str s)
  | .nil => some .nil
  | .lst s xs c => some (.lst s xs c)
  | .arr s xs => some (.arr s xs)
  | .pptr cs off => match rens m cs with | some x => some (.pptr x off) | none => none
  | .nilptr => some .nilptr
  | .nilfn => some .nilfn
  | .nilmap => some .nilmap
  | .niface => some .niface
  | .err b => some (.err b)
  | .tb _ c => some (.bool c)
  | .cnd _ _ _ _ => none
def rens (m : List (Nat × Nat)) : List V → Option (List V)
  | [] => some []
  | v :: r => match ren m v with
    | some x => match rens m r with
      | some y => some (x :: y)
      | none => none
    | none => none
end

def renC (m : List (Nat × Nat)) : C → Option C
  | .box cs => match rens m cs with | some x => some (.box x) | none => none
  | c => some c

def renCs (m : List (Nat × Nat)) : List C → Option (List C)
  | [] => some []
  | v :: r => match renC m v with
    | some x => match renCs m r with
      | some y => some (x :: y)
      | none => none
    | none => none

/-- A value told as pure data of a shape. -/
def normV (hp : Nat → Option C) (s : Shape) (v : V) : Option V :=
  bif wholeOf s v then (match implode hp s (PE.cellsOf v) with
  | some x => some (elV s x)
  | none => none) else none

/-- The arguments: pure data by its shape, anything else as it is. -/
def argVs (hp : Nat → Option C) : List (Option Shape) → List V → Option (List V)
  | [], [] => some []
  | some s :: q, v :: r => match normV hp s v, argVs hp q r with
    | some x, some y => some (x :: y)
    | _, _ => none
  | none :: q, v :: r => match argVs hp q r with
    | some y => some (v :: y)
    | none => none
  | _, _ => none

def numbered (k : Nat) : List Nat → List (Nat × Nat)
  | [] => []
  | a :: r => (a, k) :: numbered (k + 1) r

def back (k : Nat) : List Nat → List (Nat × Nat)
  | [] => []
  | a :: r => (k, a) :: back (k + 1) r

def fresh (nid k : Nat) : Nat → List Nat
  | 0 => []
  | n + 1 => (nid + k) :: fresh nid (k + 1) n

def zipU : List Nat → List C → List (Nat × C)
  | a :: r, c :: q => (a, c) :: zipU r q
  | _, _ => []

def nodup : List Nat → Bool
  | [] => true
  | a :: r => !(r.any (Nat.beq a)) && nodup r

def contents (hp : Nat → Option C) : List Nat → Option (List C)
  | [] => some []
  | a :: r => match hp a with
    | some c => match contents hp r with
      | some q => some (c :: q)
      | none => none
    | none => none

def opCall (hp : Nat → Option C) (nid : Nat) (dir : Option Dir) (f : V) (vs : List V) : Option Eff :=
  match f, dir with
  | .fn f first caps, some (.call keep shs res outs news) =>
    match argVs hp shs (first ++ vs ++ caps), contents hp keep with
    | some as, some ins =>
      match rens (numbered 0 keep) as, renCs (numbered 0 keep) ins with
      | some as, some ins =>
        let ids := keep ++ fresh nid 0 news.length
        match ren (back 0 ids) res, renCs (back 0 ids) outs, renCs (back 0 ids) news with
        | some res', some outs', some news' =>
          bif Nat.beq outs.length keep.length && nodup keep && Nat.ble news.length 40 then some ⟨res', zipU ids (outs' ++ news'), [SP f as ins res outs news]⟩ else none
        | _, _, _ => none
      | _, _ => none
    | _, _ => none
  | _, _ => none

def opNext (hp : Nat → Option C) (dir : Option Dir) (it : V) (isString : Bool) : Option Eff :=
  match it, isString with
  | .ptr id 0, true => match hp id, dir with
    | some (.siter s pos), some .yes =>
      some ⟨.tuple [.bool true, .int .i64 pos, .int .i32 (sdec s pos).1], [(id, .siter s (pos + (sdec s pos).2))], [pos < s.length]⟩
    | some (.siter s pos), some .no => some ⟨.tuple [.bool false], [], [¬ pos < s.length]⟩
    | _, _ => none
  | _, _ => none

def opRange (nid : Nat) (t : TypeId) (x : V) : Option Eff :=
  match und P t, x with
  | .string, .str s => some ⟨.ptr nid 0, [(nid, .siter s 0)], []⟩
  | _, _ => none

def evs (ev : Operand → V) : List Operand → List V
  | [] => []
  | x :: r => ev x :: evs ev r

def parts (ev : Operand → V) : List (Nat × Operand) → List (Nat × V)
  | [] => []
  | (i, x) :: r => (i, ev x) :: parts ev r

def eff (hp : Nat → Option C) (nid : Nat) (dir : Option Dir) (ev : Operand → V) (op : Op) : Option Eff :=
  match op with
  | .move x => ok1 (ev x)
  | .assign x => ok1 (ev x)
  | .pick c a b => match ev c with
    | .bool true => ok1 (ev a)
    | .bool false => ok1 (ev b)
    | _ => none
  | .alloc t => opAlloc P nid t
  | .box _ x => opBox nid (ev x)
  | .build t ps => opBuild P hp t (parts ev ps.toList)
  | .buildSlice t n ps => opBuildSlice P hp nid dir t n (parts ev ps.toList)
  | .load t a => opLoad P hp t (ev a)
  | .store t a x => opStore P hp t (ev a) (ev x)
  | .nilCheck x => match ev x with
    | .ptr id off => ok1 (.ptr id off)
    | .eptr id sz i off => ok1 (.eptr id sz i off)
    | .pptr cs off => ok1 (.pptr cs off)
    | .fn f a b => ok1 (.fn f a b)
    | _ => none
  | .binOp op t x y _ => opBin P op t x y (ev x) (ev y)
  | .unOp op _ x => opUn op (ev x)
  | .convert s d x => opConv P hp nid dir s d (ev x)
  | .makeInterface t x => match und P t with
    | .interface _ => none
    | .invalid => none
    | _ => ok1 (.iface t (ev x))
  | .makeFunc (.func f) a b => ok1 (.fn f (evs ev a.toList) (evs ev b.toList))
  | .makeMap t r => opMakeMap P nid t (match r with | some x => some (ev x) | none => none)
  | .makeSlice t l c => opMakeSlice P nid dir t (ev l) (ev c)
  | .slice t x lo hi mx => opSlice P hp nid t (ev x) (match lo with | some x => some (ev x) | none => none) (match hi with | some x => some (ev x) | none => none) (match mx with | some x => some (ev x) | none => none)
  | .fieldAddr t x f => opFieldAddr P t (ev x) f
  | .field t x f => opField P t (ev x) f
  | .indexAddr t x i => opIndexAddr P hp t (ev x) (ev i)
  | .index t x i => opIndex P t (ev x) (ev i)
  | .lookup t x i ok => opLookup P hp t (ev x) (ev i) ok
  | .mapUpdate t m k x => opMapSet P hp t (ev m) (ev k) (ev x)
  | .insert t m k x => opMapSet P hp t (ev m) (ev k) (ev x)
  | .range t x => opRange P nid t (ev x)
  | .next it s => opNext hp dir (ev it) s
  | .extract t i => match ev t with
    | .tuple vs => match vs[i]? with
      | some v => ok1 v
      | none => none
    | _ => none
  | .call c => match c.callee with
    | .builtin b => opBuiltin P hp nid dir b c.argTypes.toList (evs ev c.args.toList)
    | .value f => opCall SP hp nid dir (ev f) (evs ev c.args.toList)
    | _ => none
  | _ => none

/-- A bool that is decided. -/
def decided (dir : Option Bool) (e : Eff) : Eff :=
  match dir, e.v with
  | some true, .bool b => ⟨.bool true, e.upd, e.conds ++ [b = true]⟩
  | some false, .bool b => ⟨.bool false, e.upd, e.conds ++ [b = false]⟩
  | _, _ => e


/-! ### A region -/
structure St where
  tm : List (Nat × V)
  hp : List (Nat × C)

def untag : V → V
  | .tb _ c => .bool c
  | v => v
def evO (tm : List (Nat × V)) : Operand → V
  | .tmp t => untag (getV tm t)
  | .const v => constV v
  | .global _ => .undef
  | .func f => .fn f [] []

mutual
def ment : V → List Nat
  | .row id => [id]
  | .ptr id _ => [id]
  | .eptr id _ _ _ => [id]
  | .map id => [id]
  | .agg cs => ments cs
  | .tuple cs => ments cs
  | .fn _ a b => ments a ++ ments b
  | .iface _ v => ment v
  | .cnd _ _ _ v => ment v
  | _ => []
def ments : List V → List Nat
  | [] => []
  | v :: r => ment v ++ ments r
end

def addAll : List (Nat × C) → List (Nat × C) → List (Nat × C)
  | [], h => h
  | (id, c) :: r, h => (id, c) :: addAll r h

/-- What an operation touches and what it writes. -/
structure Foot where
  i : Nat
  acc : List Nat
  wr : List Nat
  rd : List Nat
  wt : List Nat

/-- The heap as far as it is touched. -/
def only (acc : List Nat) (hp : Nat → Option C) : Nat → Option C := fun id => bif acc.any (Nat.beq id) then hp id else none

def tmpsOf : List Operand → List Nat
  | [] => []
  | .tmp t :: r => t :: tmpsOf r
  | _ :: r => tmpsOf r

/-- The slots that an operation looks at or writes. -/
def slotsOf (ops : List Oper) (o : Oper) : List Nat :=
  tmpsOf o.op.operands.toList ++ o.dst.toList ++ (match o.guard with
    | some (j, _) => (match ops[j]? with
      | some o' => o'.dst.toList
      | none => [])
    | none => [])

def keys (l : List (Nat × C)) : List Nat := l.map (·.1)

/-- The operands' values. -/
def opVals (tm : List (Nat × V)) (o : Oper) : List V := o.op.operands.toList.map (evO tm)

def dirOf (ds : List (Nat × Dir)) (i : Nat) : Option Dir := get ds i

def keepOf : Option Dir → List Nat
  | some (.call keep _ _ _ _) => keep
  | _ => []

/-- Is the operation carried out? none: that isn't known. -/
def runs (ops : List Oper) (tm : List (Nat × V)) : Option (Nat × Bool) → Option Bool
  | none => some true
  | some (j, want) => match ops[j]? with
    | some o => match o.dst with
      | some d => match getV tm d with
        | .bool true => some want
        | .bool false => some !want
        | .tuple _ => some false
        | _ => none
      | none => none
    | none => none

/-! Values under tests that are not decided -/
def chain : V → List (Nat × Bool × Bool)
  | .cnd t c w v => (t, c, w) :: chain v
  | _ => []
def core : V → V
  | .cnd _ _ _ v => core v
  | v => v
def boolEq : Bool → Bool → Bool
  | true, b => b
  | false, b => !b
/-- A value where the tests hold. -/
def peel : List (Nat × Bool × Bool) → V → Option V
  | (t, _, w) :: g, .cnd t' _ w' v => bif Nat.beq t t' && boolEq w w' then peel g v else none
  | _, v => some v
def under (g : List (Nat × Bool × Bool)) (v : V) : V := g.foldr (fun p u => .cnd p.1 p.2.1 p.2.2 u) v
/-- The operand's value, its mark kept. -/
def rawO (tm : List (Nat × V)) : Operand → V
  | .tmp t => getV tm t
  | x => evO tm x
def peelR (g : List (Nat × Bool × Bool)) (tm : List (Nat × V)) (x : Operand) : V :=
  match peel g (rawO tm x) with
  | some v => v
  | none => .undef
def peelO (g : List (Nat × Bool × Bool)) (tm : List (Nat × V)) (x : Operand) : V := untag (peelR g tm x)
def tests (ops : List Oper) (tm : List (Nat × V)) : Option (Nat × Bool) → Option (List (Nat × Bool × Bool))
  | none => some []
  | some (j, want) => match ops[j]? with
    | some o => match o.dst with
      | some d => match core (getV tm d) with
        | .tb t c => some (chain (getV tm d) ++ [(t, c, want)])
        | _ => none
      | none => none
    | none => none
/-- One side of a pick. -/
def side (t : Nat) (w : Bool) : V → Option Bool
  | .bool b => some b
  | .tb _ b => some b
  | .cnd t' _ w' (.bool b) => bif Nat.beq t t' && boolEq w w' then some b else none
  | .cnd t' _ w' (.tb _ b) => bif Nat.beq t t' && boolEq w w' then some b else none
  | _ => none
def softEff (hp : Nat → Option C) (g : List (Nat × Bool × Bool)) (tm : List (Nat × V)) (op : Op) : Option V :=
  match op with
  | .pick c a b => match peelR g tm c with
    | .tb t x => match side t true (peelR g tm a), side t false (peelR g tm b) with
      | some p, some q => some (.bool (bif x then p else q))
      | _, _ => none
    | _ => none
  | op => match eff P SP hp 0 none (peelO g tm) op with
    | some ⟨v, [], []⟩ => some v
    | _ => none
/-- A bool's mark. -/
def mark (tag : Nat) : V → Option V
  | .bool c => some (.tb tag c)
  | _ => none

def setD (tm : List (Nat × V)) (d : Option Nat) (v : V) : List (Nat × V) :=
  match d with
  | some t => (t, v) :: tm
  | none => tm

/-- What is written is there, or it is new and the operation's own. -/
def newIds (hp : List (Nat × C)) (lo : Nat) : List Nat → Bool
  | [] => true
  | id :: r => (bif Nat.ble lo id && Nat.blt id (lo + 100) then (get hp id).isNone else (get hp id).isSome) && newIds hp lo r

def dstOk (nt : Nat) : Option Nat → Bool
  | none => true
  | some d => Nat.blt d nt

structure RD where
  fz : List Nat
  ds : List (Nat × Dir)
  bs : List (Nat × Bool)
  soft : List (Nat × Bool)
  tg : List Nat

/-- The last touch on an operation's value: a mark, or a decision. -/
def finish (nid i : Nat) (d : RD) (e : Eff) : Option Eff :=
  bif d.tg.any (Nat.beq i) then (match (bif (keys e.upd).any (Nat.beq (nid + 50)) then none else mark (nid + 50) e.v) with
    | some v => some ⟨v, (nid + 50, .dead) :: e.upd, e.conds⟩
    | none => none)
  else some (decided (get d.bs i) e)

/-- The operations in the text's order: the state behind them, what holds, what each touched. -/
def runOps (nt rid : Nat) (ops : List Oper) (d : RD) : List Oper → Nat → St → List Prop → List Foot → Option (St × List Prop × List Foot)
  | [], _, st, cs, fs => some (st, cs, fs)
  | o :: rest, i, st, cs, fs =>
    let nid := (rid + 1) * 100000 + i * 100
    bif !(dstOk nt o.dst) then none else
    match get d.soft i with
    | some fl =>
      (match (bif fl then tests ops st.tm o.guard else (match runs ops st.tm o.guard with | some true => some [] | _ => none)) with
      | some g => match softEff P SP (only (ments (opVals st.tm o)) (get st.hp)) g st.tm o.op with
        | some v => match finish nid i d ⟨v, [], []⟩ with
          | some ⟨v, upd, conds⟩ =>
            bif newIds st.hp nid (keys upd) then
              runOps nt rid ops d rest (i + 1) ⟨setD st.tm o.dst (under g v), addAll upd st.hp⟩ (cs ++ conds)
                (⟨i, ments (opVals st.tm o) ++ keys upd, keys upd, slotsOf ops o, o.dst.toList⟩ :: fs)
            else none
          | none => none
        | none => none
      | none => none)
    | none => match runs ops st.tm o.guard with
    | some true =>
      match eff P SP (only (ments (opVals st.tm o) ++ keepOf (dirOf d.ds i)) (get st.hp)) nid (dirOf d.ds i) (evO st.tm) o.op with
      | some e0 => match finish nid i d e0 with
        | some ⟨v, upd, conds⟩ =>
          bif newIds st.hp nid (keys upd) then
            runOps nt rid ops d rest (i + 1) ⟨setD st.tm o.dst v, addAll upd st.hp⟩ (cs ++ conds)
              (⟨i, ments (opVals st.tm o) ++ keepOf (dirOf d.ds i) ++ keys upd, keys upd, slotsOf ops o, o.dst.toList⟩ :: fs)
          else none
        | none => none
      | none => none
    | some false => runOps nt rid ops d rest (i + 1) ⟨setD st.tm o.dst (.tuple []), st.hp⟩ cs (⟨i, [], [], slotsOf ops o, o.dst.toList⟩ :: fs)
    | none => none

def edgeBits (acc : List Nat) : List Edge → Nat
  | [] => 0
  | e :: r => match e.ground with
    | .textOnly _ => edgeBits acc r
    | .gcOnly _ => edgeBits acc r
    | _ => Nat.lor (Nat.lor (2 ^ e.on) (acc.getD e.on 0)) (edgeBits acc r)

/-- For each operation: those that must be carried out before it. -/
def befores : List Oper → List Nat → List Nat
  | [], acc => acc
  | o :: r, acc => befores r (acc ++ [edgeBits acc o.after.toList])

def meets : List Nat → List Nat → Bool
  | [], _ => false
  | a :: r, l => l.any (Nat.beq a) || meets r l

def orderedWith (bf : List Nat) (g : Foot) : List Foot → Bool
  | [] => true
  | f :: r => (!(meets f.wr g.acc || meets g.wr f.acc || meets f.wt g.rd || meets g.wt f.rd) || Nat.testBit (bf.getD g.i 0) f.i) && orderedWith bf g r

/-- The feet, the last one first. -/
def ordered (bf : List Nat) : List Foot → Bool
  | [] => true
  | g :: r => orderedWith bf g r && ordered bf r

/-- Edges lead to earlier operations. -/
def edgesLow : List Oper → Nat → Bool
  | [], _ => true
  | o :: r, i => o.after.toList.all (fun e => (match e.ground with
      | .textOnly _ => true
      | .gcOnly _ => true
      | _ => Nat.blt e.on i)) && edgesLow r (i + 1)

def regionEff (nt rid : Nat) (ops : Array Oper) (draw : Bool) (d : RD) (st : St) : Option (St × List Prop) :=
  match runOps P SP nt rid ops.toList d ops.toList 0 st [] [] with
  | some (st', cs, fs) => bif draw then (bif ordered (befores ops.toList []) fs && edgesLow ops.toList 0 then some (st', cs) else none) else some (st', cs)
  | none => none

/-! ### Code -/
/-- A change of how a state is told. -/
inductive Co where
  | fz (id : Nat)
  | nilRow (t : Nat) (s : Shape) (id : Nat)
  | mvRow (t : Nat) (id : Nat)
  | norm (t : Nat) (s : Shape)
  | bNilRow (b i : Nat) (s : Shape) (id : Nat)
  | bNorm (b n : Nat)
  | bNormC (b i : Nat) (s : Shape)

def fzs (hp : List (Nat × C)) : List Nat → Option (List (Nat × C))
  | [] => some hp
  | id :: r => match get hp id with
    | some (.row s xs _) => fzs ((id, .row s xs 2) :: hp) r
    | _ => none

def coSt (st : St) : Co → Option St
  | .fz id => match fzs st.hp [id] with
    | some hp => some ⟨st.tm, hp⟩
    | none => none
  | .nilRow t s id => match getV st.tm t, get st.hp id with
    | .nil, none => some ⟨(t, .row id) :: st.tm, (id, .row s [] 0) :: st.hp⟩
    | _, _ => none
  | .mvRow t id => match getV st.tm t with
    | .row old => match get st.hp old, get st.hp id with
      | some c, none => some ⟨(t, .row id) :: st.tm, (id, c) :: (old, .dead) :: st.hp⟩
      | _, _ => none
    | _ => none
  | .norm t s => match normV (get st.hp) s (getV st.tm t) with
    | some v => some ⟨(t, v) :: st.tm, st.hp⟩
    | none => none
  | .bNilRow b i s id => match get st.hp b, get st.hp id with
    | some (.box cs), none => match cs[i]? with
      | some .nil => some ⟨st.tm, (id, .row s [] 0) :: (b, .box (cs.set i (.row id))) :: st.hp⟩
      | _ => none
    | _, _ => none
  | .bNorm b n => match get st.hp b with
    | some (.box cs) => match implode (get st.hp) (.user n) cs with
      | some x => some ⟨st.tm, (b, .box (explode (.user n) x)) :: st.hp⟩
      | none => none
    | _ => none
  | .bNormC b i s => match get st.hp b with
    | some (.box cs) => match cs[i]? with
      | some v => bif isUser s then none else (match implode (get st.hp) s [v] with
        | some x => some ⟨st.tm, (b, .box (cs.set i (elV s x))) :: st.hp⟩
        | none => none)
      | none => none
    | _ => none

def cos (st : St) : List Co → Option St
  | [] => some st
  | c :: r => match coSt st c with
    | some st' => cos st' r
    | none => none

def pruneT (m : List (Nat × Nat)) (tm : List (Nat × V)) : List Nat → Option (List (Nat × V))
  | [] => some []
  | t :: r => match ren m (getV tm t), pruneT m tm r with
    | some v, some q => some ((t, v) :: q)
    | _, _ => none

def pruneH (m : List (Nat × Nat)) (hp : List (Nat × C)) (k : Nat) : List Nat → Option (List (Nat × C))
  | [] => some []
  | id :: r => match get hp id with
    | some c => match renC m c, pruneH m hp (k + 1) r with
      | some c', some q => some ((k, c') :: q)
      | _, _ => none
    | none => none

def starts (k : Nat) : Nat → List Nat → Bool
  | 0, _ => true
  | n + 1, id :: r => Nat.beq id k && starts (k + 1) n r
  | _ + 1, [] => false

def prune (nin : Nat) (st : St) (slots ids : List Nat) : Option St :=
  bif !(starts 0 nin ids && nodup ids) then none else
  match pruneT (numbered 0 ids) st.tm slots, pruneH (numbered 0 ids) st.hp 0 ids with
  | some tm, some hp => some ⟨tm, hp⟩
  | _, _ => none

def conj : List Prop → Prop → Prop
  | [], q => q
  | p :: r, q => p ∧ conj r q

/-- The results of a function, as values, and what must hold of them. -/
def resV (tm : List (Nat × V)) (hp : List (Nat × C)) : List ResultVar → Option (List V × List Prop)
  | [] => some ([], [])
  | .tmp t :: r => match resV tm hp r with
    | some (q, cs) => some (untag (getV tm t) :: q, cs)
    | none => none
  | .cell a t :: r => match opLoad P (get hp) t (getV tm a), resV tm hp r with
    | some ⟨v, _, ds⟩, some (q, cs) => some (v :: q, ds ++ cs)
    | _, _ => none

def tup : List V → V
  | [v] => v
  | vs => .tuple vs

inductive Fin where
  | ret (co : List Co) (news : List Nat)
  | cut (co : List Co) (slots ids : List Nat)
  | cutRet (co : List Co) (slots ids : List Nat)


def upto (k : Nat) : Nat → List Nat
  | 0 => []
  | n + 1 => k :: upto (k + 1) n

/-- What a function hands back: its results, what its blocks hold, what is new. -/
def retOf (nin : Nat) (rs : List ResultVar) (st : St) (co : List Co) (news : List Nat) : Option (V × List C × List C × List Prop) :=
  bif !(nodup (upto 0 nin ++ news)) then none else
  match cos st co with
  | some st => match resV P st.tm st.hp rs with
    | some (vs, ps) => match contents (get st.hp) (upto 0 nin ++ news) with
      | some cs => match rens (numbered 0 (upto 0 nin ++ news)) vs, renCs (numbered 0 (upto 0 nin ++ news)) cs with
        | some vs, some cs => some (tup vs, cs.take nin, cs.drop nin, ps)
        | _, _ => none
      | none => none
    | none => none
  | none => none

/-- So many steps from a state on, up to a cut or the end: what is to be shown. -/
def exec (nin nt : Nat) (rs : List ResultVar) (goal : V → List C → List C → Prop) (PT : List Item → St → Prop) (fin : Fin) : Nat → List Item → St → List RD → Prop
  | 0, k, st, _ => match fin with
    | .cut co slots ids => match cos st co with
      | some st' => match prune nin st' slots ids with
        | some st'' => PT k st''
        | none => False
      | none => False
    | .cutRet co slots ids => match k with
      | .code .ret :: _ => match cos st co with
        | some st' => match prune nin st' slots ids with
          | some st'' => PT [.code .ret] st''
          | none => False
        | none => False
      | _ => False
    | .ret co news => match k with
      | .code .ret :: _ => match retOf P nin rs st co news with
        | some (v, outs, nws, ps) => conj ps (goal v outs nws)
        | none => False
      | [] => match retOf P nin rs st co news with
        | some (v, outs, nws, ps) => conj ps (goal v outs nws)
        | none => False
      | _ => False
  | n + 1, k, st, ds => match k with
    | .code (.seq a b) :: k => exec nin nt rs goal PT fin n (.code a :: .code b :: k) st ds
    | .code .skip :: k => exec nin nt rs goal PT fin n k st ds
    | .code (.label _) :: k => exec nin nt rs goal PT fin n k st ds
    | .inBlock _ :: k => exec nin nt rs goal PT fin n k st ds
    | .inScope _ :: k => exec nin nt rs goal PT fin n k st ds
    | .code (.block id c) :: k => exec nin nt rs goal PT fin n (.code c :: .inBlock id :: k) st ds
    | .code (.scope c) :: k => exec nin nt rs goal PT fin n (.code c :: .inScope c :: k) st ds
    | .code (.loop c) :: k => exec nin nt rs goal PT fin n (.code c :: .inLoop c :: k) st ds
    | .inLoop c :: k => exec nin nt rs goal PT fin n (.code c :: .inLoop c :: k) st ds
    | .code (.exit id) :: k => match exitTo id k with
      | some k' => exec nin nt rs goal PT fin n k' st ds
      | none => False
    | .code (.goto l) :: k => match gotoIn l k with
      | some k' => exec nin nt rs goal PT fin n k' st ds
      | none => False
    | .code (.cond c x y) :: k => match evO st.tm c with
      | .bool true => exec nin nt rs goal PT fin n (.code x :: k) st ds
      | .bool false => exec nin nt rs goal PT fin n (.code y :: k) st ds
      | _ => False
    | .code (.region rid ops draw) :: k => match ds with
      | d :: ds => match fzs st.hp d.fz with
        | some hp => match regionEff P SP nt rid ops draw d ⟨st.tm, hp⟩ with
          | some (st', cs) => conj cs (exec nin nt rs goal PT fin n k st' ds)
          | none => False
        | none => False
      | [] => False
    | _ => False

end
end Go.PE
