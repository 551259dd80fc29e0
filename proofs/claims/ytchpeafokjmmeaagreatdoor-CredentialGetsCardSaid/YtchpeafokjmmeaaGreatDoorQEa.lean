/-
  PE, the evaluator: what a Go function does to pure values, computed. Definitions alone: shapes, values, contents, operations, code.
-/
import Derived.Calls
import Derived.KernelRfl
import Derived.Orders
import Derived.Laws.Cells
import Derived.Laws.Entries
set_option linter.unusedVariables false
set_option linter.unusedSectionVars false
namespace Go.PE
inductive Shape where
  | int (k : IntKind) | bool | str | list (s : Shape) | user (n : Nat)
  deriving DecidableEq,Inhabited
class UTypes where
  UT : Nat → Type
def El [UTypes] : Shape → Type
  | .int _ => Int
  | .bool => Bool
  | .str => List UInt8
  | .list s => List (El s)
  | .user n => UTypes.UT n
def Els [UTypes] : List Shape → Type
  | [] => Unit
  | s :: r => El s × Els r
inductive D where
  | int (k : IntKind) (n : Int) | bool (b : Bool) | str (s : List UInt8) | list (n : Nat) (cells : List D)
class Univ extends UTypes where
  fields : Nat → List Shape
  out : (n : Nat) → UT n → Els (fields n)
  inn : (n : Nat) → Els (fields n) → UT n
  dft : (n : Nat) → UT n
  uD : (n : Nat) → UT n → List D
  userOf : TypeId → Option Nat
def size [Univ] : Shape → Nat
  | .user n => (Univ.fields n).length
  | _ => 1
def dflt [Univ] : (s : Shape) → El s
  | .int _ => (0 : Int)
  | .bool => false
  | .str => ([] : List UInt8)
  | .list s => ([] : List (El s))
  | .user n => Univ.dft n
def toD [Univ] : (s : Shape) → El s → List D
  | .int k,x => [.int k x]
  | .bool,x => [.bool x]
  | .str,x => [.str x]
  | .list s,x => [.list (List.length x) (List.flatMap (toD s) x)]
  | .user n,x => Univ.uD n x
inductive V [UTypes] where
  | undef
  | int (k : IntKind) (n : Int)
  | bool (b : Bool)
  | str (s : List UInt8)
  | nil
  | lst (s : Shape) (xs : List (El s)) (fl : Nat)
  | arr (s : Shape) (xs : List (El s))
  | row (id : Nat)
  | agg (cs : List V)
  | tuple (vs : List V)
  | ptr (id off : Nat)
  | eptr (id sz : Nat) (i : Int) (off : Nat)
  | pptr (cells : List V) (off : Nat)
  | nilptr
  | fn (f : Nat) (first caps : List V)
  | nilfn
  | map (id : Nat)
  | nilmap
  | iface (t : Nat) (v : V)
  | niface
  | err (b : Bool)
  | tb (tag : Nat) (c : Bool)
  | cnd (tag : Nat) (c w : Bool) (v : V)
inductive C [UTypes] where
  | box (cells : List V)
  | row (s : Shape) (xs : List (El s)) (fz : Nat)
  | arr (s : Shape) (xs : List (El s))
  | tmap (k v : Shape) (es : List (El k × El v))
  | siter (s : List UInt8) (pos : Nat)
  | miter (m since : Nat) (seen : Array Nat) (last : Nat)
  | dead
def get {α : Type} : List (Nat × α) → Nat → Option α
  | [],_ => none
  | (k,v) :: r,n => bif Nat.beq k n then some v else get r n
def getV [UTypes] (l : List (Nat × V)) (n : Nat) : V :=
  match get l n with
  | some v => v
  | none => .undef
def zun [UTypes] : (s : Shape) → El s → V
  | .int k,x => .int k x
  | .bool,x => .bool x
  | .str,x => .str x
  | .list s,x => .lst s x 0
  | .user _,_ => .undef
def z8w [UTypes] : (ss : List Shape) → Els ss → List V
  | [],_ => []
  | s :: r,x => zun s x.1 :: z8w r x.2
def explode [Univ] : (s : Shape) → El s → List V
  | .int k,x => [.int k x]
  | .bool,x => [.bool x]
  | .str,x => [.str x]
  | .list s,x => [.lst s x 0]
  | .user n,x => z8w (Univ.fields n) (Univ.out n x)
def z3k : Shape → Bool
  | .user _ => true
  | _ => false
def elV [Univ] : (s : Shape) → El s → V
  | .user n,x => .agg (z8w (Univ.fields n) (Univ.out n x))
  | .int k,x => .int k x
  | .bool,x => .bool x
  | .str,x => .str x
  | .list s,x => .lst s x 0
def cellsOf [UTypes] : V → List V
  | .agg cs => cs
  | v => [v]
def ztU [UTypes] (s s' : Shape) (xs : List (El s')) : Option (List (El s)) :=
  if h : s' = s then some (h ▸ xs) else none
def IntKind.code : IntKind → Nat
  | .i8 => 0 | .i16 => 1 | .i32 => 2 | .i64 => 3 | .u8 => 4 | .u16 => 5 | .u32 => 6 | .u64 => 7
def zfD (a b : IntKind) : Bool := Nat.beq (IntKind.code a) (IntKind.code b)
def listOf [UTypes] (hp : Nat → Option C) (s : Shape) : V → Option (List (El s))
  | .nil => some []
  | .lst s' xs _ => ztU s s' xs
  | .row id => match hp id with
    | some (.row s' xs 2) => ztU s s' xs
    | _ => none
  | _ => none
def zc0 [UTypes] (hp : Nat → Option C) : (s : Shape) → V → Option (El s)
  | .int k,v => match v with
    | .int k' n => bif zfD k' k then some n else none
    | _ => none
  | .bool,v => match v with
    | .bool b => some b
    | _ => none
  | .str,v => match v with
    | .str b => some b
    | _ => none
  | .list s,v => listOf hp s v
  | .user _,_ => none
def zcq [UTypes] (hp : Nat → Option C) : (ss : List Shape) → List V → Option (Els ss)
  | [],[] => some ()
  | s :: r,v :: vs => match zc0 hp s v with
    | some x => match zcq hp r vs with
      | some y => some (x,y)
      | none => none
    | none => none
  | _,_ => none
def zbK [Univ] (hp : Nat → Option C) : (s : Shape) → List V → Option (El s)
  | .user n,vs => match zcq hp (Univ.fields n) vs with
    | some x => some (Univ.inn n x)
    | none => none
  | .int k,vs => match vs with
    | [v] => zc0 hp (.int k) v
    | _ => none
  | .bool,vs => match vs with
    | [v] => zc0 hp .bool v
    | _ => none
  | .str,vs => match vs with
    | [v] => zc0 hp .str v
    | _ => none
  | .list s,vs => match vs with
    | [v] => listOf hp s v
    | _ => none
def zCH [UTypes] (hp : Nat → Option C) : V → Option V
  | .row id => match hp id with
    | some (.row s xs 2) => some (.lst s xs 0)
    | _ => none
  | v => some v
def zAt [UTypes] (hp : Nat → Option C) : List V → Option (List V)
  | [] => some []
  | v :: r => match zCH hp v with
    | some x => match zAt hp r with
      | some y => some (x :: y)
      | none => none
    | none => none
def zEo [UTypes] (hp : Nat → Option C) : V → Option V
  | .agg cs => match zAt hp cs with
    | some x => some (.agg x)
    | none => none
  | v => zCH hp v
def takeN {α : Type} (l : List α) (off n : Nat) : List α := (l.drop off).take n
def putN {α : Type} : List α → Nat → List α → List α
  | l,0,[] => l
  | [],_,_ => []
  | _ :: l,0,y :: ys => y :: putN l 0 ys
  | x :: l,n + 1,ys => x :: putN l n ys
def sub : Code → List Nat → Code
  | c,[] => c
  | .seq a _,0 :: p => sub a p
  | .seq _ b,_ :: p => sub b p
  | .cond _ a _,0 :: p => sub a p
  | .cond _ _ b,_ :: p => sub b p
  | .block _ a,_ :: p => sub a p
  | .loop a,_ :: p => sub a p
  | .scope a,_ :: p => sub a p
  | c,_ => c
def und (P : Program) (t : TypeId) : TypeDesc :=
  match P.underlying t with
  | some d => d
  | none => .invalid
def zgP : TypeDesc → Bool
  | .struct _ => true
  | .array _ _ => true
  | _ => false
def shp [Univ] (P : Program) : Nat → TypeId → Option Shape
  | 0,_ => none
  | n + 1,t =>
    match und P t with
    | .int k => some (.int k)
    | .bool => some .bool
    | .string => some .str
    | .slice e => match shp P n e with
      | some s => some (.list s)
      | none => none
    | .struct _ => match Univ.userOf t with
      | some u => some (.user u)
      | none => none
    | _ => none
def zvU [UTypes] : Value → V
  | .bool b => .bool b
  | .int k n => .int k n
  | .string s => .str s.data.toList
  | .pointer none => .nilptr
  | .slice none 0 0 => .nil
  | .map none => .nilmap
  | .nilFunc => .nilfn
  | .nilIface => .niface
  | _ => .undef
def zeroCells [UTypes] (P : Program) (t : TypeId) : Option (List V) :=
  match P.info? t with
  | some i => match i.zero with
    | some z => some (z.cells.toList.map zvU)
    | none => none
  | none => none
def keep {α : Type} (x : α) : α := x
def wr8 (b : UInt8) : Int := (b.toNat : Int)
def rd8 (n : Int) : UInt8 := UInt8.ofNat n.toNat
def bytesOf (s : List UInt8) : List Int := s.map wr8
def strOf (xs : List Int) : List UInt8 := xs.map rd8
def bt (s : List UInt8) (i : Int) : Int := ((s.getD i.toNat 0).toNat : Int)
abbrev fits (n : Nat) : Prop := n ≤ 140737488355328
def sdec (s : List UInt8) (pos : Nat) : Nat × Nat := Utf8.decode ⟨s.toArray⟩ pos
def rd {α : Type} (d : α) (xs : List α) (i : Int) : α := xs.getD i.toNat d
def rdE [Univ] (s : Shape) (xs : List (El s)) (i : Int) : El s := xs.getD i.toNat (dflt s)
abbrev nn (b : Int) : Prop := 0 ≤ b
abbrev nz (b : Int) : Prop := b ≠ 0
abbrev cLo (l : Int) (n : Nat) : Prop := 0 ≤ l ∧ l ≤ (n : Int)
abbrev cLH (l h : Int) (n : Nat) : Prop := 0 ≤ l ∧ l ≤ h ∧ h ≤ (n : Int)
abbrev cMk (l c : Int) (b : Nat) : Prop := 0 ≤ l ∧ l ≤ c ∧ c * (b : Int) ≤ 140737488355328 ∧ c ≤ 140737488355328
abbrev within (i : Int) (n : Nat) : Prop := 0 ≤ i ∧ i < (n : Int)
def zxU (k : IntKind) (f : BitVec k.bits → BitVec k.bits → BitVec k.bits) (a b : Int) : Int :=
  k.wrap ((f (BitVec.ofInt k.bits a) (BitVec.ofInt k.bits b)).toNat : Int)
def iand (k : IntKind) (a b : Int) : Int := zxU k (fun x y => x &&& y) a b
def ior (k : IntKind) (a b : Int) : Int := zxU k (fun x y => x ||| y) a b
def ixor (k : IntKind) (a b : Int) : Int := zxU k (fun x y => x ^^^ y) a b
def zDT (k : IntKind) (a b : Int) : Int := zxU k (fun x y => x &&& ~~~y) a b
def shl (k : IntKind) (a b : Int) : Int := k.wrap (a * 2 ^ (min b.toNat k.bits))
def w_i8 (n : Int) : Int := IntKind.i8.wrap n
def zEm (n : Int) : Int := IntKind.i16.wrap n
def zEk (n : Int) : Int := IntKind.i32.wrap n
def z07 (n : Int) : Int := IntKind.i64.wrap n
def w_u8 (n : Int) : Int := IntKind.u8.wrap n
def zEj (n : Int) : Int := IntKind.u16.wrap n
def z0Z (n : Int) : Int := IntKind.u32.wrap n
def z3S (n : Int) : Int := IntKind.u64.wrap n
def shr (k : IntKind) (a b : Int) : Int := a.fdiv (2 ^ (min b.toNat k.bits))
def elEq [UTypes] : (s : Shape) → El s → El s → Bool
  | .int _,a,b => @BEq.beq Int _ a b
  | .bool,a,b => @BEq.beq Bool _ a b
  | .str,a,b => @BEq.beq (List UInt8) _ a b
  | .list _,_,_ => false
  | .user _,_,_ => false
def zDP : Shape → Bool
  | .int _ => true
  | .bool => true
  | .str => true
  | _ => false
def alk {α β : Type} (p : α → Bool) : List (α × β) → Option β
  | [] => none
  | (a,b) :: r => bif p a then some b else alk p r
def ast {α β : Type} (p : α → Bool) (x : α) (y : β) : List (α × β) → List (α × β)
  | [] => [(x,y)]
  | (a,b) :: r => bif p a then (a,y) :: r else (a,b) :: ast p x y r
def zyk [UTypes] (k v : Shape) (x : El k) (es : List (El k × El v)) : Option (El v) := alk (elEq k x) es
def aset [UTypes] (k v : Shape) (x : El k) (y : El v) (es : List (El k × El v)) : List (El k × El v) := ast (elEq k x) x y es
inductive Dir [UTypes] where
  | yes | no
  | lst | row
  | call (keep : List Nat) (shs : List (Option Shape)) (res : V) (outs news : List C)
structure Eff [UTypes] where
  v : V
  upd : List (Nat × C)
  conds : List Prop
section
variable [Univ] (P : Program) (SP : Nat → List V → List C → V → List C → List C → Prop)
def ok1 (v : V) : Option Eff := some ⟨v,[],[]⟩
def opInt (op : BinOp) (k : IntKind) (a b : Int) : Option Eff :=
  match op with
  | .add => ok1 (.int k (k.wrap (a + b)))
  | .sub => ok1 (.int k (k.wrap (a - b)))
  | .mul => ok1 (.int k (k.wrap (a * b)))
  | .quo => some ⟨.int k (k.wrap (a.tdiv b)),[],[nz b]⟩
  | .rem => some ⟨.int k (a.tmod b),[],[nz b]⟩
  | .and => ok1 (.int k (iand k a b))
  | .or => ok1 (.int k (ior k a b))
  | .xor => ok1 (.int k (ixor k a b))
  | .andNot => ok1 (.int k (zDT k a b))
  | .eql => ok1 (.bool (a == b))
  | .neq => ok1 (.bool (a != b))
  | .lss => ok1 (.bool (decide (a < b)))
  | .leq => ok1 (.bool (decide (a ≤ b)))
  | .gtr => ok1 (.bool (decide (a > b)))
  | .geq => ok1 (.bool (decide (a ≥ b)))
  | _ => none
def zBf (op : BinOp) (a b : List UInt8) : Option Eff :=
  match op with
  | .add => some ⟨.str (a ++ b),[],[fits (a.length + b.length)]⟩
  | .eql => ok1 (.bool (a == b))
  | .neq => ok1 (.bool !(a == b))
  | .lss => ok1 (.bool (Op.bytesLess a b))
  | .leq => ok1 (.bool (Op.bytesLess a b || (a == b)))
  | .gtr => ok1 (.bool !(Op.bytesLess a b || (a == b)))
  | .geq => ok1 (.bool !(Op.bytesLess a b))
  | _ => none
def isConst : Operand → Bool
  | .const _ => true
  | _ => false
def z9F : List V → List V → Option Bool
  | [],[] => some true
  | .int k a :: r,.int k' b :: q => bif zfD k k' then (match z9F r q with | some x => some ((a == b) && x) | none => none) else none
  | .bool a :: r,.bool b :: q => match z9F r q with | some x => some ((a == b) && x) | none => none
  | .str a :: r,.str b :: q => match z9F r q with | some x => some ((a == b) && x) | none => none
  | _,_ => none
def z6F : Nat → List Field → List V → Bool
  | _,[],[] => true
  | k,f :: r,a :: q => Nat.beq f.offset k && f.name != "_" && (match und P f.type,a with | .int _,.int _ _ => true | .bool,.bool _ => true | .string,.str _ => true | _,_ => false) && z6F (k + 1) r q
  | _,_,_ => false
def zgx (t : TypeId) (cs : List V) : Bool :=
  !(P.stoodInHeld t) && match und P t with
  | .struct fs => z6F P 0 fs.toList cs
  | _ => false
def zAB (op : BinOp) (t : TypeId) (x y : Operand) (a b : V) : Option Eff :=
  match a,b with
  | .int k a,.int k' b =>
    match op with
    | .shl => some ⟨.int k (shl k a b),[],[nn b]⟩
    | .shr => some ⟨.int k (shr k a b),[],[nn b]⟩
    | op => bif zfD k k' then opInt op k a b else none
  | .str a,.str b => zBf op a b
  | .bool a,.bool b => match und P t,op with
    | .bool,.eql => ok1 (.bool (a == b))
    | .bool,.neq => ok1 (.bool !(a == b))
    | _,_ => none
  | .agg a,.agg b => bif zgx P t a then match op,z9F a b with
    | .eql,some x => ok1 (.bool x)
    | .neq,some x => ok1 (.bool !x)
    | _,_ => none else none
  | .arr .str a,.arr .str b => match und P t,op with
    | .array n e,.eql => (match und P e with | .string => bif Nat.beq (P.cellsOf e) 1 then some ⟨.bool (@BEq.beq (List (List UInt8)) _ a b),[],[a.length = n,b.length = n]⟩ else none | _ => none)
    | _,_ => none
  | .lst _ _ 2,.nil => match und P t,op with
    | .slice _,.eql => ok1 (.bool false)
    | .slice _,.neq => ok1 (.bool true)
    | _,_ => none
  | .lst _ _ 3,.nil => match und P t,op with
    | .slice _,.eql => ok1 (.bool true)
    | .slice _,.neq => ok1 (.bool false)
    | _,_ => none
  | .nil,.nil => match und P t,op with
    | .slice _,.eql => ok1 (.bool true)
    | .slice _,.neq => ok1 (.bool false)
    | _,_ => none
  | .niface,.niface => bif isConst x || isConst y then match und P t,op with
    | .interface _,.eql => ok1 (.bool true)
    | .interface _,.neq => ok1 (.bool false)
    | _,_ => none else none
  | .niface,.err b => bif isConst x then match und P t,op with
    | .interface _,.eql => ok1 (.bool !b)
    | .interface _,.neq => ok1 (.bool b)
    | _,_ => none else none
  | .err b,.niface => bif isConst y then match und P t,op with
    | .interface _,.eql => ok1 (.bool !b)
    | .interface _,.neq => ok1 (.bool b)
    | _,_ => none else none
  | .niface,.iface _ _ => match und P t,op with
    | .interface _,.eql => ok1 (.bool false)
    | .interface _,.neq => ok1 (.bool true)
    | _,_ => none
  | .iface _ _,.niface => match und P t,op with
    | .interface _,.eql => ok1 (.bool false)
    | .interface _,.neq => ok1 (.bool true)
    | _,_ => none
  | _,_ => none
def opUn (op : UnOp) (x : V) : Option Eff :=
  match op,x with
  | .neg,.int k n => ok1 (.int k (k.wrap (0 - n)))
  | .xor,.int k n => ok1 (.int k (ixor k (if k.signed then -1 else k.max) n))
  | .not,.bool b => ok1 (.bool !b)
  | _,_ => none
def made (nid : Nat) (dir : Option Dir) (s : Shape) (xs : List (El s)) (fz : Nat) (upd : List (Nat × C)) (conds : List Prop) : Option Eff :=
  match dir with
  | some .lst => some ⟨.lst s xs 0,(nid,.dead) :: upd,conds⟩
  | _ => some ⟨.row nid,(nid,.row s xs fz) :: upd,conds⟩
def zzm (hp : Nat → Option C) (nid : Nat) (dir : Option Dir) (src dst : TypeId) (x : V) : Option Eff :=
  match und P src,und P dst,x with
  | .invalid,_,_ => none
  | _,.int k,.int _ n => ok1 (.int k (k.wrap n))
  | _,.string,.str s => ok1 (.str s)
  | _,.slice e,.str s => match und P e with
    | .int .u8 => made nid dir (.int .u8) (bytesOf s) 0 [] []
    | _ => none
  | .slice e,.string,x => match und P e with
    | .int .u8 => match listOf hp (.int .u8) x with
      | some xs => ok1 (.str (strOf xs))
      | none => match x with
        | .row id => match hp id with
          | some (.row (.int .u8) xs _) => ok1 (.str (strOf xs))
          | _ => none
        | _ => none
    | _ => none
  | _,_,_ => none
def scal : V → Bool
  | .undef => false
  | .agg _ => false
  | .tuple _ => false
  | .arr _ _ => false
  | .cnd _ _ _ _ => false
  | _ => true
def zru : V → Bool
  | .agg _ => true
  | x => scal x
def fieldAt (t : TypeId) (f : Nat) : Option (Nat × TypeId) :=
  match und P t with
  | .struct fs => match fs[f]? with
    | some x => some (x.offset,x.type)
    | none => none
  | _ => none
def zan (t : TypeId) : Nat := P.cellsOf t
def zcf (t : TypeId) : Nat := P.bytesOf t
def tsz (t : TypeId) (n : Nat) : Bool :=
  match P.info? t with
  | some i => Nat.beq i.size n
  | none => false
def zeI (t : TypeId) (cells : List V) (off : Nat) : Option V :=
  match und P t with
  | .invalid => none
  | .struct _ => bif tsz P t (takeN cells off (zan P t)).length then some (.agg (takeN cells off (zan P t))) else none
  | .array _ _ => bif tsz P t (takeN cells off (zan P t)).length then some (.agg (takeN cells off (zan P t))) else none
  | _ => cells[off]?
def zwZ (t : TypeId) (x : V) (f : Nat) : Option Eff :=
  match fieldAt P t f,x with
  | some (off,ft),.agg cs => match zeI P ft cs off with
    | some v => ok1 v
    | none => none
  | _,_ => none
def zkB (t : TypeId) (x : V) (f : Nat) : Option Eff :=
  match fieldAt P t f with
  | some (off,ft) => bif Nat.beq (zan P ft) 0 || !(tsz P ft (zan P ft)) then none else
    match x with
    | .ptr id o => ok1 (.ptr id (o + off))
    | .eptr id sz i o => ok1 (.eptr id sz i (o + off))
    | .pptr cs o => ok1 (.pptr cs (o + off))
    | _ => none
  | none => none
def zxz : TypeDesc → Bool
  | .invalid => false
  | .struct _ => false
  | .array _ _ => false
  | _ => true
def zkC (hp : Nat → Option C) (t : TypeId) (x i : V) : Option Eff :=
  match und P t,i with
  | .slice e,.int _ i =>
    match x with
    | .lst s xs _ => bif tsz P e (size s) && Nat.blt 0 (size s) then some ⟨.pptr (explode s (rdE s xs i)) 0,[],[within i xs.length]⟩ else none
    | .row id => match hp id with
      | some (.row s xs _) => bif tsz P e (size s) && Nat.blt 0 (size s) then some ⟨.eptr id (size s) i 0,[],[within i xs.length]⟩ else none
      | _ => none
    | _ => none
  | .array n e,.int _ i =>
    match x with
    | .ptr id 0 => match hp id with
      | some (.arr s xs) => bif tsz P e (size s) && Nat.blt 0 (size s) then some ⟨.eptr id (size s) i 0,[],[within i xs.length,xs.length = n]⟩ else none
      | _ => none
    | _ => none
  | _,_ => none
def zwd (t : TypeId) (x i : V) : Option Eff :=
  match und P t,x,i with
  | .string,.str s,.int _ i => some ⟨.int .u8 (bt s i),[],[within i s.length]⟩
  | .array n e,.arr s xs,.int _ i => bif tsz P e 1 && !(z3k s) && zxz (und P e) then some ⟨elV s (rdE s xs i),[],[within i xs.length,xs.length = n]⟩ else none
  | _,_,_ => none
def zxm (hp : Nat → Option C) (t : TypeId) (p : V) : Option Eff :=
  match p with
  | .ptr id off => match hp id with
    | some (.box cells) => match zeI P t cells off with
      | some v => ok1 v
      | none => none
    | some (.arr s xs) => match off,und P t with
      | 0,.array n e => bif tsz P e (size s) && tsz P t (n * size s) then some ⟨.arr s xs,[],[xs.length = n]⟩ else none
      | _,_ => none
    | _ => none
  | .eptr id sz i off => match hp id with
    | some (.row s xs _) => bif Nat.beq (size s) sz then (match zeI P t (explode s (rdE s xs i)) off with
      | some v => some ⟨v,[],[within i xs.length]⟩
      | none => none) else none
    | some (.arr s xs) => bif Nat.beq (size s) sz then (match zeI P t (explode s (rdE s xs i)) off with
      | some v => some ⟨v,[],[within i xs.length]⟩
      | none => none) else none
    | _ => none
  | .pptr cells off => match zeI P t cells off with
    | some v => ok1 v
    | none => none
  | _ => none
def zwB (hp : Nat → Option C) (t : TypeId) (p x : V) : Option Eff :=
  match p with
  | .ptr id off => match hp id with
    | some (.box cells) =>
      (let cs := PE.cellsOf x; bif tsz P t cs.length && Nat.ble (off + cs.length) cells.length && cs.all scal then some ⟨.undef,[(id,.box (putN cells off cs))],[]⟩ else none)
    | some (.arr s xs) => match off,x,und P t with
      | 0,.arr s' ys,.array n _ => match ztU s s' ys with
        | some zs => bif tsz P t (n * size s) then some ⟨.undef,[(id,.arr s zs)],[zs.length = n,xs.length = n]⟩ else none
        | none => none
      | _,_,_ => none
    | _ => none
  | .eptr id sz i off => match hp id with
    | some (.row s xs 0) => bif Nat.beq (size s) sz && tsz P t (PE.cellsOf x).length && (PE.cellsOf x).all scal then (match zbK hp s (putN (explode s (rdE s xs i)) off (PE.cellsOf x)) with
      | some y => bif Nat.ble (off + (PE.cellsOf x).length) sz then some ⟨.undef,[(id,.row s (xs.set i.toNat y) 0)],[within i xs.length]⟩ else none
      | none => none) else none
    | some (.arr s xs) => bif Nat.beq (size s) sz && tsz P t (PE.cellsOf x).length && (PE.cellsOf x).all scal then (match zbK hp s (putN (explode s (rdE s xs i)) off (PE.cellsOf x)) with
      | some y => bif Nat.ble (off + (PE.cellsOf x).length) sz then some ⟨.undef,[(id,.arr s (xs.set i.toNat y))],[within i xs.length]⟩ else none
      | none => none) else none
    | _ => none
  | _ => none
def zEi : TypeDesc → Bool
  | .array _ _ => true
  | _ => false
def isZ : Shape → Value → Bool
  | .int k,.int k' n => zfD k k' && n == 0
  | .bool,.bool b => !b
  | .str,.string t => t.data.toList.isEmpty
  | .list _,.slice none 0 0 => true
  | _,_ => false
def zkz (t : TypeId) (s : Shape) (n : Nat) : Bool :=
  match P.info? t with
  | some i => match i.zero with
    | some (.agg cs) => Nat.beq cs.toList.length n && cs.toList.all (isZ s)
    | _ => false
  | none => false
def ztf (nid : Nat) (t : TypeId) : Option Eff :=
  match und P t with
  | .array n e => match shp P 4 e with
    | some s => bif z3k s then none else bif zkz P t s n then some ⟨.ptr nid 0,[(nid,.arr s (List.replicate n (dflt s)))],[]⟩ else none
    | none => none
  | _ => match zeroCells P t with
    | some cs => some ⟨.ptr nid 0,[(nid,.box cs)],[]⟩
    | none => none
def zzQ (nid : Nat) (x : V) : Option Eff :=
  match x with
  | .arr s xs => some ⟨.ptr nid 0,[(nid,.arr s xs)],[]⟩
  | x => bif zru x then some ⟨.ptr nid 0,[(nid,.box (PE.cellsOf x))],[]⟩ else none
def zz8 (t : TypeId) : List V → List (Nat × V) → Option (List V)
  | cells,[] => some cells
  | cells,(i,x) :: r => match fieldAt P t i with
    | some (off,ft) => bif tsz P ft (PE.cellsOf x).length && Nat.ble (off + (PE.cellsOf x).length) cells.length && zru x then zz8 t (putN cells off (PE.cellsOf x)) r else none
    | none => none
def zyq (hp : Nat → Option C) (s : Shape) : List (El s) → List (Nat × V) → Option (List (El s))
  | xs,[] => some xs
  | xs,(i,x) :: r => match zc0 hp s x with
    | some y => bif Nat.blt i xs.length then zyq hp s (xs.set i y) r else none
    | none => none
def zwl (hp : Nat → Option C) (t : TypeId) (parts : List (Nat × V)) : Option Eff :=
  match und P t with
  | .array n e => match shp P 4 e with
    | some s => bif z3k s then none else bif zkz P t s n && tsz P e 1 then (match zyq hp s (List.replicate n (dflt s)) parts with
      | some xs => ok1 (.arr s xs)
      | none => none) else none
    | none => none
  | .struct fs => bif fs.toList.all (fun f => (P.info? f.type).isSome) then (match zeroCells P t with
    | some cs => match zz8 P t cs parts with
      | some cs => ok1 (.agg cs)
      | none => none
    | none => none) else none
  | _ => none
def ztn (t : TypeId) (n : Nat) : Bool :=
  match P.info? t with
  | some i => match i.zero with
    | some z => Nat.beq z.cells.toList.length n
    | none => false
  | none => false
def elems (hp : Nat → Option C) (s : Shape) : Nat → List (Nat × V) → Option (List (El s))
  | _,[] => some []
  | k,(i,x) :: r => bif Nat.beq i k && zru x then (match zbK hp s (PE.cellsOf x) with
    | some y => match elems hp s (k + 1) r with
      | some ys => some (y :: ys)
      | none => none
    | none => none) else none
def ze5 (hp : Nat → Option C) (nid : Nat) (dir : Option Dir) (t : TypeId) (n : Nat) (parts : List (Nat × V)) : Option Eff :=
  match und P t with
  | .slice e => match shp P 4 e with
    | some s => bif tsz P e (size s) && Nat.ble (n * zan P e) 16777216 && Nat.beq parts.length n && ztn P e (size s) then (match elems hp s 0 parts with
      | some xs => match dir with
        | some .row => some ⟨.row nid,[(nid,.row s xs 0)],[]⟩
        | _ => some ⟨.lst s xs 1,[(nid,.dead)],[]⟩
      | none => none) else none
    | none => none
  | _ => none
def bound : Option V → Option (Option Int)
  | none => some none
  | some (.int _ i) => some (some i)
  | _ => none
def zwk (hp : Nat → Option C) (nid : Nat) (t : TypeId) (x : V) (lo hi mx : Option V) : Option Eff :=
  match und P t,x,bound lo,bound hi,bound mx with
  | .string,.str s,some none,some none,some none => ok1 (.str s)
  | .string,.str s,some (some l),some none,some none => some ⟨.str (s.drop l.toNat),[],[cLo l s.length]⟩
  | .string,.str s,some none,some (some h),some none => some ⟨.str (s.take h.toNat),[],[cLo h s.length]⟩
  | .string,.str s,some (some l),some (some h),some none => some ⟨.str ((s.take h.toNat).drop l.toNat),[],[cLH l h s.length]⟩
  | .slice e,x,some l,some h,some m =>
    match shp P 4 e with
    | some s => bif tsz P e (size s) then (match listOf hp s x with
      | some xs => match l,h,m with
        | some l,none,none => some ⟨.lst s (xs.drop l.toNat) 0,[],[cLo l xs.length]⟩
        | none,some h,none => some ⟨.lst s (xs.take h.toNat) 0,[],[cLo h xs.length]⟩
        | some l,some h,none => some ⟨.lst s ((xs.take h.toNat).drop l.toNat) 0,[],[cLH l h xs.length]⟩
        | none,some 0,some 0 => some ⟨.lst s [] 1,[],[cLH 0 0 xs.length]⟩
        | none,some h,some m => some ⟨.lst s (xs.take h.toNat) 0,[],[cLH h m xs.length]⟩
        | _,_,_ => none
      | none => none) else none
    | none => none
  | .array n e,.ptr id 0,some none,some none,some none => match hp id with
    | some (.arr s xs) => bif tsz P e (size s) then some ⟨.lst s xs 0,[(id,.dead)],[xs.length = n]⟩ else none
    | _ => none
  | .array n e,.ptr id 0,some (some l),some none,some none => match hp id with
    | some (.arr s xs) => bif tsz P e (size s) then some ⟨.lst s (xs.drop l.toNat) 0,[(id,.dead)],[xs.length = n,cLo l xs.length]⟩ else none
    | _ => none
  | _,_,_,_,_ => none
def zmd : Shape → List Shape
  | .user n => Univ.fields n
  | s => [s]
def isZs : List Shape → List Value → Bool
  | [],[] => true
  | s :: r,v :: q => isZ s v && isZs r q
  | _,_ => false
def zl7 (t : TypeId) (s : Shape) : Bool :=
  match P.info? t with
  | some i => match i.zero with
    | some z => isZs (zmd s) z.cells.toList && Nat.beq i.size (size s) && (match z,z3k s with | .agg _,true => true | .agg _,false => false | _,true => false | _,false => true)
    | none => false
  | none => false
def zrL (t : TypeId) : Shape → Bool
  | .int k => match und P t with
    | .int k' => zfD k k'
    | _ => false
  | .bool => match und P t with
    | .bool => true
    | _ => false
  | .str => match und P t with
    | .string => true
    | _ => false
  | _ => false
def zfY (s : Shape) : V → Bool
  | .agg _ => z3k s
  | x => scal x && !(z3k s)
def zt5 (hp : Nat → Option C) (t : TypeId) (m k : V) (ok : Bool) : Option Eff :=
  match und P t,m with
  | .map kt et,.map id => match hp id with
    | some (.tmap ks vs es) => bif zrL P kt ks && zl7 P et vs then (match zc0 hp ks k with
      | some kk => bif ok then ok1 (.tuple [elV vs ((zyk ks vs kk es).getD (dflt vs)),.bool (zyk ks vs kk es).isSome])
        else ok1 (elV vs ((zyk ks vs kk es).getD (dflt vs)))
      | none => none) else none
    | _ => none
  | _,_ => none
def zl6 (nid : Nat) (t : TypeId) (r : Option V) : Option Eff :=
  match und P t,r with
  | .map kt et,none => match shp P 4 kt,shp P 4 et with
    | some ks,some vs => some ⟨.map nid,[(nid,.tmap ks vs [])],[]⟩
    | _,_ => none
  | _,_ => none
def zp5 (hp : Nat → Option C) (t : TypeId) (m k x : V) : Option Eff :=
  match und P t,m with
  | .map kt et,.map id => match hp id with
    | some (.tmap ks vs es) => bif zrL P kt ks && zfY vs x then (match zc0 hp ks k,zbK hp vs (PE.cellsOf x) with
      | some kk,some y => some ⟨.undef,[(id,.tmap ks vs (aset ks vs kk y es))],[]⟩
      | _,_ => none) else none
    | _ => none
  | _,_ => none
def zkq (nid : Nat) (dir : Option Dir) (t : TypeId) (l c : V) : Option Eff :=
  match und P t,l,c with
  | .slice e,.int .i64 l,.int .i64 c => match shp P 4 e with
    | some s => bif tsz P e (size s) && zl7 P e s then
        made nid dir s (List.replicate l.toNat (dflt s)) 0 [] [cMk l c (zcf P e)]
      else none
    | none => none
  | _,_,_ => none
def zty (hp : Nat → Option C) (s : Shape) : V → Option (List (El s))
  | .nil => some []
  | .lst s' xs _ => ztU s s' xs
  | .row id => match hp id with
    | some (.row s' xs _) => ztU s s' xs
    | _ => none
  | .str b => ztU s (.int .u8) (bytesOf b)
  | _ => none
def zg2 (hp : Nat → Option C) (nid : Nat) (dir : Option Dir) (t : TypeId) (b x : V) : Option Eff :=
  match und P t with
  | .slice e => match shp P 4 e with
    | some s => bif tsz P e (size s) && zl7 P e s && Nat.blt 0 (zcf P e) then (match zty hp s x with
      | some ys => match b with
        | .nil => made nid dir s ys 0 [] [fits (ys.length * zcf P e)]
        | .lst _ [] 1 => made nid dir s ys 0 [] [fits (ys.length * zcf P e)]
        | .row id => match hp id with
          | some (.row s' xs fz) => match ztU s s' xs with
            | some xs => made nid dir s (xs ++ ys) (match fz with | 0 => 0 | _ => 1) [(id,.dead)] [fits ((xs.length + ys.length) * zcf P e)]
            | none => none
          | _ => none
        | _ => none
      | none => none) else none
    | none => none
  | _ => none
def zyt (hp : Nat → Option C) (t : TypeId) (d x : V) : Option Eff :=
  match und P t with
  | .slice e => match d with
    | .row id => match hp id with
      | some (.row s xs 0) => bif tsz P e (size s) then (match zty hp s x with
        | some ys => some ⟨.int .i64 (min ys.length xs.length : Nat),[(id,.row s (ys.take xs.length ++ xs.drop ys.length) 0)],[]⟩
        | none => none) else none
      | _ => none
    | _ => none
  | _ => none
def zpR (hp : Nat → Option C) (nid : Nat) (dir : Option Dir) (b : Builtin) (ts : List TypeId) (vs : List V) : Option Eff :=
  match b,ts,vs with
  | .len,[t],[x] => match und P t,x with
    | .array n _,_ => ok1 (.int .i64 n)
    | .string,.str s => ok1 (.int .i64 s.length)
    | .slice _,.lst _ xs _ => ok1 (.int .i64 xs.length)
    | .slice _,.nil => ok1 (.int .i64 (0 : Nat))
    | .slice _,.row id => match hp id with
      | some (.row _ xs _) => ok1 (.int .i64 xs.length)
      | _ => none
    | .map _ _,.map id => match hp id with
      | some (.tmap _ _ es) => ok1 (.int .i64 es.length)
      | _ => none
    | _,_ => none
  | .append,[t,u],[a,x] => match und P u with
    | .int _ => none
    | .invalid => none
    | _ => zg2 P hp nid dir t a x
  | .copy,[t,_],[a,x] => zyt P hp t a x
  | .min,_,[.int k x,.int k' y] => bif zfD k k' then ok1 (.int k (if y < x then y else x)) else none
  | .max,_,[.int k x,.int k' y] => bif zfD k k' then ok1 (.int k (if y > x then y else x)) else none
  | _,_,_ => none
mutual
def ren (m : List (Nat × Nat)) : V → Option V
  | .row id => match get m id with | some j => some (.row j) | none => none
  | .ptr id off => match get m id with | some j => some (.ptr j off) | none => none
  | .eptr id sz i off => match get m id with | some j => some (.eptr j sz i off) | none => none
  | .map id => match get m id with | some j => some (.map j) | none => none
  | .agg cs => match rens m cs with | some x => some (.agg x) | none => none
  | .tuple cs => match rens m cs with | some x => some (.tuple x) | none => none
  | .fn f a b => match rens m a with
    | some x => match rens m b with
      | some y => some (.fn f x y)
      | none => none
    | none => none
  | .iface t v => match ren m v with | some x => some (.iface t x) | none => none
  | .undef => some .undef
  | .int k n => some (.int k n)
  | .bool b => some (.bool b)
  | .str s => some (.str s)
  | .nil => some .nil
  | .lst s xs c => some (.lst s xs c)
  | .arr s xs => some (.arr s xs)
  | .pptr cs off => match rens m cs with | some x => some (.pptr x off) | none => none
  | .nilptr => some .nilptr
  | .nilfn => some .nilfn
  | .nilmap => some .nilmap
  | .niface => some .niface
  | .err b => some (.err b)
  | .tb _ c => some (.bool c)
  | .cnd _ _ _ _ => none
def rens (m : List (Nat × Nat)) : List V → Option (List V)
  | [] => some []
  | v :: r => match ren m v with
    | some x => match rens m r with
      | some y => some (x :: y)
      | none => none
    | none => none
end
def renC (m : List (Nat × Nat)) : C → Option C
  | .box cs => match rens m cs with | some x => some (.box x) | none => none
  | c => some c
def zus (m : List (Nat × Nat)) : List C → Option (List C)
  | [] => some []
  | v :: r => match renC m v with
    | some x => match zus m r with
      | some y => some (x :: y)
      | none => none
    | none => none
def zxT (hp : Nat → Option C) (s : Shape) (v : V) : Option V :=
  bif zfY s v then (match zbK hp s (PE.cellsOf v) with
  | some x => some (elV s x)
  | none => none) else none
def zua (hp : Nat → Option C) : List (Option Shape) → List V → Option (List V)
  | [],[] => some []
  | some s :: q,v :: r => match zxT hp s v,zua hp q r with
    | some x,some y => some (x :: y)
    | _,_ => none
  | none :: q,v :: r => match zua hp q r with
    | some y => some (v :: y)
    | none => none
  | _,_ => none
def numbered (k : Nat) : List Nat → List (Nat × Nat)
  | [] => []
  | a :: r => (a,k) :: numbered (k + 1) r
def back (k : Nat) : List Nat → List (Nat × Nat)
  | [] => []
  | a :: r => (k,a) :: back (k + 1) r
def fresh (nid k : Nat) : Nat → List Nat
  | 0 => []
  | n + 1 => (nid + k) :: fresh nid (k + 1) n
def zipU : List Nat → List C → List (Nat × C)
  | a :: r,c :: q => (a,c) :: zipU r q
  | _,_ => []
def nodup : List Nat → Bool
  | [] => true
  | a :: r => !(r.any (Nat.beq a)) && nodup r
def contents (hp : Nat → Option C) : List Nat → Option (List C)
  | [] => some []
  | a :: r => match hp a with
    | some c => match contents hp r with
      | some q => some (c :: q)
      | none => none
    | none => none
def zyA (hp : Nat → Option C) (nid : Nat) (dir : Option Dir) (f : V) (vs : List V) : Option Eff :=
  match f,dir with
  | .fn f first caps,some (.call keep shs res outs news) =>
    match zua hp shs (first ++ vs ++ caps),contents hp keep with
    | some as,some ins =>
      match rens (numbered 0 keep) as,zus (numbered 0 keep) ins with
      | some as,some ins =>
        let ids := keep ++ fresh nid 0 news.length
        match ren (back 0 ids) res,zus (back 0 ids) outs,zus (back 0 ids) news with
        | some res',some outs',some news' =>
          bif Nat.beq outs.length keep.length && nodup keep && Nat.ble news.length 40 then some ⟨res',zipU ids (outs' ++ news'),[SP f as ins res outs news]⟩ else none
        | _,_,_ => none
      | _,_ => none
    | _,_ => none
  | _,_ => none
def zz3 (hp : Nat → Option C) (dir : Option Dir) (it : V) (isString : Bool) : Option Eff :=
  match it,isString with
  | .ptr id 0,true => match hp id,dir with
    | some (.siter s pos),some .yes =>
      some ⟨.tuple [.bool true,.int .i64 pos,.int .i32 (sdec s pos).1],[(id,.siter s (pos + (sdec s pos).2))],[pos < s.length]⟩
    | some (.siter s pos),some .no => some ⟨.tuple [.bool false],[],[¬ pos < s.length]⟩
    | _,_ => none
  | _,_ => none
def zwv (nid : Nat) (t : TypeId) (x : V) : Option Eff :=
  match und P t,x with
  | .string,.str s => some ⟨.ptr nid 0,[(nid,.siter s 0)],[]⟩
  | _,_ => none
def evs (ev : Operand → V) : List Operand → List V
  | [] => []
  | x :: r => ev x :: evs ev r
def parts (ev : Operand → V) : List (Nat × Operand) → List (Nat × V)
  | [] => []
  | (i,x) :: r => (i,ev x) :: parts ev r
def eff (hp : Nat → Option C) (nid : Nat) (dir : Option Dir) (ev : Operand → V) (op : Op) : Option Eff :=
  match op with
  | .move x => ok1 (ev x)
  | .assign x => ok1 (ev x)
  | .pick c a b => match ev c with
    | .bool true => ok1 (ev a)
    | .bool false => ok1 (ev b)
    | _ => none
  | .alloc t => ztf P nid t
  | .box _ x => zzQ nid (ev x)
  | .build t ps => zwl P hp t (parts ev ps.toList)
  | .buildSlice t n ps => ze5 P hp nid dir t n (parts ev ps.toList)
  | .load t a => zxm P hp t (ev a)
  | .store t a x => zwB P hp t (ev a) (ev x)
  | .nilCheck x => match ev x with
    | .ptr id off => ok1 (.ptr id off)
    | .eptr id sz i off => ok1 (.eptr id sz i off)
    | .pptr cs off => ok1 (.pptr cs off)
    | .fn f a b => ok1 (.fn f a b)
    | _ => none
  | .binOp op t x y _ => zAB P op t x y (ev x) (ev y)
  | .unOp op _ x => opUn op (ev x)
  | .convert s d x => zzm P hp nid dir s d (ev x)
  | .makeInterface t x => match und P t with
    | .interface _ => none
    | .invalid => none
    | _ => ok1 (.iface t (ev x))
  | .makeFunc (.func f) a b => ok1 (.fn f (evs ev a.toList) (evs ev b.toList))
  | .makeMap t r => zl6 P nid t (match r with | some x => some (ev x) | none => none)
  | .makeSlice t l c => zkq P nid dir t (ev l) (ev c)
  | .slice t x lo hi mx => zwk P hp nid t (ev x) (match lo with | some x => some (ev x) | none => none) (match hi with | some x => some (ev x) | none => none) (match mx with | some x => some (ev x) | none => none)
  | .fieldAddr t x f => zkB P t (ev x) f
  | .field t x f => zwZ P t (ev x) f
  | .indexAddr t x i => zkC P hp t (ev x) (ev i)
  | .index t x i => zwd P t (ev x) (ev i)
  | .lookup t x i ok => zt5 P hp t (ev x) (ev i) ok
  | .mapUpdate t m k x => zp5 P hp t (ev m) (ev k) (ev x)
  | .insert t m k x => zp5 P hp t (ev m) (ev k) (ev x)
  | .range t x => zwv P nid t (ev x)
  | .next it s => zz3 hp dir (ev it) s
  | .extract t i => match ev t with
    | .tuple vs => match vs[i]? with
      | some v => ok1 v
      | none => none
    | _ => none
  | .call c => match c.callee with
    | .builtin b => zpR P hp nid dir b c.argTypes.toList (evs ev c.args.toList)
    | .value f => zyA SP hp nid dir (ev f) (evs ev c.args.toList)
    | _ => none
  | _ => none
def decided (dir : Option Bool) (e : Eff) : Eff :=
  match dir,e.v with
  | some true,.bool b => ⟨.bool true,e.upd,e.conds ++ [b = true]⟩
  | some false,.bool b => ⟨.bool false,e.upd,e.conds ++ [b = false]⟩
  | _,_ => e
structure St where
  tm : List (Nat × V)
  hp : List (Nat × C)
def zyV : V → V
  | .tb _ c => .bool c
  | v => v
def evO (tm : List (Nat × V)) : Operand → V
  | .tmp t => zyV (getV tm t)
  | .const v => zvU v
  | .global _ => .undef
  | .func f => .fn f [] []
mutual
def ment : V → List Nat
  | .row id => [id]
  | .ptr id _ => [id]
  | .eptr id _ _ _ => [id]
  | .map id => [id]
  | .agg cs => zlN cs
  | .tuple cs => zlN cs
  | .fn _ a b => zlN a ++ zlN b
  | .iface _ v => ment v
  | .cnd _ _ _ v => ment v
  | _ => []
def zlN : List V → List Nat
  | [] => []
  | v :: r => ment v ++ zlN r
end
def zqa : List (Nat × C) → List (Nat × C) → List (Nat × C)
  | [],h => h
  | (id,c) :: r,h => (id,c) :: zqa r h
structure Foot where
  i : Nat
  acc : List Nat
  wr : List Nat
  rd : List Nat
  wt : List Nat
def only (acc : List Nat) (hp : Nat → Option C) : Nat → Option C := fun id => bif acc.any (Nat.beq id) then hp id else none
def tmpsOf : List Operand → List Nat
  | [] => []
  | .tmp t :: r => t :: tmpsOf r
  | _ :: r => tmpsOf r
def slotsOf (ops : List Oper) (o : Oper) : List Nat :=
  tmpsOf o.op.operands.toList ++ o.dst.toList ++ (match o.guard with
    | some (j,_) => (match ops[j]? with
      | some o' => o'.dst.toList
      | none => [])
    | none => [])
def keys (l : List (Nat × C)) : List Nat := l.map (·.1)
def zlQ (tm : List (Nat × V)) (o : Oper) : List V := o.op.operands.toList.map (evO tm)
def zxS (ds : List (Nat × Dir)) (i : Nat) : Option Dir := get ds i
def zxa : Option Dir → List Nat
  | some (.call keep _ _ _ _) => keep
  | _ => []
def runs (ops : List Oper) (tm : List (Nat × V)) : Option (Nat × Bool) → Option Bool
  | none => some true
  | some (j,want) => match ops[j]? with
    | some o => match o.dst with
      | some d => match getV tm d with
        | .bool true => some want
        | .bool false => some !want
        | .tuple _ => some false
        | _ => none
      | none => none
    | none => none
def chain : V → List (Nat × Bool × Bool)
  | .cnd t c w v => (t,c,w) :: chain v
  | _ => []
def core : V → V
  | .cnd _ _ _ v => core v
  | v => v
def zql : Bool → Bool → Bool
  | true,b => b
  | false,b => !b
def peel : List (Nat × Bool × Bool) → V → Option V
  | (t,_,w) :: g,.cnd t' _ w' v => bif Nat.beq t t' && zql w w' then peel g v else none
  | _,v => some v
def under (g : List (Nat × Bool × Bool)) (v : V) : V := g.foldr (fun p u => .cnd p.1 p.2.1 p.2.2 u) v
def rawO (tm : List (Nat × V)) : Operand → V
  | .tmp t => getV tm t
  | x => evO tm x
def zwt (g : List (Nat × Bool × Bool)) (tm : List (Nat × V)) (x : Operand) : V :=
  match peel g (rawO tm x) with
  | some v => v
  | none => .undef
def zDV (g : List (Nat × Bool × Bool)) (tm : List (Nat × V)) (x : Operand) : V := zyV (zwt g tm x)
def tests (ops : List Oper) (tm : List (Nat × V)) : Option (Nat × Bool) → Option (List (Nat × Bool × Bool))
  | none => some []
  | some (j,want) => match ops[j]? with
    | some o => match o.dst with
      | some d => match core (getV tm d) with
        | .tb t c => some (chain (getV tm d) ++ [(t,c,want)])
        | _ => none
      | none => none
    | none => none
def side (t : Nat) (w : Bool) : V → Option Bool
  | .bool b => some b
  | .tb _ b => some b
  | .cnd t' _ w' (.bool b) => bif Nat.beq t t' && zql w w' then some b else none
  | .cnd t' _ w' (.tb _ b) => bif Nat.beq t t' && zql w w' then some b else none
  | _ => none
def ztM (hp : Nat → Option C) (g : List (Nat × Bool × Bool)) (tm : List (Nat × V)) (op : Op) : Option V :=
  match op with
  | .pick c a b => match zwt g tm c with
    | .tb t x => match side t true (zwt g tm a),side t false (zwt g tm b) with
      | some p,some q => some (.bool (bif x then p else q))
      | _,_ => none
    | _ => none
  | op => match eff P SP hp 0 none (zDV g tm) op with
    | some ⟨v,[],[]⟩ => some v
    | _ => none
def mark (tag : Nat) : V → Option V
  | .bool c => some (.tb tag c)
  | _ => none
def setD (tm : List (Nat × V)) (d : Option Nat) (v : V) : List (Nat × V) :=
  match d with
  | some t => (t,v) :: tm
  | none => tm
def zjR (hp : List (Nat × C)) (lo : Nat) : List Nat → Bool
  | [] => true
  | id :: r => (bif Nat.ble lo id && Nat.blt id (lo + 100) then (get hp id).isNone else (get hp id).isSome) && zjR hp lo r
def zuq (nt : Nat) : Option Nat → Bool
  | none => true
  | some d => Nat.blt d nt
structure RD where
  fz : List Nat
  ds : List (Nat × Dir)
  bs : List (Nat × Bool)
  soft : List (Nat × Bool)
  tg : List Nat
def finish (nid i : Nat) (d : RD) (e : Eff) : Option Eff :=
  bif d.tg.any (Nat.beq i) then (match (bif (keys e.upd).any (Nat.beq (nid + 50)) then none else mark (nid + 50) e.v) with
    | some v => some ⟨v,(nid + 50,.dead) :: e.upd,e.conds⟩
    | none => none)
  else some (decided (get d.bs i) e)
def zhN (nt rid : Nat) (ops : List Oper) (d : RD) : List Oper → Nat → St → List Prop → List Foot → Option (St × List Prop × List Foot)
  | [],_,st,cs,fs => some (st,cs,fs)
  | o :: rest,i,st,cs,fs =>
    let nid := (rid + 1) * 100000 + i * 100
    bif !(zuq nt o.dst) then none else
    match get d.soft i with
    | some fl =>
      (match (bif fl then tests ops st.tm o.guard else (match runs ops st.tm o.guard with | some true => some [] | _ => none)) with
      | some g => match ztM P SP (only (zlN (zlQ st.tm o)) (get st.hp)) g st.tm o.op with
        | some v => match finish nid i d ⟨v,[],[]⟩ with
          | some ⟨v,upd,conds⟩ =>
            bif zjR st.hp nid (keys upd) then
              zhN nt rid ops d rest (i + 1) ⟨setD st.tm o.dst (under g v),zqa upd st.hp⟩ (cs ++ conds)
                (⟨i,zlN (zlQ st.tm o) ++ keys upd,keys upd,slotsOf ops o,o.dst.toList⟩ :: fs)
            else none
          | none => none
        | none => none
      | none => none)
    | none => match runs ops st.tm o.guard with
    | some true =>
      match eff P SP (only (zlN (zlQ st.tm o) ++ zxa (zxS d.ds i)) (get st.hp)) nid (zxS d.ds i) (evO st.tm) o.op with
      | some e0 => match finish nid i d e0 with
        | some ⟨v,upd,conds⟩ =>
          bif zjR st.hp nid (keys upd) then
            zhN nt rid ops d rest (i + 1) ⟨setD st.tm o.dst v,zqa upd st.hp⟩ (cs ++ conds)
              (⟨i,zlN (zlQ st.tm o) ++ zxa (zxS d.ds i) ++ keys upd,keys upd,slotsOf ops o,o.dst.toList⟩ :: fs)
          else none
        | none => none
      | none => none
    | some false => zhN nt rid ops d rest (i + 1) ⟨setD st.tm o.dst (.tuple []),st.hp⟩ cs (⟨i,[],[],slotsOf ops o,o.dst.toList⟩ :: fs)
    | none => none
def z8k (acc : List Nat) : List Edge → Nat
  | [] => 0
  | e :: r => match e.ground with
    | .textOnly _ => z8k acc r
    | .gcOnly _ => z8k acc r
    | _ => Nat.lor (Nat.lor (2 ^ e.on) (acc.getD e.on 0)) (z8k acc r)
def z7o : List Oper → List Nat → List Nat
  | [],acc => acc
  | o :: r,acc => z7o r (acc ++ [z8k acc o.after.toList])
def meets : List Nat → List Nat → Bool
  | [],_ => false
  | a :: r,l => l.any (Nat.beq a) || meets r l
def zfZ (bf : List Nat) (g : Foot) : List Foot → Bool
  | [] => true
  | f :: r => (!(meets f.wr g.acc || meets g.wr f.acc || meets f.wt g.rd || meets g.wt f.rd) || Nat.testBit (bf.getD g.i 0) f.i) && zfZ bf g r
def ordered (bf : List Nat) : List Foot → Bool
  | [] => true
  | g :: r => zfZ bf g r && ordered bf r
def zgm : List Oper → Nat → Bool
  | [],_ => true
  | o :: r,i => o.after.toList.all (fun e => (match e.ground with
      | .textOnly _ => true
      | .gcOnly _ => true
      | _ => Nat.blt e.on i)) && zgm r (i + 1)
def zr6 (nt rid : Nat) (ops : Array Oper) (draw : Bool) (d : RD) (st : St) : Option (St × List Prop) :=
  match zhN P SP nt rid ops.toList d ops.toList 0 st [] [] with
  | some (st',cs,fs) => bif draw then (bif ordered (z7o ops.toList []) fs && zgm ops.toList 0 then some (st',cs) else none) else some (st',cs)
  | none => none
inductive Co where
  | fz (id : Nat)
  | nilRow (t : Nat) (s : Shape) (id : Nat)
  | mvRow (t : Nat) (id : Nat)
  | norm (t : Nat) (s : Shape)
  | bNilRow (b i : Nat) (s : Shape) (id : Nat)
  | bNorm (b n : Nat)
  | bNormC (b i : Nat) (s : Shape)
def fzs (hp : List (Nat × C)) : List Nat → Option (List (Nat × C))
  | [] => some hp
  | id :: r => match get hp id with
    | some (.row s xs _) => fzs ((id,.row s xs 2) :: hp) r
    | _ => none
def coSt (st : St) : Co → Option St
  | .fz id => match fzs st.hp [id] with
    | some hp => some ⟨st.tm,hp⟩
    | none => none
  | .nilRow t s id => match getV st.tm t,get st.hp id with
    | .nil,none => some ⟨(t,.row id) :: st.tm,(id,.row s [] 0) :: st.hp⟩
    | _,_ => none
  | .mvRow t id => match getV st.tm t with
    | .row old => match get st.hp old,get st.hp id with
      | some c,none => some ⟨(t,.row id) :: st.tm,(id,c) :: (old,.dead) :: st.hp⟩
      | _,_ => none
    | _ => none
  | .norm t s => match zxT (get st.hp) s (getV st.tm t) with
    | some v => some ⟨(t,v) :: st.tm,st.hp⟩
    | none => none
  | .bNilRow b i s id => match get st.hp b,get st.hp id with
    | some (.box cs),none => match cs[i]? with
      | some .nil => some ⟨st.tm,(id,.row s [] 0) :: (b,.box (cs.set i (.row id))) :: st.hp⟩
      | _ => none
    | _,_ => none
  | .bNorm b n => match get st.hp b with
    | some (.box cs) => match zbK (get st.hp) (.user n) cs with
      | some x => some ⟨st.tm,(b,.box (explode (.user n) x)) :: st.hp⟩
      | none => none
    | _ => none
  | .bNormC b i s => match get st.hp b with
    | some (.box cs) => match cs[i]? with
      | some v => bif z3k s then none else (match zbK (get st.hp) s [v] with
        | some x => some ⟨st.tm,(b,.box (cs.set i (elV s x))) :: st.hp⟩
        | none => none)
      | none => none
    | _ => none
def cos (st : St) : List Co → Option St
  | [] => some st
  | c :: r => match coSt st c with
    | some st' => cos st' r
    | none => none
def zvL (m : List (Nat × Nat)) (tm : List (Nat × V)) : List Nat → Option (List (Nat × V))
  | [] => some []
  | t :: r => match ren m (getV tm t),zvL m tm r with
    | some v,some q => some ((t,v) :: q)
    | _,_ => none
def zv8 (m : List (Nat × Nat)) (hp : List (Nat × C)) (k : Nat) : List Nat → Option (List (Nat × C))
  | [] => some []
  | id :: r => match get hp id with
    | some c => match renC m c,zv8 m hp (k + 1) r with
      | some c',some q => some ((k,c') :: q)
      | _,_ => none
    | none => none
def starts (k : Nat) : Nat → List Nat → Bool
  | 0,_ => true
  | n + 1,id :: r => Nat.beq id k && starts (k + 1) n r
  | _ + 1,[] => false
def prune (nin : Nat) (st : St) (slots ids : List Nat) : Option St :=
  bif !(starts 0 nin ids && nodup ids) then none else
  match zvL (numbered 0 ids) st.tm slots,zv8 (numbered 0 ids) st.hp 0 ids with
  | some tm,some hp => some ⟨tm,hp⟩
  | _,_ => none
def conj : List Prop → Prop → Prop
  | [],q => q
  | p :: r,q => p ∧ conj r q
def resV (tm : List (Nat × V)) (hp : List (Nat × C)) : List ResultVar → Option (List V × List Prop)
  | [] => some ([],[])
  | .tmp t :: r => match resV tm hp r with
    | some (q,cs) => some (zyV (getV tm t) :: q,cs)
    | none => none
  | .cell a t :: r => match zxm P (get hp) t (getV tm a),resV tm hp r with
    | some ⟨v,_,ds⟩,some (q,cs) => some (v :: q,ds ++ cs)
    | _,_ => none
def tup : List V → V
  | [v] => v
  | vs => .tuple vs
inductive Fin where
  | ret (co : List Co) (news : List Nat)
  | cut (co : List Co) (slots ids : List Nat)
  | cutRet (co : List Co) (slots ids : List Nat)
def upto (k : Nat) : Nat → List Nat
  | 0 => []
  | n + 1 => k :: upto (k + 1) n
def zyU (nin : Nat) (rs : List ResultVar) (st : St) (co : List Co) (news : List Nat) : Option (V × List C × List C × List Prop) :=
  bif !(nodup (upto 0 nin ++ news)) then none else
  match cos st co with
  | some st => match resV P st.tm st.hp rs with
    | some (vs,ps) => match contents (get st.hp) (upto 0 nin ++ news) with
      | some cs => match rens (numbered 0 (upto 0 nin ++ news)) vs,zus (numbered 0 (upto 0 nin ++ news)) cs with
        | some vs,some cs => some (tup vs,cs.take nin,cs.drop nin,ps)
        | _,_ => none
      | none => none
    | none => none
  | none => none
def exec (nin nt : Nat) (rs : List ResultVar) (goal : V → List C → List C → Prop) (PT : List Item → St → Prop) (fin : Fin) : Nat → List Item → St → List RD → Prop
  | 0,k,st,_ => match fin with
    | .cut co slots ids => match cos st co with
      | some st' => match prune nin st' slots ids with
        | some st'' => PT k st''
        | none => False
      | none => False
    | .cutRet co slots ids => match k with
      | .code .ret :: _ => match cos st co with
        | some st' => match prune nin st' slots ids with
          | some st'' => PT [.code .ret] st''
          | none => False
        | none => False
      | _ => False
    | .ret co news => match k with
      | .code .ret :: _ => match zyU P nin rs st co news with
        | some (v,outs,nws,ps) => conj ps (goal v outs nws)
        | none => False
      | [] => match zyU P nin rs st co news with
        | some (v,outs,nws,ps) => conj ps (goal v outs nws)
        | none => False
      | _ => False
  | n + 1,k,st,ds => match k with
    | .code (.seq a b) :: k => exec nin nt rs goal PT fin n (.code a :: .code b :: k) st ds
    | .code .skip :: k => exec nin nt rs goal PT fin n k st ds
    | .code (.label _) :: k => exec nin nt rs goal PT fin n k st ds
    | .inBlock _ :: k => exec nin nt rs goal PT fin n k st ds
    | .inScope _ :: k => exec nin nt rs goal PT fin n k st ds
    | .code (.block id c) :: k => exec nin nt rs goal PT fin n (.code c :: .inBlock id :: k) st ds
    | .code (.scope c) :: k => exec nin nt rs goal PT fin n (.code c :: .inScope c :: k) st ds
    | .code (.loop c) :: k => exec nin nt rs goal PT fin n (.code c :: .inLoop c :: k) st ds
    | .inLoop c :: k => exec nin nt rs goal PT fin n (.code c :: .inLoop c :: k) st ds
    | .code (.exit id) :: k => match exitTo id k with
      | some k' => exec nin nt rs goal PT fin n k' st ds
      | none => False
    | .code (.goto l) :: k => match gotoIn l k with
      | some k' => exec nin nt rs goal PT fin n k' st ds
      | none => False
    | .code (.cond c x y) :: k => match evO st.tm c with
      | .bool true => exec nin nt rs goal PT fin n (.code x :: k) st ds
      | .bool false => exec nin nt rs goal PT fin n (.code y :: k) st ds
      | _ => False
    | .code (.region rid ops draw) :: k => match ds with
      | d :: ds => match fzs st.hp d.fz with
        | some hp => match zr6 P SP nt rid ops draw d ⟨st.tm,hp⟩ with
          | some (st',cs) => conj cs (exec nin nt rs goal PT fin n k st' ds)
          | none => False
        | none => False
      | [] => False
    | _ => False
end
end Go.PE
namespace Go.PE
abbrev Facts := Nat → Nat → Option Value
abbrev Hand := Nat → Option Value
def Facts.le (I I' : Facts) : Prop := ∀ b o v,I b o = some v → I' b o = some v
def Hand.le (s s' : Hand) : Prop := ∀ i v,s i = some v → s' i = some v
theorem Facts.le_refl (I : Facts) : I.le I := fun _ _ _ h => h
theorem Hand.le_refl (s : Hand) : s.le s := fun _ _ h => h
theorem Facts.le_trans {I J K : Facts} (h : I.le J) (h' : J.le K) : I.le K := fun b o v e => h' b o v (h b o v e)
theorem Hand.le_trans {s t u : Hand} (h : s.le t) (h' : t.le u) : s.le u := fun b v e => h' b v (h b v e)
mutual
def repD (I : Facts) : D → Value → Prop
  | .int k n,v => v = .int k n
  | .bool b,v => v = .bool b
  | .str s,v => v = .string ⟨s.toArray⟩
  | .list n cells,v => ∃ base cap,v = .slice base n cap ∧ n ≤ cap ∧ (cells = [] ∨ ∃ b o,base = some ⟨b,o,none⟩ ∧ zqu I b o cells)
def zqu (I : Facts) (b : Nat) : Nat → List D → Prop
  | _,[] => True
  | o,d :: r => (∃ v,I b o = some v ∧ repD I d v) ∧ zqu I b (o + 1) r
end
def z1t (I : Facts) : List D → List Value → Prop
  | [],[] => True
  | d :: r,v :: q => repD I d v ∧ z1t I r q
  | _,_ => False
mutual
theorem zqe {I J : Facts} (h : I.le J) : (d : D) → (v : Value) → repD I d v → repD J d v
  | .int _ _,_,e => e
  | .bool _,_,e => e
  | .str _,_,e => e
  | .list n cells,v,e => by
    simp only [repD] at e ⊢
    obtain ⟨base,cap,hv,hc,hx⟩ := e
    refine ⟨base,cap,hv,hc,hx.imp id ?_⟩
    rintro ⟨b,o,hb,hs⟩
    exact ⟨b,o,hb,zsv h b cells o hs⟩
theorem zsv {I J : Facts} (h : I.le J) (b : Nat) : (l : List D) → (o : Nat) → zqu I b o l → zqu J b o l
  | [],_,e => by simp only [zqu]
  | d :: r,o,e => by
    simp only [zqu] at e ⊢
    obtain ⟨⟨v,hv,hd⟩,hr⟩ := e
    exact ⟨⟨v,h b o v hv,zqe h d v hd⟩,zsv h b r (o + 1) hr⟩
end
theorem z8g {I J : Facts} (h : I.le J) : (l : List D) → (vs : List Value) → z1t I l vs → z1t J l vs
  | [],[],_ => trivial
  | d :: r,v :: q,e => ⟨zqe h d v e.1,z8g h r q e.2⟩
  | [],_ :: _,e => e.elim
  | _ :: _,[],e => e.elim
theorem z1c {I : Facts} : (l : List D) → (vs : List Value) → z1t I l vs → l.length = vs.length
  | [],[],_ => rfl
  | d :: r,v :: q,e => by simp [z1c r q e.2]
  | [],_ :: _,e => e.elim
  | _ :: _,[],e => e.elim
theorem z4O {I : Facts} : (a : List D) → (b : List D) → (x y : List Value) → z1t I a x → z1t I b y → z1t I (a ++ b) (x ++ y)
  | [],b,[],y,_,h => h
  | d :: r,b,v :: q,y,e,h => ⟨e.1,z4O r b q y e.2 h⟩
  | [],_,_ :: _,_,e,_ => e.elim
  | _ :: _,_,[],_,e,_ => e.elim
theorem z8Y {I : Facts} : (a : List D) → (b : List D) → (z : List Value) → z1t I (a ++ b) z →
    z1t I a (z.take a.length) ∧ z1t I b (z.drop a.length)
  | [],b,z,h => by simpa [z1t] using h
  | d :: r,b,[],h => h.elim
  | d :: r,b,v :: q,h => by
    obtain ⟨h1,h2⟩ := h
    have := z8Y r b q h2
    exact ⟨⟨h1,this.1⟩,this.2⟩
def tells (I : Facts) (b o : Nat) (cs : List Value) : Prop := ∀ j v,cs[j]? = some v → I b (o + j) = some v
theorem z3O {I : Facts} {b : Nat} : (l : List D) → (cs : List Value) → (o : Nat) → z1t I l cs → tells I b o cs → zqu I b o l
  | [],[],_,_,_ => by simp only [zqu]
  | d :: r,v :: q,o,e,h => by
    simp only [zqu]
    exact ⟨⟨v,by simpa using h 0 v rfl,e.1⟩,z3O r q (o + 1) e.2 fun j w hj => by
      have := h (j + 1) w (by simpa using hj)
      rwa [show o + (j + 1) = o + 1 + j by omega] at this⟩
  | [],_ :: _,_,e,_ => e.elim
  | _ :: _,[],_,e,_ => e.elim
theorem zbb {I : Facts} {b : Nat} : (l : List D) → (o : Nat) → zqu I b o l → ∃ cs,z1t I l cs ∧ tells I b o cs
  | [],o,_ => ⟨[],trivial,fun j v h => by simp at h⟩
  | d :: r,o,h => by
    simp only [zqu] at h
    obtain ⟨⟨v,hv,hd⟩,hr⟩ := h
    obtain ⟨cs,h1,h2⟩ := zbb r (o + 1) hr
    refine ⟨v :: cs,⟨hd,h1⟩,fun j w hj => ?_⟩
    cases j with
    | zero => simp at hj; subst hj; simpa using hv
    | succ j =>
      have := h2 j w (by simpa using hj)
      rwa [show o + 1 + j = o + (j + 1) by omega] at this
def flag (fl : Nat) (v : Value) : Prop :=
  match fl,v with
  | 1,.slice _ n c => c = n
  | 2,.slice a _ _ => a.isSome = true
  | 3,.slice a _ _ => a.isNone = true
  | _,_ => True
section
variable [Univ]
def cellsD (s : Shape) (xs : List (El s)) : List D := xs.flatMap (toD s)
mutual
def repV (I : Facts) (s : Hand) : V → Value → Prop
  | .undef,_ => True
  | .int k n,v => v = .int k n
  | .bool b,v => v = .bool b
  | .str t,v => v = .string ⟨t.toArray⟩
  | .nil,v => v = .slice none 0 0
  | .lst t xs fl,v => repD I (.list xs.length (cellsD t xs)) v ∧ flag fl v
  | .arr t xs,v => ∃ cs,v = .agg cs ∧ z1t I (cellsD t xs) cs.toList
  | .row id,v => s id = some v ∧ ∃ base n c,v = .slice base n c
  | .agg vs,v => ∃ cs,v = .agg cs ∧ z0v I s vs cs.toList
  | .tuple vs,v => ∃ cs,v = .tuple cs ∧ z0v I s vs cs.toList
  | .ptr id off,v => ∃ b,s id = some (.pointer (some ⟨b,0,none⟩)) ∧ v = .pointer (some ⟨b,off,none⟩)
  | .eptr id sz i off,v => ∃ b,(s id = some (.pointer (some ⟨b,0,none⟩)) ∨ ∃ n c,s id = some (.slice (some ⟨b,0,none⟩) n (c + 1))) ∧
      v = .pointer (some ⟨b,i.toNat * sz + off,none⟩)
  | .pptr cs off,v => ∃ b o,v = .pointer (some ⟨b,o + off,none⟩) ∧ zkI I s b o cs
  | .nilptr,v => v = .pointer none
  | .fn f a c,v => ∃ x y,v = .func (.func f) x y ∧ z0v I s a x.toList ∧ z0v I s c y.toList
  | .nilfn,v => v = .nilFunc
  | .map id,v => ∃ b,s id = some (.map (some b)) ∧ v = .map (some b)
  | .nilmap,v => v = .map none
  | .iface t x,v => ∃ y,v = .iface t y ∧ repV I s x y
  | .niface,v => v = .nilIface
  | .err b,v => (b = true → ∃ t y,v = .iface t y) ∧ (b = false → v = .nilIface)
  | .tb t c,v => s t = some (.bool c) ∧ v = .bool c
  | .cnd t c w x,v => s t = some (.bool c) ∧ (c = w → repV I s x v) ∧ (c ≠ w → v = Go.undef)
def z0v (I : Facts) (s : Hand) : List V → List Value → Prop
  | [],[] => True
  | x :: r,v :: q => repV I s x v ∧ z0v I s r q
  | _,_ => False
def zkI (I : Facts) (s : Hand) (b : Nat) : Nat → List V → Prop
  | _,[] => True
  | o,x :: r => (∃ v,I b o = some v ∧ repV I s x v) ∧ zkI I s b (o + 1) r
end
mutual
theorem z4o {I J : Facts} {s t : Hand} (h : I.le J) (g : s.le t) : (x : V) → (v : Value) → repV I s x v → repV J t x v
  | .undef,_,_ => by simp only [repV]
  | .int _ _,_,e => e
  | .bool _,_,e => e
  | .str _,_,e => e
  | .nil,_,e => e
  | .lst s xs fl,v,e => by
    simp only [repV] at e ⊢
    exact ⟨zqe h _ v e.1,e.2⟩
  | .arr s xs,v,e => by
    simp only [repV] at e ⊢
    obtain ⟨cs,hv,hc⟩ := e
    exact ⟨cs,hv,z8g h _ _ hc⟩
  | .row id,v,e => by
    simp only [repV] at e ⊢
    exact ⟨g _ _ e.1,e.2⟩
  | .agg vs,v,e => by
    simp only [repV] at e ⊢
    obtain ⟨cs,hv,hc⟩ := e
    exact ⟨cs,hv,zaP h g vs cs.toList hc⟩
  | .tuple vs,v,e => by
    simp only [repV] at e ⊢
    obtain ⟨cs,hv,hc⟩ := e
    exact ⟨cs,hv,zaP h g vs cs.toList hc⟩
  | .ptr id off,v,e => by
    simp only [repV] at e ⊢
    obtain ⟨b,h1,h2⟩ := e
    exact ⟨b,g _ _ h1,h2⟩
  | .eptr id sz i off,v,e => by
    simp only [repV] at e ⊢
    obtain ⟨b,h1,h2⟩ := e
    refine ⟨b,?_,h2⟩
    rcases h1 with h1 | ⟨n,c,h1⟩
    · exact .inl (g _ _ h1)
    · exact .inr ⟨n,c,g _ _ h1⟩
  | .pptr cs off,v,e => by
    simp only [repV] at e ⊢
    obtain ⟨b,o,hv,hc⟩ := e
    exact ⟨b,o,hv,zsS h g b cs o hc⟩
  | .nilptr,_,e => e
  | .fn f a c,v,e => by
    simp only [repV] at e ⊢
    obtain ⟨x,y,hv,h1,h2⟩ := e
    exact ⟨x,y,hv,zaP h g a x.toList h1,zaP h g c y.toList h2⟩
  | .nilfn,_,e => e
  | .map id,v,e => by
    simp only [repV] at e ⊢
    obtain ⟨b,h1,h2⟩ := e
    exact ⟨b,g _ _ h1,h2⟩
  | .nilmap,_,e => e
  | .iface t x,v,e => by
    simp only [repV] at e ⊢
    obtain ⟨y,hv,hy⟩ := e
    exact ⟨y,hv,z4o h g x y hy⟩
  | .niface,_,e => e
  | .err b,v,e => by simp only [repV] at e ⊢; exact e
  | .tb t c,v,e => by
    simp only [repV] at e ⊢
    exact ⟨g _ _ e.1,e.2⟩
  | .cnd t c w x,v,e => by
    simp only [repV] at e ⊢
    exact ⟨g _ _ e.1,fun hc => z4o h g x v (e.2.1 hc),e.2.2⟩
theorem zaP {I J : Facts} {s t : Hand} (h : I.le J) (g : s.le t) : (l : List V) → (vs : List Value) → z0v I s l vs → z0v J t l vs
  | [],[],_ => by simp only [z0v]
  | x :: r,v :: q,e => by
    simp only [z0v] at e ⊢
    exact ⟨z4o h g x v e.1,zaP h g r q e.2⟩
  | [],_ :: _,e => by simp only [z0v] at e
  | _ :: _,[],e => by simp only [z0v] at e
theorem zsS {I J : Facts} {s t : Hand} (h : I.le J) (g : s.le t) (b : Nat) : (l : List V) → (o : Nat) → zkI I s b o l → zkI J t b o l
  | [],_,_ => by simp only [zkI]
  | x :: r,o,e => by
    simp only [zkI] at e ⊢
    obtain ⟨⟨v,hv,hd⟩,hr⟩ := e
    exact ⟨⟨v,h b o v hv,z4o h g x v hd⟩,zsS h g b r (o + 1) hr⟩
end
theorem z3v {I : Facts} {s : Hand} : (l : List V) → (vs : List Value) → z0v I s l vs → l.length = vs.length
  | [],[],_ => rfl
  | _ :: r,_ :: q,e => by simp only [z0v] at e; simp [z3v r q e.2]
  | [],_ :: _,e => by simp only [z0v] at e
  | _ :: _,[],e => by simp only [z0v] at e
theorem zcZ {I : Facts} {s : Hand} : (l : List V) → (vs : List Value) → z0v I s l vs → ∀ (j : Nat) (x : V),l[j]? = some x → ∃ v,vs[j]? = some v ∧ repV I s x v
  | [],[],_,j,x,h => by simp at h
  | y :: r,v :: q,e,j,x,h => by
    simp only [z0v] at e
    cases j with
    | zero => simp at h; subst h; exact ⟨v,rfl,e.1⟩
    | succ j => simpa using zcZ r q e.2 j x (by simpa using h)
  | [],_ :: _,e,_,_,_ => by simp only [z0v] at e
  | _ :: _,[],e,_,_,_ => by simp only [z0v] at e
theorem zv6 {I : Facts} {s : Hand} : (l : List V) → (vs : List Value) → l.length = vs.length →
    (∀ (j : Nat) (x : V) (v : Value),l[j]? = some x → vs[j]? = some v → repV I s x v) → z0v I s l vs
  | [],[],_,_ => by simp only [z0v]
  | y :: r,v :: q,e,h => by
    simp only [z0v]
    exact ⟨h 0 y v rfl rfl,zv6 r q (by simpa using e) fun j x w h1 h2 => h (j + 1) x w (by simpa using h1) (by simpa using h2)⟩
  | [],_ :: _,e,_ => by simp at e
  | _ :: _,[],e,_ => by simp at e
theorem zix {I : Facts} {s : Hand} : (a b : List V) → (x y : List Value) → z0v I s a x → z0v I s b y → z0v I s (a ++ b) (x ++ y)
  | [],b,[],y,_,h => h
  | d :: r,b,v :: q,y,e,h => by
    simp only [z0v] at e
    simp only [List.cons_append,z0v]
    exact ⟨e.1,zix r b q y e.2 h⟩
  | [],_,_ :: _,_,e,_ => by simp only [z0v] at e
  | _ :: _,_,[],_,e,_ => by simp only [z0v] at e
theorem ziK {I : Facts} {s : Hand} : (l : List V) → (vs : List Value) → (n : Nat) → z0v I s l vs → z0v I s (l.take n) (vs.take n)
  | [],[],n,_ => by simp [z0v]
  | y :: r,v :: q,0,e => by simp [z0v]
  | y :: r,v :: q,n + 1,e => by
    simp only [z0v] at e
    simp only [List.take_succ_cons,z0v]
    exact ⟨e.1,ziK r q n e.2⟩
  | [],_ :: _,_,e => by simp only [z0v] at e
  | _ :: _,[],_,e => by simp only [z0v] at e
theorem ziN {I : Facts} {s : Hand} : (l : List V) → (vs : List Value) → (n : Nat) → z0v I s l vs → z0v I s (l.drop n) (vs.drop n)
  | [],[],n,_ => by simp [z0v]
  | y :: r,v :: q,0,e => by simpa using e
  | y :: r,v :: q,n + 1,e => by
    simp only [z0v] at e
    simpa using ziN r q n e.2
  | [],_ :: _,_,e => by simp only [z0v] at e
  | _ :: _,[],_,e => by simp only [z0v] at e
def zaL : (ss : List Shape) → Els ss → List D
  | [],_ => []
  | s :: r,x => toD s x.1 ++ zaL r x.2
end
def zpA [Univ] (ss : List Shape) : List D := ss.flatMap fun s => toD s (dflt s)
class z2U [Univ] : Prop where
  plain : ∀ n,∀ s ∈ Univ.fields n,z3k s = false
  deep : ∀ n (x : UTypes.UT n),Univ.uD n x = zaL (Univ.fields n) (Univ.out n x)
  back : ∀ n (x : Els (Univ.fields n)),Univ.out n (Univ.inn n x) = x
  zero : ∀ n,Univ.uD n (Univ.dft n) = zpA (Univ.fields n)
section
variable [Univ] [z2U]
theorem zwV : (s : Shape) → z3k s = false → (x : El s) → ∃ d,toD s x = [d]
  | .int k,_,x => ⟨_,rfl⟩
  | .bool,_,x => ⟨_,rfl⟩
  | .str,_,x => ⟨_,rfl⟩
  | .list s,_,x => ⟨_,rfl⟩
  | .user _,h,_ => by simp [z3k] at h
theorem zjY : (ss : List Shape) → (∀ s ∈ ss,z3k s = false) → (x : Els ss) → (zaL ss x).length = ss.length
  | [],_,_ => rfl
  | s :: r,h,x => by
    obtain ⟨d,hd⟩ := zwV s (h s (by simp)) x.1
    simp [zaL,hd,zjY r (fun s hs => h s (by simp [hs])) x.2]
theorem zyL (n : Nat) (x : UTypes.UT n) : (Univ.uD n x).length = (Univ.fields n).length := by
  rw [z2U.deep]
  exact zjY _ (z2U.plain n) _
theorem z8e (s : Shape) (x : El s) : (toD s x).length = size s := by
  cases s with
  | user n => exact zyL n x
  | _ => rfl
theorem z0V (s : Shape) (xs : List (El s)) : (cellsD s xs).length = xs.length * size s := by
  induction xs with
  | nil => simp [cellsD]
  | cons x r ih => simp only [cellsD,List.flatMap_cons,List.length_append,z8e,List.length_cons] at *; rw [ih]; rw [Nat.add_mul]; omega
theorem z6J (s : Shape) (a b : List (El s)) : cellsD s (a ++ b) = cellsD s a ++ cellsD s b := by simp [cellsD]
end
end Go.PE
namespace Go.PE
def setF {α : Type} (f : Nat → Option α) (i : Nat) (x : α) : Nat → Option α := fun j => if j = i then some x else f j
@[simp] theorem setF_same {α : Type} (f : Nat → Option α) (i : Nat) (x : α) : setF f i x i = some x := by simp [setF]
theorem z0O {α : Type} (f : Nat → Option α) {i j : Nat} (x : α) (h : j ≠ i) : setF f i x j = f j := by simp [setF,h]
def thaw (fr : Nat × Nat) (n : Nat) : Prop := ∀ o,o < n → ¬ (fr.1 ≤ o ∧ o < fr.2)
def still (t : Shape) (fr : Nat × Nat) (n : Nat) : Prop := thaw fr n ∧ (t = .int .u8 ∨ ¬ (fr.1 ≤ n ∧ n < fr.2))
section
variable [Univ]
def blk (s : Hand) (id : Nat) : C → Option Nat
  | .dead => none
  | .row _ _ _ => match s id with
    | some (.slice (some a) _ (_ + 1)) => some a.block
    | _ => none
  | .tmap _ _ _ => match s id with
    | some (.map (some b)) => some b
    | _ => none
  | .box _ => match s id with
    | some (.pointer (some a)) => some a.block
    | _ => none
  | .arr _ _ => match s id with
    | some (.pointer (some a)) => some a.block
    | _ => none
  | .miter _ _ _ _ => match s id with
    | some (.pointer (some a)) => some a.block
    | _ => none
  | .siter _ _ => match s id with
    | some (.pointer (some a)) => some a.block
    | _ => none
def z5Z : (k : Shape) → El k → Value
  | .int k,x => .int k x
  | .bool,x => .bool x
  | .str,x => .string ⟨List.toArray x⟩
  | _,_ => Go.undef
def ziY (I : Facts) (s : Hand) (k v : Shape) : List (El k × El v) → List MapEntry → Prop
  | [],[] => True
  | p :: r,e :: q => e.key = z5Z k p.1 ∧ repV I s (elV v p.2) e.val ∧ ziY I s k v r q
  | _,_ => False
theorem zsP {I J : Facts} {s t : Hand} (h : I.le J) (g : s.le t) (k v : Shape) : (l : List (El k × El v)) → (es : List MapEntry) → ziY I s k v l es → ziY J t k v l es
  | [],[],_ => trivial
  | p :: r,e :: q,x => ⟨x.1,z4o h g _ _ x.2.1,zsP h g k v r q x.2.2⟩
  | [],_ :: _,x => x.elim
  | _ :: _,[],x => x.elim
def zE2 (I : Facts) (w : World) (b : Nat) (t : Shape) (xs : List (El t)) (cap fz : Nat) : Prop :=
  ∃ arr e fr,w.heap[b]? = some (.cells arr e fr) ∧ still t fr arr.size ∧ arr.size = cap * size t ∧
    z1t I (cellsD t xs) (arr.toList.take (xs.length * size t)) ∧ (∀ o v,I b o = some v → o < xs.length * size t) ∧
    (fz = 0 → ∀ o,I b o = none) ∧ (fz = 2 → tells I b 0 (arr.toList.take (xs.length * size t)))
def repC (I : Facts) (s : Hand) (w : World) (id : Nat) : C → Prop
  | .dead => True
  | .box cells => ∃ b arr e fr,s id = some (.pointer (some ⟨b,0,none⟩)) ∧ w.heap[b]? = some (.cells arr e fr) ∧ thaw fr arr.size ∧ (∀ o,I b o = none) ∧
      z0v I s cells arr.toList
  | .row t xs fz => ∃ base cap,s id = some (.slice base xs.length cap) ∧ xs.length ≤ cap ∧ (cap = 0 ∨ ∃ b,base = some ⟨b,0,none⟩ ∧ zE2 I w b t xs cap fz)
  | .arr t xs => ∃ b arr e fr,s id = some (.pointer (some ⟨b,0,none⟩)) ∧ w.heap[b]? = some (.cells arr e fr) ∧ thaw fr arr.size ∧ (∀ o,I b o = none) ∧
      z1t I (cellsD t xs) arr.toList
  | .tmap k v es => ∃ b ens clock,s id = some (.map (some b)) ∧ w.heap[b]? = some (.map ens clock) ∧ ziY I s k v es ens.toList ∧ (ens.toList.map (·.born)).Nodup ∧ ∀ e ∈ ens.toList,e.born < clock
  | .miter m since seen last => ∃ b,s id = some (.pointer (some ⟨b,0,none⟩)) ∧ w.heap[b]? = some (.mapIter (some m) since seen last)
  | .siter t pos => ∃ b,s id = some (.pointer (some ⟨b,0,none⟩)) ∧ w.heap[b]? = some (.stringIter ⟨t.toArray⟩ pos)
theorem zxb {I : Facts} {s t : Hand} {w : World} {id : Nat} {c : C} (h : repC I s w id c) (g : s.le t) : blk t id c = blk s id c := by
  cases c <;> simp only [repC,blk] at *
  case box cells => obtain ⟨b,arr,e,fr,h1,_⟩ := h; rw [g _ _ h1,h1]
  case row r xs fz => obtain ⟨base,cap,h1,_⟩ := h; rw [g _ _ h1,h1]
  case arr r xs => obtain ⟨b,arr,e,fr,h1,_⟩ := h; rw [g _ _ h1,h1]
  case tmap k v es => obtain ⟨b,ens,clock,h1,_⟩ := h; rw [g _ _ h1,h1]
  case siter r pos => obtain ⟨b,h1,_⟩ := h; rw [g _ _ h1,h1]
  case miter m since seen last => obtain ⟨b,h1,_⟩ := h; rw [g _ _ h1,h1]
theorem zi8 {I J : Facts} {s t : Hand} {w w' : World} {id : Nat} {c : C} (h : repC I s w id c) (hI : I.le J) (g : s.le t)
    (hb : ∀ b,blk s id c = some b → w'.heap[b]? = w.heap[b]? ∧ ∀ o,J b o = I b o) : repC J t w' id c := by
  cases c <;> simp only [repC,blk] at *
  case box cells =>
    obtain ⟨b,arr,e,fr,h1,h2,h3,h4,h5⟩ := h
    simp only [h1] at hb
    obtain ⟨k1,k2⟩ := hb b rfl
    exact ⟨b,arr,e,fr,g _ _ h1,by rw [k1,h2],h3,fun o => by rw [k2,h4],zaP hI g _ _ h5⟩
  case row r xs fz =>
    obtain ⟨base,cap,h1,h2,h3⟩ := h
    refine ⟨base,cap,g _ _ h1,h2,?_⟩
    rcases h3 with h3 | ⟨b,rfl,arr,e,fr,k1,k2,k3,k4,k5,k6,k7⟩
    · exact .inl h3
    · cases cap with
      | zero => exact .inl rfl
      | succ cap =>
        simp only [h1] at hb
        obtain ⟨q1,q2⟩ := hb b rfl
        refine .inr ⟨b,rfl,arr,e,fr,by rw [q1,k1],k2,k3,z8g hI _ _ k4,fun o v hv => k5 o v (by rwa [← q2]),fun hz o => by rw [q2,k6 hz],fun hz j v hj => by rw [q2]; exact k7 hz j v hj⟩
  case arr r xs =>
    obtain ⟨b,arr,e,fr,h1,h2,h3,h4,h5⟩ := h
    simp only [h1] at hb
    obtain ⟨k1,k2⟩ := hb b rfl
    exact ⟨b,arr,e,fr,g _ _ h1,by rw [k1,h2],h3,fun o => by rw [k2,h4],z8g hI _ _ h5⟩
  case tmap k v es =>
    obtain ⟨b,ens,clock,h1,h2,h3⟩ := h
    simp only [h1] at hb
    obtain ⟨k1,k2⟩ := hb b rfl
    exact ⟨b,ens,clock,g _ _ h1,by rw [k1,h2],zsP hI g _ _ _ _ h3.1,h3.2⟩
  case siter r pos =>
    obtain ⟨b,h1,h2⟩ := h
    simp only [h1] at hb
    obtain ⟨k1,k2⟩ := hb b rfl
    exact ⟨b,g _ _ h1,by rw [k1,h2]⟩
  case miter m since seen last =>
    obtain ⟨b,h1,h2⟩ := h
    simp only [h1] at hb
    obtain ⟨k1,k2⟩ := hb b rfl
    exact ⟨b,g _ _ h1,by rw [k1,h2]⟩
structure Cx where
  w0 : World
  I0 : Facts
  hid : Nat → Prop
structure WInv (cx : Cx) (I : Facts) (s : Hand) (hp : Nat → Option C) (w : World) : Prop where
  agree : ∀ b o v,I b o = some v → w.cell? ⟨b,o,none⟩ = some v
  cont : ∀ id c,hp id = some c → repC I s w id c
  apart : ∀ i j c d b,hp i = some c → hp j = some d → blk s i c = some b → blk s j d = some b → i = j
  dom : ∀ i v,s i = some v → (hp i).isSome = true
  own : ∀ i c b,hp i = some c → blk s i c = some b → cx.w0.heap.size ≤ b ∨ cx.hid b
  size : cx.w0.heap.size ≤ w.heap.size
  same : ∀ b,b < cx.w0.heap.size → ¬ cx.hid b → w.heap[b]? = cx.w0.heap[b]? ∧ ∀ o,I b o = cx.I0 b o
  le : cx.I0.le I
  os : w.os = cx.w0.os
  tape : w.tape = cx.w0.tape
  out : w.output = cx.w0.output
theorem cell?_of_heap {w w' : World} {a : Addr} (h : w'.heap[a.block]? = w.heap[a.block]?) : w'.cell? a = w.cell? a := by simp [World.cell?,h]
theorem z1s? {α : Type} {xs : Array α} {i : Nat} {x : α} (h : xs[i]? = some x) : i < xs.size := (Array.getElem?_eq_some_iff.1 h).1
variable {cx : Cx} {I I' : Facts} {s s' : Hand} {hp : Nat → Option C} {w w' : World}
theorem WInv.zmC (h : WInv cx I s hp w) {b o : Nat} {v : Value} (hv : I b o = some v) : b < w.heap.size := by
  have := h.agree b o v hv
  simp only [World.cell?] at this
  split at this
  · rename_i c e f hb; exact z1s? hb
  · simp at this
theorem WInv.of_heap (h : WInv cx I s hp w) (hh : w'.heap = w.heap) (h1 : w'.os = w.os) (h2 : w'.tape = w.tape) (h3 : w'.output = w.output) : WInv cx I s hp w' where
  agree b o v hv := by rw [cell?_of_heap (w := w) (by rw [hh])]; exact h.agree b o v hv
  cont id c hc := zi8 (h.cont id c hc) (Facts.le_refl _) (Hand.le_refl _) fun b _ => ⟨by rw [hh],fun _ => rfl⟩
  apart := h.apart
  dom := h.dom
  own := h.own
  size := by rw [hh]; exact h.size
  same b hb hn := by rw [hh]; exact h.same b hb hn
  le := h.le
  os := by rw [h1,h.os]
  tape := by rw [h2,h.tape]
  out := by rw [h3,h.out]
theorem WInv.kill (h : WInv cx I s hp w) (id : Nat) : WInv cx I s (setF hp id .dead) w where
  agree := h.agree
  cont i c hc := by
    by_cases hi : i = id
    · subst hi; simp at hc; subst hc; simp [repC]
    · rw [z0O _ _ hi] at hc; exact h.cont i c hc
  apart i j c d b hc hd h1 h2 := by
    by_cases hi : i = id
    · subst hi; simp at hc; subst hc; simp [blk] at h1
    · by_cases hj : j = id
      · subst hj; simp at hd; subst hd; simp [blk] at h2
      · rw [z0O _ _ hi] at hc; rw [z0O _ _ hj] at hd; exact h.apart i j c d b hc hd h1 h2
  dom i v hv := by
    by_cases hi : i = id
    · subst hi; simp
    · rw [z0O _ _ hi]; exact h.dom i v hv
  own i c b hc hb := by
    by_cases hi : i = id
    · subst hi; simp at hc; subst hc; simp [blk] at hb
    · rw [z0O _ _ hi] at hc; exact h.own i c b hc hb
  size := h.size
  same := h.same
  le := h.le
  os := h.os
  tape := h.tape
  out := h.out
structure But (B : Option Nat) (w w' : World) : Prop where
  size : w.heap.size ≤ w'.heap.size
  heap : ∀ b,B ≠ some b → b < w.heap.size → w'.heap[b]? = w.heap[b]?
  os : w'.os = w.os
  tape : w'.tape = w.tape
  out : w'.output = w.output
theorem WInv.zk1 (h : WInv cx I s hp w) (id : Nat) (c : C) (B : Option Nat) (hold : ∀ c0,hp id = some c0 → blk s id c0 = none)
    (hs : s.le s') (hd : ∀ i v,s' i = some v → i = id ∨ s i = some v) (hB : ∀ b,blk s' id c = some b → B = some b) (hw : But B w w')
    (hle : I.le I') (hI : ∀ b,B ≠ some b → ∀ o,I' b o = I b o)
    (hag : ∀ b o v,B = some b → I' b o = some v → w'.cell? ⟨b,o,none⟩ = some v)
    (hfree : ∀ b,B = some b → ∀ i c0,hp i = some c0 → blk s i c0 ≠ some b)
    (hown : ∀ b,B = some b → cx.w0.heap.size ≤ b ∨ cx.hid b) (hc : repC I' s' w' id c) : WInv cx I' s' (setF hp id c) w' := by
  have hblk : ∀ i c0 b,hp i = some c0 → blk s i c0 = some b → B ≠ some b := fun i c0 b h1 h2 hb => hfree b hb i c0 h1 h2
  have hlt : ∀ i c0 b,hp i = some c0 → blk s i c0 = some b → b < w.heap.size := by
    intro i c0 b h1 h2
    have hr := h.cont i c0 h1
    cases c0 <;> simp only [repC,blk] at hr h2
    case dead => simp at h2
    case box cells => obtain ⟨b',arr,e,fr,k1,k2,_⟩ := hr; simp [k1] at h2; subst h2; exact z1s? k2
    case row r xs fz =>
      obtain ⟨base,cap,k1,k2,k3⟩ := hr
      rcases k3 with rfl | ⟨b',rfl,arr,e,fr,q,_⟩
      · simp [k1] at h2
      · cases cap with
        | zero => simp [k1] at h2
        | succ cap => simp [k1] at h2; subst h2; exact z1s? q
    case arr r xs => obtain ⟨b',arr,e,fr,k1,k2,_⟩ := hr; simp [k1] at h2; subst h2; exact z1s? k2
    case tmap k v es => obtain ⟨b',ens,clock,k1,k2,_⟩ := hr; simp [k1] at h2; subst h2; exact z1s? k2
    case siter r pos => obtain ⟨b',k1,k2⟩ := hr; simp [k1] at h2; subst h2; exact z1s? k2
    case miter m since seen last => obtain ⟨b',k1,k2⟩ := hr; simp [k1] at h2; subst h2; exact z1s? k2
  have hkeep : ∀ i c0,i ≠ id → hp i = some c0 → repC I' s' w' i c0 ∧ blk s' i c0 = blk s i c0 := by
    intro i c0 hi h1
    refine ⟨zi8 (h.cont i c0 h1) hle hs fun b hb => ?_,zxb (h.cont i c0 h1) hs⟩
    have hne := hblk i c0 b h1 hb
    exact ⟨hw.heap b hne (hlt i c0 b h1 hb),hI b hne⟩
  constructor
  case agree =>
    intro b o v hv
    by_cases hb : B = some b
    · exact hag b o v hb hv
    · rw [hI b hb] at hv
      rw [cell?_of_heap (w := w) (hw.heap b hb (h.zmC hv))]
      exact h.agree b o v hv
  case cont =>
    intro i c0 h1
    by_cases hi : i = id
    · subst hi; simp at h1; subst h1; exact hc
    · rw [z0O _ _ hi] at h1; exact (hkeep i c0 hi h1).1
  case apart =>
    intro i j c1 c2 b h1 h2 k1 k2
    by_cases hi : i = id
    · by_cases hj : j = id
      · rw [hi,hj]
      · rw [z0O _ _ hj] at h2
        rw [(hkeep j c2 hj h2).2] at k2
        subst hi; simp at h1; subst h1
        exact absurd (hB b k1) (hblk j c2 b h2 k2)
    · rw [z0O _ _ hi] at h1
      rw [(hkeep i c1 hi h1).2] at k1
      by_cases hj : j = id
      · subst hj; simp at h2; subst h2
        exact absurd (hB b k2) (hblk i c1 b h1 k1)
      · rw [z0O _ _ hj] at h2
        rw [(hkeep j c2 hj h2).2] at k2
        exact h.apart i j c1 c2 b h1 h2 k1 k2
  case dom =>
    intro i v hv
    by_cases hi : i = id
    · subst hi; simp
    · rw [z0O _ _ hi]
      rcases hd i v hv with h1 | h1
      · exact absurd h1 hi
      · exact h.dom i v h1
  case own =>
    intro i c0 b h1 h2
    by_cases hi : i = id
    · subst hi; simp at h1; subst h1; exact hown b (hB b h2)
    · rw [z0O _ _ hi] at h1
      rw [(hkeep i c0 hi h1).2] at h2
      exact h.own i c0 b h1 h2
  case size => exact Nat.le_trans h.size hw.size
  case same =>
    intro b hb hn
    have hne : B ≠ some b := by
      intro e
      rcases hown b e with h1 | h1
      · omega
      · exact hn h1
    obtain ⟨k1,k2⟩ := h.same b hb hn
    exact ⟨by rw [hw.heap b hne (Nat.lt_of_lt_of_le hb h.size),k1],fun o => by rw [hI b hne,k2]⟩
  case le => exact Facts.le_trans h.le hle
  case os => rw [hw.os,h.os]
  case tape => rw [hw.tape,h.tape]
  case out => rw [hw.out,h.out]
end
end Go.PE
