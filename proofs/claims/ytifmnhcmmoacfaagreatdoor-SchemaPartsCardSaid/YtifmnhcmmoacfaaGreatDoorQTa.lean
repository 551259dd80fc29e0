/- What some of the library's functions compute. -/
import Derived.Test.YtifmnhcmmoacfaaGreatDoorQEf
import Derived.Lib.Repeat
import Derived.Lib.ItoaNum
set_option linter.unusedVariables false
set_option maxRecDepth 100000
set_option maxHeartbeats 1000000
namespace Go.Proofs.YtifmnhcmmoacfaaGreatDoorQ
open Go Go.PE
abbrev Str := List UInt8
structure z03 where
  z0l : Str
  z08 : Int
  z0p : Bool
  z0G : Int
  z15 : Int
structure z0h where
  z3S : z03
  zff : Int
structure z0k where
  z3M : Str
  z1V : Str
  z0C : (List z03)
structure z00 where
  z08 : Int
  z0c : Bool
  z06 : Int
  z0b : Str
  z07 : (List Str)
  z05 : (List z00)
structure z02 where
  z3q : Str
  zcT : Int
structure z0g where
  z0z : Str
  z2s : Int
  z2t : Int
  z3G : Int
  z5W : Int
structure z0q where
  z4i : Int
  zct : Str
structure z04 where
  z0l : Str
  z0F : z00
  znZ : Str
def uT : Nat → Type
  | 0 => z03
  | 1 => z0h
  | 2 => z0k
  | 3 => z00
  | 4 => z02
  | 5 => z0g
  | 6 => z0q
  | 7 => z04
  | _ => Unit
@[reducible] def uTypes : UTypes := ⟨uT⟩
def zrX : Nat → List Shape
  | 0 => [.str,(.int .i64),.bool,(.int .i64),(.int .i64)]
  | 1 => [.str,(.int .i64),.bool,(.int .i64),(.int .i64),(.int .i64)]
  | 2 => [.str,.str,(.list (.user 0))]
  | 3 => [(.int .i64),.bool,(.int .i64),.str,(.list .str),(.list (.user 3))]
  | 4 => [.str,(.int .i64)]
  | 5 => [.str,(.int .i64),(.int .i64),(.int .i64),(.int .i64)]
  | 6 => [(.int .i64),.str]
  | 7 => [.str,(.int .i64),.bool,(.int .i64),.str,(.list .str),(.list (.user 3)),.str]
  | _ => []
def uOut : (n : Nat) → uT n → @Els uTypes (zrX n)
  | 0,x => (x.z0l,x.z08,x.z0p,x.z0G,x.z15,())
  | 1,x => (x.z3S.z0l,x.z3S.z08,x.z3S.z0p,x.z3S.z0G,x.z3S.z15,x.zff,())
  | 2,x => (x.z3M,x.z1V,x.z0C,())
  | 3,x => (x.z08,x.z0c,x.z06,x.z0b,x.z07,x.z05,())
  | 4,x => (x.z3q,x.zcT,())
  | 5,x => (x.z0z,x.z2s,x.z2t,x.z3G,x.z5W,())
  | 6,x => (x.z4i,x.zct,())
  | 7,x => (x.z0l,x.z0F.z08,x.z0F.z0c,x.z0F.z06,x.z0F.z0b,x.z0F.z07,x.z0F.z05,x.znZ,())
  | _ + 8,_ => ()
def uInn : (n : Nat) → @Els uTypes (zrX n) → uT n
  | 0,x => (⟨x.1,x.2.1,x.2.2.1,x.2.2.2.1,x.2.2.2.2.1⟩ : z03)
  | 1,x => (⟨⟨x.1,x.2.1,x.2.2.1,x.2.2.2.1,x.2.2.2.2.1⟩,x.2.2.2.2.2.1⟩ : z0h)
  | 2,x => (⟨x.1,x.2.1,x.2.2.1⟩ : z0k)
  | 3,x => (⟨x.1,x.2.1,x.2.2.1,x.2.2.2.1,x.2.2.2.2.1,x.2.2.2.2.2.1⟩ : z00)
  | 4,x => (⟨x.1,x.2.1⟩ : z02)
  | 5,x => (⟨x.1,x.2.1,x.2.2.1,x.2.2.2.1,x.2.2.2.2.1⟩ : z0g)
  | 6,x => (⟨x.1,x.2.1⟩ : z0q)
  | 7,x => (⟨x.1,⟨x.2.1,x.2.2.1,x.2.2.2.1,x.2.2.2.2.1,x.2.2.2.2.2.1,x.2.2.2.2.2.2.1⟩,x.2.2.2.2.2.2.2.1⟩ : z04)
  | _ + 8,_ => ()
def z03.dft : z03 := ⟨[],0,false,0,0⟩
def z0h.dft : z0h := ⟨⟨[],0,false,0,0⟩,0⟩
def z0k.dft : z0k := ⟨[],[],[]⟩
def z00.dft : z00 := ⟨0,false,0,[],[],[]⟩
def z02.dft : z02 := ⟨[],0⟩
def z0g.dft : z0g := ⟨[],0,0,0,0⟩
def z0q.dft : z0q := ⟨0,[]⟩
def z04.dft : z04 := ⟨[],⟨0,false,0,[],[],[]⟩,[]⟩
def uDft : (n : Nat) → uT n
  | 0 => z03.dft
  | 1 => z0h.dft
  | 2 => z0k.dft
  | 3 => z00.dft
  | 4 => z02.dft
  | 5 => z0g.dft
  | 6 => z0q.dft
  | 7 => z04.dft
  | _ + 8 => ()
def z03.toD (x : z03) : List D := [.str x.z0l,.int .i64 x.z08,.bool x.z0p,.int .i64 x.z0G,.int .i64 x.z15]
def z0h.toD (x : z0h) : List D := [.str x.z3S.z0l,.int .i64 x.z3S.z08,.bool x.z3S.z0p,.int .i64 x.z3S.z0G,.int .i64 x.z3S.z15,.int .i64 x.zff]
def z0k.toD (x : z0k) : List D := [.str x.z3M,.str x.z1V,.list x.z0C.length (List.flatMap z03.toD x.z0C)]
theorem z00.eta (x : z00) : (⟨x.z08,x.z0c,x.z06,x.z0b,x.z07,x.z05⟩ : z00) = x := by cases x; rfl
mutual
def z00.toD : z00 → List D
  | ⟨x0,x1,x2,x3,x4,x5⟩ => [.int .i64 x0,.bool x1,.int .i64 x2,.str x3,.list x4.length (List.flatMap (fun y => [.str y]) x4),.list x5.length (z00.toDs x5)]
def z00.toDs : List z00 → List D
  | [] => []
  | x :: r => z00.toD x ++ z00.toDs r
end
theorem z00.zzL (l : List z00) : z00.toDs l = List.flatMap z00.toD l := by
  induction l with
  | nil => simp [z00.toDs]
  | cons a r ih => simp [z00.toDs,ih]
def z02.toD (x : z02) : List D := [.str x.z3q,.int .i64 x.zcT]
def z0g.toD (x : z0g) : List D := [.str x.z0z,.int .i64 x.z2s,.int .i64 x.z2t,.int .i64 x.z3G,.int .i64 x.z5W]
def z0q.toD (x : z0q) : List D := [.int .i64 x.z4i,.str x.zct]
theorem z04.eta (x : z04) : (⟨x.z0l,⟨x.z0F.z08,x.z0F.z0c,x.z0F.z06,x.z0F.z0b,x.z0F.z07,x.z0F.z05⟩,x.znZ⟩ : z04) = x := by cases x; rename_i y0 y1 y2; cases y1; rfl
def z04.toD (x : z04) : List D := [.str x.z0l,.int .i64 x.z0F.z08,.bool x.z0F.z0c,.int .i64 x.z0F.z06,.str x.z0F.z0b,.list x.z0F.z07.length (List.flatMap (fun y => [.str y]) x.z0F.z07),.list x.z0F.z05.length (List.flatMap z00.toD x.z0F.z05),.str x.znZ]
def uDD : (n : Nat) → uT n → List D
  | 0,x => z03.toD x
  | 1,x => z0h.toD x
  | 2,x => z0k.toD x
  | 3,x => z00.toD x
  | 4,x => z02.toD x
  | 5,x => z0g.toD x
  | 6,x => z0q.toD x
  | 7,x => z04.toD x
  | _ + 8,_ => []
def zCC : TypeId → Option Nat
  | 23 => some 0
  | 29 => some 3
  | 43 => some 2
  | 52 => some 7
  | 88 => some 1
  | 97 => some 6
  | 113 => some 5
  | 124 => some 4
  | _ => none
instance univ : Univ where
  toUTypes := uTypes
  fields := zrX
  out := uOut
  inn := uInn
  dft := uDft
  uD := uDD
  userOf := zCC
theorem zBm : ∀ n,(zrX n).all (fun s => !(z2Q s)) = true
  | 0 => rfl
  | 1 => rfl
  | 2 => rfl
  | 3 => rfl
  | 4 => rfl
  | 5 => rfl
  | 6 => rfl
  | 7 => rfl
  | _ + 8 => rfl
theorem zCw : ∀ (n : Nat) (x : UTypes.UT n),Univ.uD n x = zac (Univ.fields n) (Univ.out n x)
  | 0,_ => rfl
  | 1,_ => rfl
  | 2,_ => rfl
  | 3,x => by
    show z00.toD x = _
    cases x
    simp only [z00.toD,z00.zzL]
    rfl
  | 4,_ => rfl
  | 5,_ => rfl
  | 6,_ => rfl
  | 7,_ => rfl
  | _ + 8,_ => rfl
theorem zCM : ∀ (n : Nat) (x : Els (Univ.fields n)),Univ.out n (Univ.inn n x) = x
  | 0,_ => rfl
  | 1,_ => rfl
  | 2,_ => rfl
  | 3,_ => rfl
  | 4,_ => rfl
  | 5,_ => rfl
  | 6,_ => rfl
  | 7,_ => rfl
  | _ + 8,_ => rfl
theorem zCJ : ∀ n,Univ.uD n (Univ.dft n) = zov (Univ.fields n)
  | 0 => rfl
  | 1 => rfl
  | 2 => rfl
  | 3 => rfl
  | 4 => rfl
  | 5 => rfl
  | 6 => rfl
  | 7 => rfl
  | _ + 8 => rfl
instance univOk : z2B where
  plain := fun n s hs => by
    have := List.all_eq_true.1 (zBm n) s hs
    simpa using this
  deep := zCw
  back := zCM
  zero := zCJ
end Go.Proofs.YtifmnhcmmoacfaaGreatDoorQ
namespace Go.Proofs.YtifmnhcmmoacfaaGreatDoorQ
open Go
def z1R (left : List UInt8) : Nat := (((119 : Int) - left.length) % 64).toNat
def zoA (x : Int) : UInt8 := UInt8.ofNat (x % 256).toNat
def zaE (N : Int) : List UInt8 := [zoA (N / 72057594037927936),zoA (N / 281474976710656),zoA (N / 1099511627776),zoA (N / 4294967296),zoA (N / 16777216),zoA (N / 65536),zoA (N / 256),zoA N]
def zbt (left : List UInt8) (len : Int) : List UInt8 := left ++ [128] ++ Lib.repeatL [0] (z1R left) ++ zaE (IntKind.u64.wrap (IntKind.u64.wrap len * 8))
end Go.Proofs.YtifmnhcmmoacfaaGreatDoorQ
