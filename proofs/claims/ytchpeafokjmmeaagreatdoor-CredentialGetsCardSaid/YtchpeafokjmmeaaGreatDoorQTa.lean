/- What some of the library's functions compute. -/
import Derived.Test.YtchpeafokjmmeaaGreatDoorQEf
import Derived.Lib.Repeat
import Derived.Lib.ItoaNum
set_option linter.unusedVariables false
set_option maxRecDepth 100000
set_option maxHeartbeats 1000000
namespace Go.Proofs.YtchpeafokjmmeaaGreatDoorQ
open Go Go.PE
abbrev Str := List UInt8
structure z00 where
  z0i : Int
  z0K : Bool
  z0n : Int
  z0D : Str
  z0d : (List Str)
  z09 : (List z00)
structure z02 where
  z0L : Str
  z0j : z00
  z5W : Str
structure z06 where
  z0L : Str
  zaB : Str
  z0s : Str
  z2h : Int
structure z03 where
  z3u : Str
  z0I : Str
  z0u : Str
  z0N : Str
  z0s : Str
  z0k : (List Str)
  z0H : (List Int)
  z0e : (List z02)
  z1z : Int
  z0z : (List z06)
structure z04 where
  z3L : Str
  zdI : Int
structure z0f where
  z2M : Int
  z8u : Str
structure z08 where
  g_n : z00
structure z0o where
  z2e : Str
  zaG : Int
  zaN : Int
  zce : Int
  zhJ : Int
def uT : Nat → Type
  | 0 => z03
  | 1 => z02
  | 2 => z00
  | 3 => z06
  | 4 => z04
  | 5 => z0f
  | 6 => z08
  | 7 => z0o
  | _ => Unit
@[reducible] def uTypes : UTypes := ⟨uT⟩
def ztj : Nat → List Shape
  | 0 => [.str,.str,.str,.str,.str,(.list .str),(.list (.int .i64)),(.list (.user 1)),(.int .i64),(.list (.user 3))]
  | 1 => [.str,(.int .i64),.bool,(.int .i64),.str,(.list .str),(.list (.user 2)),.str]
  | 2 => [(.int .i64),.bool,(.int .i64),.str,(.list .str),(.list (.user 2))]
  | 3 => [.str,.str,.str,(.int .i64)]
  | 4 => [.str,(.int .i64)]
  | 5 => [(.int .i64),.str]
  | 6 => [(.int .i64),.bool,(.int .i64),.str,(.list .str),(.list (.user 2))]
  | 7 => [.str,(.int .i64),(.int .i64),(.int .i64),(.int .i64)]
  | _ => []
def uOut : (n : Nat) → uT n → @Els uTypes (ztj n)
  | 0,x => (x.z3u,x.z0I,x.z0u,x.z0N,x.z0s,x.z0k,x.z0H,x.z0e,x.z1z,x.z0z,())
  | 1,x => (x.z0L,x.z0j.z0i,x.z0j.z0K,x.z0j.z0n,x.z0j.z0D,x.z0j.z0d,x.z0j.z09,x.z5W,())
  | 2,x => (x.z0i,x.z0K,x.z0n,x.z0D,x.z0d,x.z09,())
  | 3,x => (x.z0L,x.zaB,x.z0s,x.z2h,())
  | 4,x => (x.z3L,x.zdI,())
  | 5,x => (x.z2M,x.z8u,())
  | 6,x => (x.g_n.z0i,x.g_n.z0K,x.g_n.z0n,x.g_n.z0D,x.g_n.z0d,x.g_n.z09,())
  | 7,x => (x.z2e,x.zaG,x.zaN,x.zce,x.zhJ,())
  | _ + 8,_ => ()
def uInn : (n : Nat) → @Els uTypes (ztj n) → uT n
  | 0,x => (⟨x.1,x.2.1,x.2.2.1,x.2.2.2.1,x.2.2.2.2.1,x.2.2.2.2.2.1,x.2.2.2.2.2.2.1,x.2.2.2.2.2.2.2.1,x.2.2.2.2.2.2.2.2.1,x.2.2.2.2.2.2.2.2.2.1⟩ : z03)
  | 1,x => (⟨x.1,⟨x.2.1,x.2.2.1,x.2.2.2.1,x.2.2.2.2.1,x.2.2.2.2.2.1,x.2.2.2.2.2.2.1⟩,x.2.2.2.2.2.2.2.1⟩ : z02)
  | 2,x => (⟨x.1,x.2.1,x.2.2.1,x.2.2.2.1,x.2.2.2.2.1,x.2.2.2.2.2.1⟩ : z00)
  | 3,x => (⟨x.1,x.2.1,x.2.2.1,x.2.2.2.1⟩ : z06)
  | 4,x => (⟨x.1,x.2.1⟩ : z04)
  | 5,x => (⟨x.1,x.2.1⟩ : z0f)
  | 6,x => (⟨⟨x.1,x.2.1,x.2.2.1,x.2.2.2.1,x.2.2.2.2.1,x.2.2.2.2.2.1⟩⟩ : z08)
  | 7,x => (⟨x.1,x.2.1,x.2.2.1,x.2.2.2.1,x.2.2.2.2.1⟩ : z0o)
  | _ + 8,_ => ()
def z00.dft : z00 := ⟨0,false,0,[],[],[]⟩
def z02.dft : z02 := ⟨[],⟨0,false,0,[],[],[]⟩,[]⟩
def z06.dft : z06 := ⟨[],[],[],0⟩
def z03.dft : z03 := ⟨[],[],[],[],[],[],[],[],0,[]⟩
def z04.dft : z04 := ⟨[],0⟩
def z0f.dft : z0f := ⟨0,[]⟩
def z08.dft : z08 := ⟨⟨0,false,0,[],[],[]⟩⟩
def z0o.dft : z0o := ⟨[],0,0,0,0⟩
def uDft : (n : Nat) → uT n
  | 0 => z03.dft
  | 1 => z02.dft
  | 2 => z00.dft
  | 3 => z06.dft
  | 4 => z04.dft
  | 5 => z0f.dft
  | 6 => z08.dft
  | 7 => z0o.dft
  | _ + 8 => ()
theorem z00.eta (x : z00) : (⟨x.z0i,x.z0K,x.z0n,x.z0D,x.z0d,x.z09⟩ : z00) = x := by cases x; rfl
mutual
def z00.toD : z00 → List D
  | ⟨x0,x1,x2,x3,x4,x5⟩ => [.int .i64 x0,.bool x1,.int .i64 x2,.str x3,.list x4.length (List.flatMap (fun y => [.str y]) x4),.list x5.length (z00.toDs x5)]
def z00.toDs : List z00 → List D
  | [] => []
  | x :: r => z00.toD x ++ z00.toDs r
end
theorem z00.zBF (l : List z00) : z00.toDs l = List.flatMap z00.toD l := by
  induction l with
  | nil => simp [z00.toDs]
  | cons a r ih => simp [z00.toDs,ih]
theorem z02.eta (x : z02) : (⟨x.z0L,⟨x.z0j.z0i,x.z0j.z0K,x.z0j.z0n,x.z0j.z0D,x.z0j.z0d,x.z0j.z09⟩,x.z5W⟩ : z02) = x := by cases x; rename_i y0 y1 y2; cases y1; rfl
def z02.toD (x : z02) : List D := [.str x.z0L,.int .i64 x.z0j.z0i,.bool x.z0j.z0K,.int .i64 x.z0j.z0n,.str x.z0j.z0D,.list x.z0j.z0d.length (List.flatMap (fun y => [.str y]) x.z0j.z0d),.list x.z0j.z09.length (List.flatMap z00.toD x.z0j.z09),.str x.z5W]
def z06.toD (x : z06) : List D := [.str x.z0L,.str x.zaB,.str x.z0s,.int .i64 x.z2h]
def z03.toD (x : z03) : List D := [.str x.z3u,.str x.z0I,.str x.z0u,.str x.z0N,.str x.z0s,.list x.z0k.length (List.flatMap (fun y => [.str y]) x.z0k),.list x.z0H.length (List.flatMap (fun y => [.int .i64 y]) x.z0H),.list x.z0e.length (List.flatMap z02.toD x.z0e),.int .i64 x.z1z,.list x.z0z.length (List.flatMap z06.toD x.z0z)]
def z04.toD (x : z04) : List D := [.str x.z3L,.int .i64 x.zdI]
def z0f.toD (x : z0f) : List D := [.int .i64 x.z2M,.str x.z8u]
theorem z08.eta (x : z08) : (⟨⟨x.g_n.z0i,x.g_n.z0K,x.g_n.z0n,x.g_n.z0D,x.g_n.z0d,x.g_n.z09⟩⟩ : z08) = x := by cases x; rename_i y0; cases y0; rfl
def z08.toD (x : z08) : List D := [.int .i64 x.g_n.z0i,.bool x.g_n.z0K,.int .i64 x.g_n.z0n,.str x.g_n.z0D,.list x.g_n.z0d.length (List.flatMap (fun y => [.str y]) x.g_n.z0d),.list x.g_n.z09.length (List.flatMap z00.toD x.g_n.z09)]
def z0o.toD (x : z0o) : List D := [.str x.z2e,.int .i64 x.zaG,.int .i64 x.zaN,.int .i64 x.zce,.int .i64 x.zhJ]
def uDD : (n : Nat) → uT n → List D
  | 0,x => z03.toD x
  | 1,x => z02.toD x
  | 2,x => z00.toD x
  | 3,x => z06.toD x
  | 4,x => z04.toD x
  | 5,x => z0f.toD x
  | 6,x => z08.toD x
  | 7,x => z0o.toD x
  | _ + 8,_ => []
def zE4 : TypeId → Option Nat
  | 29 => some 0
  | 36 => some 2
  | 38 => some 1
  | 49 => some 3
  | 70 => some 6
  | 120 => some 4
  | 129 => some 5
  | 174 => some 7
  | _ => none
instance univ : Univ where
  toUTypes := uTypes
  fields := ztj
  out := uOut
  inn := uInn
  dft := uDft
  uD := uDD
  userOf := zE4
theorem zCr : ∀ n,(ztj n).all (fun s => !(z3k s)) = true
  | 0 => rfl
  | 1 => rfl
  | 2 => rfl
  | 3 => rfl
  | 4 => rfl
  | 5 => rfl
  | 6 => rfl
  | 7 => rfl
  | _ + 8 => rfl
theorem zE8 : ∀ (n : Nat) (x : UTypes.UT n),Univ.uD n x = zaL (Univ.fields n) (Univ.out n x)
  | 0,_ => rfl
  | 1,_ => rfl
  | 2,x => by
    show z00.toD x = _
    cases x
    simp only [z00.toD,z00.zBF]
    rfl
  | 3,_ => rfl
  | 4,_ => rfl
  | 5,_ => rfl
  | 6,_ => rfl
  | 7,_ => rfl
  | _ + 8,_ => rfl
theorem zE0 : ∀ (n : Nat) (x : Els (Univ.fields n)),Univ.out n (Univ.inn n x) = x
  | 0,_ => rfl
  | 1,_ => rfl
  | 2,_ => rfl
  | 3,_ => rfl
  | 4,_ => rfl
  | 5,_ => rfl
  | 6,_ => rfl
  | 7,_ => rfl
  | _ + 8,_ => rfl
theorem zDX : ∀ n,Univ.uD n (Univ.dft n) = zpA (Univ.fields n)
  | 0 => rfl
  | 1 => rfl
  | 2 => rfl
  | 3 => rfl
  | 4 => rfl
  | 5 => rfl
  | 6 => rfl
  | 7 => rfl
  | _ + 8 => rfl
instance univOk : z2U where
  plain := fun n s hs => by
    have := List.all_eq_true.1 (zCr n) s hs
    simpa using this
  deep := zE8
  back := zE0
  zero := zDX
def vu0 (x : z03) : V := .agg [(.str x.z3u),(.str x.z0I),(.str x.z0u),(.str x.z0N),(.str x.z0s),(.lst .str x.z0k 0),(.lst (.int .i64) x.z0H 0),(.lst (.user 1) x.z0e 0),(.int .i64 x.z1z),(.lst (.user 3) x.z0z 0)]
def vu1 (x : z02) : V := .agg [(.str x.z0L),(.int .i64 x.z0j.z0i),(.bool x.z0j.z0K),(.int .i64 x.z0j.z0n),(.str x.z0j.z0D),(.lst .str x.z0j.z0d 0),(.lst (.user 2) x.z0j.z09 0),(.str x.z5W)]
def vu2 (x : z00) : V := .agg [(.int .i64 x.z0i),(.bool x.z0K),(.int .i64 x.z0n),(.str x.z0D),(.lst .str x.z0d 0),(.lst (.user 2) x.z09 0)]
def vu3 (x : z06) : V := .agg [(.str x.z0L),(.str x.zaB),(.str x.z0s),(.int .i64 x.z2h)]
def vu6 (x : z08) : V := .agg [(.int .i64 x.g_n.z0i),(.bool x.g_n.z0K),(.int .i64 x.g_n.z0n),(.str x.g_n.z0D),(.lst .str x.g_n.z0d 0),(.lst (.user 2) x.g_n.z09 0)]
def vu7 (x : z0o) : V := .agg [(.str x.z2e),(.int .i64 x.zaG),(.int .i64 x.zaN),(.int .i64 x.zce),(.int .i64 x.zhJ)]
end Go.Proofs.YtchpeafokjmmeaaGreatDoorQ
namespace Go.Proofs.YtchpeafokjmmeaaGreatDoorQ
open Go
def z2q (left : List UInt8) : Nat := (((119 : Int) - left.length) % 64).toNat
def zqf (x : Int) : UInt8 := UInt8.ofNat (x % 256).toNat
def zbA (N : Int) : List UInt8 := [zqf (N / 72057594037927936),zqf (N / 281474976710656),zqf (N / 1099511627776),zqf (N / 4294967296),zqf (N / 16777216),zqf (N / 65536),zqf (N / 256),zqf N]
def zc5 (left : List UInt8) (len : Int) : List UInt8 := left ++ [128] ++ Lib.repeatL [0] (z2q left) ++ zbA (IntKind.u64.wrap (IntKind.u64.wrap len * 8))
end Go.Proofs.YtchpeafokjmmeaaGreatDoorQ
