/- strings.Builder: copyCheck, WriteString, WriteByte, as this program bears them; hash.rest. -/
import Derived.Shelf.Strings.Builder1
import Derived.Shelf.Strings.Builder2
import Derived.Shelf.Small.Bits
import Derived.Shelf.Small.Wraps
import Derived.Shelf.Strings.BuilderF
import Derived.Shelf.Strings.BuilderK
import Derived.Shelf.Strings.Builder2Cap
import Derived.Shelf.Strconv.Atoi
import Derived.Shelf.Strconv.Itoa0
import Derived.Shelf.Strconv.Itoa1
import Derived.Shelf.LaysM
import Derived.Shelf.Strconv.Itoa2
import Derived.Shelf.Strconv.Itoa3
import Derived.Shelf.Strconv.Itoa4
import Derived.Shelf.Strconv.AtoiErrFast
import Derived.Shelf.Strconv.ParseIntEmpty
import Derived.Shelf.Strconv.AtoiFail
import Derived.Shelf.Strconv.Clone
import Derived.Shelf.Strconv.SyntaxError
import Derived.Shelf.LaysC
import Derived.Shelf.Strconv.ToError
import Derived.Shelf.Strconv.Lower
import Derived.Shelf.Strconv.ParseUint10
import Derived.Shelf.Strconv.ParseUint10Empty
import Derived.Shelf.Strconv.ParseUint10Any
import Derived.Shelf.Strconv.RangeError
import Derived.Shelf.Strconv.ToErrorRange
import Derived.Shelf.Strconv.ParseUintEmpty
import Derived.Shelf.Strconv.ParseUint10b64
import Derived.Shelf.Strconv.ParseUint10b32
import Derived.Shelf.Strconv.ParseUint10b16
import Derived.Shelf.Strconv.ParseUint10b8
import Derived.Shelf.Strconv.ParseUint10At
import Derived.Shelf.Strconv.AppendUint10
import Derived.Shelf.Strconv.AppendInt10
import Derived.Shelf.Strconv.AppendIntPublic10
import Derived.Shelf.Strings.Prefix
import Derived.Shelf.Bits.Mul64
import Derived.Shelf.Strings.Repeat
import Derived.Shelf.Strings.BuilderCap
import Derived.Shelf.Slices.Turned
import Derived.Shelf.Slices.Equal
import Derived.Ground.Names2Prog
import Derived.Shelf.Slices.ReverseS
import Derived.Shelf.Slices.Clone
import Derived.Shelf.Slices.CompactS
import Derived.Shelf.Slices.Delete
import Derived.Shelf.Slices.Cells
import Derived.Shelf.Slices.Empties
import Derived.Shelf.Slices.Empties2
import Derived.Ground.SlgnProg
import Derived.Shelf.SlicesE.Reverse
import Derived.Shelf.SlicesE.Delete
import Derived.Shelf.SlicesE.Clone
import Derived.Test.YtchpeafokjmmeaaGreatDoorProg
import Derived.Shelf.RegionOpenPlain
import Derived.Lib.Strings
import Derived.Lib.Slices
import Derived.Lib.Walk
import Derived.Lib.Builder
import Derived.Lib.AppendStr
import Derived.WalkKit
import Derived.Laws.Externs
import Derived.Laws.IdiomCopy
import Derived.Laws.BitsLemmas
import Derived.Test.YtchpeafokjmmeaaGreatDoorQTa
import Derived.LoopN
import Derived.Test.YtchpeafokjmmeaaGreatDoorQEf
import Derived.Lib.ItoaNum
import Derived.Lib.AppendIntMem
import Derived.Lib.AppendZeros
import Derived.Lib.ItoaMem
import Derived.BigCall
import Derived.BigGuard
import Derived.Laws.EntriesVeiled
import Derived.MapKept
set_option linter.unusedVariables false
set_option linter.unusedSimpArgs false
set_option linter.unusedSectionVars false
namespace Go.Proofs
open Go.Shelf
def Tryz.lays169_ren : Go.Shelf.Ren := ⟨fun | 169 => 141 | n => n,fun | 70 => 159 | 9 => 9 | 0 => 0 | 72 => 161 | 37 => 116 | 127 => 202 | 3 => 3 | 5 => 5 | n => n,fun | n => n⟩
theorem Tryz.lays169 : Go.Proofs.Lays.n169 Tryz.prog Tryz.lays169_ren := {
  mixed := by kernel_rfl
  f169 := Tryz.func141.trans (congrArg some (by kernel_rfl))
  t0 := Tryz.underlying0
  a0 := Tryz.isAgg0
  z0 := Tryz.sizeOf0
  v0 := Tryz.zeroValue0
  t3 := Tryz.underlying3
  a3 := Tryz.isAgg3
  z3 := Tryz.sizeOf3
  v3 := Tryz.zeroValue3
  t9 := Tryz.underlying9
  a9 := Tryz.isAgg9
  z9 := Tryz.sizeOf9
  v9 := Tryz.zeroValue9
  t37 := Tryz.underlying116
  a37 := Tryz.isAgg116
  z37 := Tryz.sizeOf116
  v37 := Tryz.zeroValue116
  t70 := Tryz.underlying159
  a70 := Tryz.isAgg159
  z70 := Tryz.sizeOf159
  v70 := Tryz.zeroValue159
  t72 := Tryz.underlying161
  a72 := Tryz.isAgg161
  z72 := Tryz.sizeOf161
  v72 := Tryz.zeroValue161
  t127 := Tryz.underlying202
  a127 := Tryz.isAgg202
  z127 := Tryz.sizeOf202
  v127 := Tryz.zeroValue202 }
theorem Tryz.Builder_Extra_169 : Builder.Extra Tryz.prog Tryz.lays169_ren := {
  sizeBuilder := by kernel_rfl
  liesBuilder := by kernel_rfl
  t5 := Tryz.underlying5
  a5 := Tryz.isAgg5
  z5 := Tryz.sizeOf5
  v5 := Tryz.zeroValue5
  infoByte := by kernel_rfl
  cellsByte := by kernel_rfl
  sizeByte := by kernel_rfl
  neB5 := by decide }
open Go.RowKit in
theorem Tryz.Builder_String_any (B b : Nat) (l : List UInt8) (w : World) (h : Lib.IsBuilder 161 5 B b (Lib.byteCells l) w) (hBw : B ≤ w.heap.size) :
    Calls Tryz.prog 141 #[.pointer (some ⟨b,0,none⟩)] w fun e w' => e = .returned (.string ⟨l.toArray⟩) ∧ Below B w w' := Any.Builder_String_any Tryz.lays169 Tryz.Builder_Extra_169 B b l w h hBw
def Tryz.lays105_ren : Go.Shelf.Ren := ⟨fun | 105 => 137 | 212 => 174 | 99 => 175 | 165 => 176 | 166 => 139 | 170 => 177 | 169 => 141 | 263 => 211 | 264 => 212 | 206 => 213 | 240 => 178 | 241 => 214 | 276 => 215 | 277 => 248 | n => n,fun | 9 => 9 | 3 => 3 | 4 => 4 | 20 => 20 | 0 => 0 | 46 => 139 | 109 => 198 | 5 => 5 | 72 => 161 | 76 => 164 | 51 => 130 | 146 => 225 | 53 => 167 | 148 => 227 | 70 => 159 | 37 => 116 | 75 => 163 | 127 => 202 | 164 => 229 | 80 => 52 | n => n,fun | n => n⟩
theorem Tryz.lays105 : Go.Proofs.Lays.n105 Tryz.prog Tryz.lays105_ren := {
  mixed := by kernel_rfl
  f99 := Tryz.func175.trans (congrArg some (by kernel_rfl))
  f105 := Tryz.func137.trans (congrArg some (by kernel_rfl))
  f165 := Tryz.func176.trans (congrArg some (by kernel_rfl))
  f166 := Tryz.func139.trans (congrArg some (by kernel_rfl))
  f169 := Tryz.func141.trans (congrArg some (by kernel_rfl))
  f170 := Tryz.func177.trans (congrArg some (by kernel_rfl))
  f206 := Tryz.func213.trans (congrArg some (by kernel_rfl))
  f212 := Tryz.func174.trans (congrArg some (by kernel_rfl))
  f240 := Tryz.func178.trans (congrArg some (by kernel_rfl))
  f241 := Tryz.func214.trans (congrArg some (by kernel_rfl))
  f263 := Tryz.func211.trans (congrArg some (by kernel_rfl))
  f264 := Tryz.func212.trans (congrArg some (by kernel_rfl))
  f276 := Tryz.func215.trans (congrArg some (by kernel_rfl))
  f277 := Tryz.func248.trans (congrArg some (by kernel_rfl))
  t0 := Tryz.underlying0
  a0 := Tryz.isAgg0
  z0 := Tryz.sizeOf0
  v0 := Tryz.zeroValue0
  t3 := Tryz.underlying3
  a3 := Tryz.isAgg3
  z3 := Tryz.sizeOf3
  v3 := Tryz.zeroValue3
  t4 := Tryz.underlying4
  a4 := Tryz.isAgg4
  z4 := Tryz.sizeOf4
  v4 := Tryz.zeroValue4
  t5 := Tryz.underlying5
  a5 := Tryz.isAgg5
  z5 := Tryz.sizeOf5
  v5 := Tryz.zeroValue5
  t9 := Tryz.underlying9
  a9 := Tryz.isAgg9
  z9 := Tryz.sizeOf9
  v9 := Tryz.zeroValue9
  t20 := Tryz.underlying20
  a20 := Tryz.isAgg20
  z20 := Tryz.sizeOf20
  v20 := Tryz.zeroValue20
  t37 := Tryz.underlying116
  a37 := Tryz.isAgg116
  z37 := Tryz.sizeOf116
  v37 := Tryz.zeroValue116
  t46 := Tryz.underlying139
  a46 := Tryz.isAgg139
  z46 := Tryz.sizeOf139
  v46 := Tryz.zeroValue139
  t51 := Tryz.underlying130
  a51 := Tryz.isAgg130
  z51 := Tryz.sizeOf130
  v51 := Tryz.zeroValue130
  t53 := Tryz.underlying167
  a53 := Tryz.isAgg167
  z53 := Tryz.sizeOf167
  v53 := Tryz.zeroValue167
  t70 := Tryz.underlying159
  a70 := Tryz.isAgg159
  z70 := Tryz.sizeOf159
  v70 := Tryz.zeroValue159
  t72 := Tryz.underlying161
  a72 := Tryz.isAgg161
  z72 := Tryz.sizeOf161
  v72 := Tryz.zeroValue161
  t75 := Tryz.underlying163
  a75 := Tryz.isAgg163
  z75 := Tryz.sizeOf163
  v75 := Tryz.zeroValue163
  t76 := Tryz.underlying164
  a76 := Tryz.isAgg164
  z76 := Tryz.sizeOf164
  v76 := Tryz.zeroValue164
  t109 := Tryz.underlying198
  a109 := Tryz.isAgg198
  z109 := Tryz.sizeOf198
  v109 := Tryz.zeroValue198
  t127 := Tryz.underlying202
  a127 := Tryz.isAgg202
  z127 := Tryz.sizeOf202
  v127 := Tryz.zeroValue202
  t146 := Tryz.underlying225
  a146 := Tryz.isAgg225
  z146 := Tryz.sizeOf225
  v146 := Tryz.zeroValue225
  t148 := Tryz.underlying227
  a148 := Tryz.isAgg227
  z148 := Tryz.sizeOf227
  v148 := Tryz.zeroValue227
  t164 := Tryz.underlying229
  a164 := Tryz.isAgg229
  z164 := Tryz.sizeOf229
  v164 := Tryz.zeroValue229 }
theorem Tryz.Builder_Extra_105 : Builder.Extra Tryz.prog Tryz.lays105_ren := {
  sizeBuilder := by kernel_rfl
  liesBuilder := by kernel_rfl
  t5 := Tryz.underlying5
  a5 := Tryz.isAgg5
  z5 := Tryz.sizeOf5
  v5 := Tryz.zeroValue5
  infoByte := by kernel_rfl
  cellsByte := by kernel_rfl
  sizeByte := by kernel_rfl
  neB5 := by decide }
open Go.RowKit Go.Lib in
theorem Tryz.strings_Repeat (s : ByteArray) (c : Nat) (w : World) (hc : c ≤ 9223372036854775807) (hlen : s.size * c ≤ 140737488355328) :
    Calls Tryz.prog 137 #[.string s,.int .i64 c] w fun e w' => e = .returned (.string ⟨(Lib.repeatL s.data.toList c).toArray⟩) ∧ Below w.heap.size w w' := Any.strings_Repeat Tryz.lays105 Tryz.Builder_Extra_105 s c w hc hlen
def Tryz.lays129_ren : Go.Shelf.Ren := ⟨fun | 129 => 232 | n => n,fun | 53 => 167 | 3 => 3 | 4 => 4 | 46 => 139 | 5 => 5 | 9 => 9 | n => n,fun | n => n⟩
theorem Tryz.lays129 : Go.Proofs.Lays.n129 Tryz.prog Tryz.lays129_ren := {
  mixed := by kernel_rfl
  f129 := Tryz.func232.trans (congrArg some (by kernel_rfl))
  t3 := Tryz.underlying3
  a3 := Tryz.isAgg3
  z3 := Tryz.sizeOf3
  v3 := Tryz.zeroValue3
  t4 := Tryz.underlying4
  a4 := Tryz.isAgg4
  z4 := Tryz.sizeOf4
  v4 := Tryz.zeroValue4
  t5 := Tryz.underlying5
  a5 := Tryz.isAgg5
  z5 := Tryz.sizeOf5
  v5 := Tryz.zeroValue5
  t9 := Tryz.underlying9
  a9 := Tryz.isAgg9
  z9 := Tryz.sizeOf9
  v9 := Tryz.zeroValue9
  t46 := Tryz.underlying139
  a46 := Tryz.isAgg139
  z46 := Tryz.sizeOf139
  v46 := Tryz.zeroValue139
  t53 := Tryz.underlying167
  a53 := Tryz.isAgg167
  z53 := Tryz.sizeOf167
  v53 := Tryz.zeroValue167 }
theorem Tryz.bits_Len64 (x : Int) (w : World) (h0 : 0 ≤ x) (h1 : x ≤ 18446744073709551615) :
    Calls Tryz.prog 232 #[.int .u64 x] w fun e w' => e = .returned (.int .i64 (Lib.bitLen x.toNat)) ∧ w' = w := Any.bits_Len64 Tryz.lays129 x w h0 h1
def Tryz.lays317_ren : Go.Shelf.Ren := ⟨fun | 317 => 244 | n => n,fun | 3 => 3 | 46 => 139 | n => n,fun | n => n⟩
theorem Tryz.lays317 : Go.Proofs.Lays.n317 Tryz.prog Tryz.lays317_ren := {
  mixed := by kernel_rfl
  f317 := Tryz.func244.trans (congrArg some (by kernel_rfl))
  t3 := Tryz.underlying3
  a3 := Tryz.isAgg3
  z3 := Tryz.sizeOf3
  v3 := Tryz.zeroValue3
  t46 := Tryz.underlying139
  a46 := Tryz.isAgg139
  z46 := Tryz.sizeOf139
  v46 := Tryz.zeroValue139 }
open Go.Lib in
theorem Tryz.internal_strconv_log10Pow2 (x : Nat) (h : x ≤ 64) (w : World) :
    Calls Tryz.prog 244 #[.int .i64 x] w fun e w' => e = .returned (.int .i64 (Lib.l10 x)) ∧ w' = w := Any.internal_strconv_log10Pow2 Tryz.lays317 x h w
def Tryz.lays318_ren : Go.Shelf.Ren := ⟨fun | 318 => 245 | n => n,fun | 3 => 3 | 4 => 4 | n => n,fun | n => n⟩
theorem Tryz.lays318 : Go.Proofs.Lays.n318 Tryz.prog Tryz.lays318_ren := {
  mixed := by kernel_rfl
  f318 := Tryz.func245.trans (congrArg some (by kernel_rfl))
  t3 := Tryz.underlying3
  a3 := Tryz.isAgg3
  z3 := Tryz.sizeOf3
  v3 := Tryz.zeroValue3
  t4 := Tryz.underlying4
  a4 := Tryz.isAgg4
  z4 := Tryz.sizeOf4
  v4 := Tryz.zeroValue4 }
open Go.Lib in
theorem Tryz.internal_strconv_bool2_int (b : Bool) (w : World) :
    Calls Tryz.prog 245 #[.bool b] w fun e w' => e = .returned (.int .i64 (if b then 1 else 0)) ∧ w' = w := Any.internal_strconv_bool2_int Tryz.lays318 b w
def Tryz.lays285_ren : Go.Shelf.Ren := ⟨fun | 285 => 209 | n => n,fun | 37 => 116 | 53 => 167 | 3 => 3 | 4 => 4 | 51 => 130 | 9 => 9 | 5 => 5 | 0 => 0 | n => n,fun | n => n⟩
theorem Tryz.lays285 : Go.Proofs.Lays.n285 Tryz.prog Tryz.lays285_ren := {
  mixed := by kernel_rfl
  f285 := Tryz.func209.trans (congrArg some (by kernel_rfl))
  t0 := Tryz.underlying0
  a0 := Tryz.isAgg0
  z0 := Tryz.sizeOf0
  v0 := Tryz.zeroValue0
  t3 := Tryz.underlying3
  a3 := Tryz.isAgg3
  z3 := Tryz.sizeOf3
  v3 := Tryz.zeroValue3
  t4 := Tryz.underlying4
  a4 := Tryz.isAgg4
  z4 := Tryz.sizeOf4
  v4 := Tryz.zeroValue4
  t5 := Tryz.underlying5
  a5 := Tryz.isAgg5
  z5 := Tryz.sizeOf5
  v5 := Tryz.zeroValue5
  t9 := Tryz.underlying9
  a9 := Tryz.isAgg9
  z9 := Tryz.sizeOf9
  v9 := Tryz.zeroValue9
  t37 := Tryz.underlying116
  a37 := Tryz.isAgg116
  z37 := Tryz.sizeOf116
  v37 := Tryz.zeroValue116
  t51 := Tryz.underlying130
  a51 := Tryz.isAgg130
  z51 := Tryz.sizeOf130
  v51 := Tryz.zeroValue130
  t53 := Tryz.underlying167
  a53 := Tryz.isAgg167
  z53 := Tryz.sizeOf167
  v53 := Tryz.zeroValue167 }
open Go.RowKit Go.Sort Go.Lib in
theorem Tryz.internal_strconv_formatBase10 (blk off cap : Nat) (u : Nat) (d : Array UInt8) (w : World) (hH : Holds (fun (b : UInt8) => Value.int .u8 (b.toNat : Int)) w blk off d) (hu : u < 10 ^ d.size) (hu64 : u < 18446744073709551616) (hsz : d.size < 4611686018427387904) :
    Calls Tryz.prog 209 #[.slice (some ⟨blk,off,none⟩) d.size cap,.int .u64 u] w fun e w' =>
      e = .returned (.tuple #[]) ∧ ∃ (n v' : Nat) (dk : Array UInt8),w' = (putRow (fun (b : UInt8) => Value.int .u8 (b.toNat : Int)) w blk off dk).drewN n ∧ FmtInv d.size u 0 v' dk := Any.internal_strconv_formatBase10 Tryz.lays285 blk off cap u d w hH hu hu64 hsz
def Tryz.lays283_ren : Go.Shelf.Ren := ⟨fun | 283 => 207 | n => n,fun | 3 => 3 | 9 => 9 | 4 => 4 | n => n,fun | n => n⟩
theorem Tryz.lays283 : Go.Proofs.Lays.n283 Tryz.prog Tryz.lays283_ren := {
  mixed := by kernel_rfl
  f283 := Tryz.func207.trans (congrArg some (by kernel_rfl))
  t3 := Tryz.underlying3
  a3 := Tryz.isAgg3
  z3 := Tryz.sizeOf3
  v3 := Tryz.zeroValue3
  t4 := Tryz.underlying4
  a4 := Tryz.isAgg4
  z4 := Tryz.sizeOf4
  v4 := Tryz.zeroValue4
  t9 := Tryz.underlying9
  a9 := Tryz.isAgg9
  z9 := Tryz.sizeOf9
  v9 := Tryz.zeroValue9 }
open Go.Lib in
theorem Tryz.internal_strconv_small (i : Nat) (h : i < 100) (w : World) :
    Calls Tryz.prog 207 #[.int .i64 i] w fun e w' => e = .returned (.string ⟨(Lib.decDigits i).toArray⟩) ∧ w' = w := Any.internal_strconv_small Tryz.lays283 i h w
end Go.Proofs
set_option maxHeartbeats 2000000
set_option maxRecDepth 100000
namespace Go.Proofs.YtchpeafokjmmeaaGreatDoorQ
open Go Go.RowKit
theorem zBK (b : Nat) (w : World) (h0 : w.cell? ⟨b,0,none⟩ = some (.pointer (some ⟨b,0,none⟩))) :
    Calls Tryz.prog 178 #[.pointer (some ⟨b,0,none⟩)] w fun e w' => e = .returned (.tuple #[]) ∧ w' = w := by
  obtain ⟨j,hj,_⟩ := Option.map_eq_some_iff.1 Tryz.Builder_Extra_169.sizeBuilder
  have mixed : Tryz.prog.follows .mixedOrders = true := by kernel_rfl
  have u0 := run_underlying Tryz.underlying161; have u1 := run_underlying Tryz.underlying159; have u2 := run_underlying Tryz.underlying229
  go_enter Tryz.func178,Tryz.ntmps178
  go_wp2
  rw [Lib.run_neq_ptr_same w _ Tryz.underlying159 hj]
  go_wp2
  go_end0
  exact ⟨rfl,rfl⟩
theorem zzv (b : Nat) (w : World) (h0 : w.cell? ⟨b,0,none⟩ = some (.pointer none)) (hsh : w.shape? b = some (161,2)) (hfz : w.frozen? ⟨b,0,none⟩ = false) :
    Calls Tryz.prog 178 #[.pointer (some ⟨b,0,none⟩)] w fun e w' => e = .returned (.tuple #[]) ∧ w' = w.setCell ⟨b,0,none⟩ (.pointer (some ⟨b,0,none⟩)) := by
  obtain ⟨j,hj,hjs⟩ := Option.map_eq_some_iff.1 Tryz.Builder_Extra_169.sizeBuilder
  have mixed : Tryz.prog.follows .mixedOrders = true := by kernel_rfl
  have u0 := run_underlying Tryz.underlying161; have u1 := run_underlying Tryz.underlying159; have u2 := run_underlying Tryz.underlying229
  go_enter Tryz.func178,Tryz.ntmps178
  go_wp2
  rw [Lib.run_to_unsafe w ⟨b,0,none⟩ Tryz.underlying159 Tryz.underlying229 hj (by rw [hjs]; decide) hsh (Nat.zero_lt_succ 1)]
  simp only [Result.andThen]
  rw [Oper.upon_value]
  go_wp2
  rw [run_callFunc_extern Tryz.func215 (by kernel_rfl) (by kernel_rfl) (by kernel_rfl) (e := Extern.AbiNoEscape.same) (by kernel_rfl)]
  rw [Lib.run_noEscape]
  simp only [Result.andThen]
  rw [Oper.upon_value]
  go_wp2
  rw [Lib.run_from_unsafe w ⟨b,0,none⟩ Tryz.underlying229 Tryz.underlying159 hj hsh Tryz.Builder_Extra_169.liesBuilder]
  simp only [Result.andThen]
  rw [Oper.upon_value]
  go_wp2
  go_end0
  exact ⟨rfl,rfl⟩
theorem copyCheck (B b : Nat) (bs : List Value) (w : World) (h : Lib.IsBuilder 161 5 B b bs w) :
    Calls Tryz.prog 178 #[.pointer (some ⟨b,0,none⟩)] w fun e w' => e = .returned (.tuple #[]) ∧ (Lib.BuilderAt 161 5 B b (.pointer (some ⟨b,0,none⟩)) bs w' ∧ Below B w w') := by
  rcases h with h | h
  · refine (zzv b w h.cell0 h.shape h.frozen0).mono ?_
    rintro e w' ⟨rfl,rfl⟩
    exact ⟨rfl,h.used _,(Below.refl B w).setCell (p := ⟨b,0,none⟩) h.1 _⟩
  · refine (zBK b w h.cell0).mono ?_
    rintro e w' ⟨rfl,rfl⟩
    exact ⟨rfl,h,Below.refl B _⟩
theorem info5 : (Tryz.prog.info? 5).map (fun i => (i.zero,i.size,i.bytes)) = some (some (.int .u8 0),1,1) := by kernel_rfl
theorem writeString (B b : Nat) (bs : List Value) (s : ByteArray) (w : World) (h : Lib.IsBuilder 161 5 B b bs w) (hlen : bs.length + s.size ≤ 140737488355328) (hBw : B ≤ w.heap.size) :
    Calls Tryz.prog 139 #[.pointer (some ⟨b,0,none⟩),.string s] w fun e w' => e = .returned (.tuple #[.int .i64 s.size,.nilIface]) ∧ (Lib.BuilderAt 161 5 B b (.pointer (some ⟨b,0,none⟩)) (bs ++ Lib.strCells s) w' ∧ Below B w w') := by
  obtain ⟨i0,hi,hz0,hz1,hz2⟩ := info_parts info5
  have mixed : Tryz.prog.follows .mixedOrders = true := by kernel_rfl
  have u0 := run_underlying Tryz.underlying161; have u1 := run_underlying Tryz.underlying159; have u2 := run_underlying Tryz.underlying116; have u3 := run_underlying Tryz.underlying9; have u4 := run_underlying Tryz.underlying5
  have t171 := Tryz.underlying161; have t169 := Tryz.underlying159; have t24 := Tryz.underlying116; have t9 := Tryz.underlying9; have t5 := Tryz.underlying5; have t3 := Tryz.underlying3
  have z171 := Tryz.sizeOf161; have z24 := Tryz.sizeOf116; have a24 := Tryz.isAgg116
  go_enter Tryz.func139,Tryz.ntmps139
  go_wp2_with (go_at_call 178; refine (copyCheck B b bs _ h).mono ?_)
  rintro e w1 ⟨rfl,h1,hb1⟩
  obtain ⟨hB,v,hbk,hown,hne⟩ := h1
  have c0 : w1.cell? ⟨b,0,none⟩ = some (.pointer (some ⟨b,0,none⟩)) := by rw [Lib.cell_of_heap hbk]; rfl
  have c1 : w1.cell? ⟨b,1,none⟩ = some v := by rw [Lib.cell_of_heap hbk]; rfl
  go_wp2_with (at_builtin; refine Lib.wpList_append_own_string _ rfl _ _ 116 9 rfl B 5 i0 Tryz.underlying116 Tryz.underlying9 hi hz0 hz1 hz2 _ _ _ rfl hown s rfl ?c3 ?c4 ?c5 ?_)
  case c3 => unfold maxLen; omega
  case c4 => omega
  case c5 => have := hb1.size; omega
  intro v' w2 hown' hgrow _
  have hlt : b < w1.heap.size := by
    rcases Nat.lt_or_ge b w1.heap.size with h' | h'
    · exact h'
    · simp [Array.getElem?_eq_none h'] at hbk
  have hb2 : w2.heap[b]? = some (.cells #[.pointer (some ⟨b,0,none⟩),v] 161 (0,0)) := by
    rw [hgrow.block b hlt (fun e => hne e.symm)]
    exact hbk
  have d0 : w2.cell? ⟨b,0,none⟩ = some (.pointer (some ⟨b,0,none⟩)) := by rw [Lib.cell_of_heap hb2]; rfl
  have d1 : w2.cell? ⟨b,1,none⟩ = some v := by rw [Lib.cell_of_heap hb2]; rfl
  have f1 : w2.frozen? ⟨b,1,none⟩ = false := Lib.frozen_of_heap hb2 1
  obtain ⟨ao,n',cap,rfl⟩ : ∃ ao n' cap,v' = .slice ao n' cap := by
    rcases hown'.2 with ⟨hv,_⟩ | ⟨g,cap,cur,hv,_⟩
    · exact ⟨_,_,_,hv⟩
    · exact ⟨_,_,_,hv⟩
  go_wp2
  go_ret2
  refine ⟨rfl,?_,?_⟩
  · exact Lib.BuilderAt.put (T := 161) (e := 5) hB hb2 (bs' := bs ++ Lib.strCells s) (by simpa [Lib.strCells_length] using hown') (by decide)
  · exact (hb1.grown hgrow (by have := hb1.size; omega) (fun k hk => (hown.lt k hk).1)).setCell (p := ⟨b,1,none⟩) hB _
theorem writeByte (B b : Nat) (bs : List Value) (c : Int) (w : World) (h : Lib.IsBuilder 161 5 B b bs w) (hlen : bs.length + 1 ≤ 140737488355328) (hBw : B ≤ w.heap.size) :
    Calls Tryz.prog 140 #[.pointer (some ⟨b,0,none⟩),.int .u8 c] w fun e w' => e = .returned .nilIface ∧ (Lib.BuilderAt 161 5 B b (.pointer (some ⟨b,0,none⟩)) (bs ++ [.int .u8 c]) w' ∧ Below B w w') := by
  obtain ⟨i0,hi,hz0,hz1,hz2⟩ := info_parts info5
  have mixed : Tryz.prog.follows .mixedOrders = true := by kernel_rfl
  have u0 := run_underlying Tryz.underlying161; have u1 := run_underlying Tryz.underlying159; have u2 := run_underlying Tryz.underlying116; have u3 := run_underlying Tryz.underlying9; have u4 := run_underlying Tryz.underlying5
  have t171 := Tryz.underlying161; have t169 := Tryz.underlying159; have t24 := Tryz.underlying116; have t9 := Tryz.underlying9; have t5 := Tryz.underlying5; have t3 := Tryz.underlying3
  have z171 := Tryz.sizeOf161; have z24 := Tryz.sizeOf116; have a24 := Tryz.isAgg116; have z5 := Tryz.sizeOf5; have a5 := Tryz.isAgg5; have v5 := Tryz.zeroValue5
  go_enter Tryz.func140,Tryz.ntmps140
  go_wp2_with (go_at_call 178; refine (copyCheck B b bs _ h).mono ?_)
  rintro e w1 ⟨rfl,h1,hb1⟩
  obtain ⟨hB,v,hbk,hown,hne⟩ := h1
  have c0 : w1.cell? ⟨b,0,none⟩ = some (.pointer (some ⟨b,0,none⟩)) := by rw [Lib.cell_of_heap hbk]; rfl
  have c1 : w1.cell? ⟨b,1,none⟩ = some v := by rw [Lib.cell_of_heap hbk]; rfl
  go_wp2_with (at_builtin; refine wpList_append_own _ rfl _ _ 116 rfl B 5 i0 (.int .u8 0) 1 1 Tryz.underlying116 hi hz0 hz1 hz2 rfl (by decide) _ _ _ rfl (hown.alloc _) ⟨w1.heap.size,0,none⟩ 1 1 [.int .u8 c] rfl rfl ?c1 ?c2 ?c3 ?c4 ?c5 ?_)
  case c1 =>
    intro j u hj
    match j,hj with
    | 0,hj => simp at hj; subst hj; simp [Addr.add]
  case c2 => intro u hu; simp at hu; subst hu; rfl
  case c3 => unfold maxLen; omega
  case c4 => omega
  case c5 => have := hb1.size; simp; omega
  intro v' w2 hown' hgrow _
  have hlt : b < w1.heap.size := by
    rcases Nat.lt_or_ge b w1.heap.size with h' | h'
    · exact h'
    · simp [Array.getElem?_eq_none h'] at hbk
  have hb2 : w2.heap[b]? = some (.cells #[.pointer (some ⟨b,0,none⟩),v] 161 (0,0)) := by
    rw [hgrow.block b (by simp; omega) (fun e => hne e.symm),Lib.alloc_old w1 _ b hlt]
    exact hbk
  have d0 : w2.cell? ⟨b,0,none⟩ = some (.pointer (some ⟨b,0,none⟩)) := by rw [Lib.cell_of_heap hb2]; rfl
  have d1 : w2.cell? ⟨b,1,none⟩ = some v := by rw [Lib.cell_of_heap hb2]; rfl
  have f1 : w2.frozen? ⟨b,1,none⟩ = false := Lib.frozen_of_heap hb2 1
  obtain ⟨g,cap,rfl⟩ : ∃ g cap,v' = .slice (some ⟨g,0,none⟩) (bs.length + 1) cap := by
    rcases hown'.2 with ⟨_,h0⟩ | ⟨g,cap,cur,hv,_⟩
    · omega
    · exact ⟨g,cap,hv⟩
  go_wp2
  go_ret
  refine ⟨rfl,?_,?_⟩
  · exact Lib.BuilderAt.put (T := 161) (e := 5) hB hb2 (bs' := bs ++ [.int .u8 c]) (by simpa using hown') (by decide)
  · exact ((hb1.alloc (by have := hb1.size; omega) _).grown hgrow (by have := hb1.size; simp; omega) (fun k hk => (hown.lt k hk).1)).setCell (p := ⟨b,1,none⟩) hB _
end Go.Proofs.YtchpeafokjmmeaaGreatDoorQ
set_option maxHeartbeats 4000000
set_option maxRecDepth 100000
namespace Go.Proofs.YtchpeafokjmmeaaGreatDoorQ
open Go Go.RowKit
theorem zvY {B b : Nat} {p : Value} {bs : List Value} {w w' : World} (h : Lib.BuilderAt 161 5 B b p bs w) (k : Below w.heap.size w w') : Lib.BuilderAt 161 5 B b p bs w' := by
  have hlt := h.lt
  obtain ⟨hB,v,hb,hown,hne⟩ := h
  refine ⟨hB,v,(k.block b hlt).trans hb,?_,hne⟩
  exact hown.kept (row := none) ⟨k.os,k.tape,k.output,k.size,fun j hj _ => k.block j hj⟩ (by cases hv : v.ownBlock with | none => exact .inl rfl | some k => exact .inr (by simp))
theorem zy8 (x : Int) : Value.int .u8 (x % 256) = Value.int .u8 ((zqf x).toNat : Int) := by
  congr 1
  simp only [zqf,UInt8.toNat_ofNat']
  omega
theorem zzW (left zs : List UInt8) (N : Int) : Lib.byteCells (left ++ [128] ++ zs ++ zbA N) = [] ++ Lib.strCells ⟨left.toArray⟩ ++ [Value.int .u8 128] ++ Lib.strCells ⟨zs.toArray⟩ ++ [Value.int IntKind.u8 (N / 72057594037927936 % 256)] ++ [Value.int IntKind.u8 (N / 281474976710656 % 256)] ++ [Value.int IntKind.u8 (N / 1099511627776 % 256)] ++ [Value.int IntKind.u8 (N / 4294967296 % 256)] ++ [Value.int IntKind.u8 (N / 16777216 % 256)] ++ [Value.int IntKind.u8 (N / 65536 % 256)] ++ [Value.int IntKind.u8 (N / 256 % 256)] ++ [Value.int IntKind.u8 (N % 256)] := by
  simp only [zy8,Lib.strCells_toArray]
  simp only [Lib.byteCells,zbA,List.map_append,List.map_cons,List.map_nil,List.nil_append,List.append_assoc,List.singleton_append,List.cons_append]
  rfl
theorem zy7 (left : List UInt8) (len : Int) (hlen : left.length ≤ 1000000000) (w : World) :
    Calls Tryz.prog 104 #[.string ⟨left.toArray⟩,.int .i64 len] w fun e w' => e = .returned (.string ⟨(zc5 left len).toArray⟩) ∧ Below w.heap.size w w' := by
  have mixed : Tryz.prog.follows .mixedOrders = true := by kernel_rfl
  have u0 := run_underlying Tryz.underlying161; have u1 := run_underlying Tryz.underlying159; have u2 := run_underlying Tryz.underlying116; have u3 := run_underlying Tryz.underlying9; have u4 := run_underlying Tryz.underlying5; have u5 := run_underlying Tryz.underlying3; have u6 := run_underlying Tryz.underlying167
  have t171 := Tryz.underlying161; have t169 := Tryz.underlying159; have t24 := Tryz.underlying116; have t9 := Tryz.underlying9; have t5 := Tryz.underlying5; have t3 := Tryz.underlying3
  have z171 := Tryz.sizeOf161; have v171 := Tryz.zeroValue161; have a171 := Tryz.isAgg161
  have hs : (ByteArray.mk left.toArray).size = left.length := by simp [ByteArray.size]
  have hz : ((119 : Int) - left.length) % 64 = (z2q left : Int) := by unfold z2q; omega
  have hzl : z2q left ≤ 63 := by unfold z2q; omega
  have hs3 : (ByteArray.mk (Lib.repeatL [0] (z2q left)).toArray).size = z2q left := by simp [ByteArray.size,Lib.repeatL_length]
  have hz0 : (ByteArray.mk #[(0 : UInt8)]).size = 1 := rfl
  go_enter Tryz.func104,Tryz.ntmps104
  go_wp2_with (go_at_call 139; refine (writeString w.heap.size w.heap.size [] ⟨left.toArray⟩ _ (.inl ⟨Nat.le_refl _,.slice none 0 0,?c1,World.ownsRow_nil _ _ _ _,?c2⟩) ?c3 ?c4).mono ?_)
  case c1 => exact Array.getElem?_push_size
  case c2 => simp [Value.ownBlock]
  case c3 => simp only [List.length_nil,hs]; omega
  case c4 => simp
  rintro e w1 ⟨rfl,h1,b1⟩
  have b1 : Below w.heap.size w w1 := ((Below.refl _ w).alloc (Nat.le_refl _) _).trans b1
  go_wp2_with (go_at_call 140; refine (writeByte w.heap.size w.heap.size _ 128 _ (.inr h1) ?c3 b1.size).mono ?_)
  case c3 => simp only [List.nil_append,Lib.strCells_length,hs]; omega
  rintro e w2 ⟨rfl,h2,b2⟩
  have b2 := b1.trans b2
  go_wp2_with (go_at_call 137; refine (Tryz.strings_Repeat ⟨#[0]⟩ (z2q left) _ (by omega) ?c3).mono ?_)
  case c3 => rw [hz0]; omega
  first | rintro e w3 rfl b3 | rintro e w3 ⟨rfl,b3⟩
  have h3 := zvY h2 b3
  have b3 := b2.trans (b3.mono b2.size)
  go_wp2_with (go_at_call 139; refine (writeString w.heap.size w.heap.size _ _ _ (.inr h3) ?c3 b3.size).mono ?_)
  case c3 => rw [hs3]; simp only [List.nil_append,List.length_append,Lib.strCells_length,hs,List.length_cons,List.length_nil]; omega
  rintro e w4 ⟨rfl,h4,b4⟩
  have b4 := b3.trans b4
  obtain ⟨bs,hbs⟩ : ∃ bs,bs = [] ++ Lib.strCells ⟨left.toArray⟩ ++ [.int .u8 128] ++ Lib.strCells ⟨(Lib.repeatL [0] (z2q left)).toArray⟩ := ⟨_,rfl⟩
  have hbl : bs.length ≤ 1000001000 := by rw [hbs]; simp only [List.nil_append,List.length_append,Lib.strCells_length,hs,hs3,List.length_cons,List.length_nil]; omega
  have h4' : Lib.BuilderAt 161 5 w.heap.size w.heap.size (.pointer (some ⟨w.heap.size,0,none⟩)) bs w4 := by rw [hbs]; exact h4
  clear h4
  go_wp2_with (fail)
  generalize hN : IntKind.u64.wrap (IntKind.u64.wrap len * 8) = N
  refine wp_loop_rounds 9 ?_
  rw [rounds_succ]
  go_wp2_with (go_at_call 140; refine (writeByte w.heap.size w.heap.size _ _ _ (.inr h4') ?c3 b4.size).mono ?_)
  case c3 => (try simp only [List.length_append,List.length_cons,List.length_nil]); omega
  rintro e w5 ⟨rfl,h5,b5⟩
  have b5 := b4.trans b5
  go_wp2_with (fail)
  rw [rounds_succ]
  go_wp2_with (go_at_call 140; refine (writeByte w.heap.size w.heap.size _ _ _ (.inr h5) ?c3 b5.size).mono ?_)
  case c3 => (try simp only [List.length_append,List.length_cons,List.length_nil]); omega
  rintro e w6 ⟨rfl,h6,b6⟩
  have b6 := b5.trans b6
  go_wp2_with (fail)
  rw [rounds_succ]
  go_wp2_with (go_at_call 140; refine (writeByte w.heap.size w.heap.size _ _ _ (.inr h6) ?c3 b6.size).mono ?_)
  case c3 => (try simp only [List.length_append,List.length_cons,List.length_nil]); omega
  rintro e w7 ⟨rfl,h7,b7⟩
  have b7 := b6.trans b7
  go_wp2_with (fail)
  rw [rounds_succ]
  go_wp2_with (go_at_call 140; refine (writeByte w.heap.size w.heap.size _ _ _ (.inr h7) ?c3 b7.size).mono ?_)
  case c3 => (try simp only [List.length_append,List.length_cons,List.length_nil]); omega
  rintro e w8 ⟨rfl,h8,b8⟩
  have b8 := b7.trans b8
  go_wp2_with (fail)
  rw [rounds_succ]
  go_wp2_with (go_at_call 140; refine (writeByte w.heap.size w.heap.size _ _ _ (.inr h8) ?c3 b8.size).mono ?_)
  case c3 => (try simp only [List.length_append,List.length_cons,List.length_nil]); omega
  rintro e w9 ⟨rfl,h9,b9⟩
  have b9 := b8.trans b9
  go_wp2_with (fail)
  rw [rounds_succ]
  go_wp2_with (go_at_call 140; refine (writeByte w.heap.size w.heap.size _ _ _ (.inr h9) ?c3 b9.size).mono ?_)
  case c3 => (try simp only [List.length_append,List.length_cons,List.length_nil]); omega
  rintro e w10 ⟨rfl,h10,b10⟩
  have b10 := b9.trans b10
  go_wp2_with (fail)
  rw [rounds_succ]
  go_wp2_with (go_at_call 140; refine (writeByte w.heap.size w.heap.size _ _ _ (.inr h10) ?c3 b10.size).mono ?_)
  case c3 => (try simp only [List.length_append,List.length_cons,List.length_nil]); omega
  rintro e w11 ⟨rfl,h11,b11⟩
  have b11 := b10.trans b11
  go_wp2_with (fail)
  rw [rounds_succ]
  go_wp2_with (go_at_call 140; refine (writeByte w.heap.size w.heap.size _ _ _ (.inr h11) ?c3 b11.size).mono ?_)
  case c3 => (try simp only [List.length_append,List.length_cons,List.length_nil]); omega
  rintro e w12 ⟨rfl,h12,b12⟩
  have b12 := b11.trans b12
  go_wp2_with (fail)
  rw [rounds_succ]
  have hend : Lib.BuilderAt 161 5 w.heap.size w.heap.size (.pointer (some ⟨w.heap.size,0,none⟩)) (Lib.byteCells (left ++ [128] ++ Lib.repeatL [0] (z2q left) ++ zbA N)) w12 := by
    rw [zzW,← hbs]
    exact h12
  go_wp2_with (go_at_call 141; refine (Tryz.Builder_String_any w.heap.size w.heap.size _ _ (.inr hend) b12.size).mono ?_)
  first | rintro e w13 rfl b13 | rintro e w13 ⟨rfl,b13⟩
  go_wp2
  go_ret
  refine ⟨?_,b12.trans b13⟩
  have hfin : zc5 left len = left ++ 128 :: (Lib.repeatL [0] (z2q left) ++ zbA N) := by
    rw [zc5,hN]; simp only [List.append_assoc,List.singleton_append,List.cons_append,List.nil_append]
  rw [hfin]
  rfl
end Go.Proofs.YtchpeafokjmmeaaGreatDoorQ
set_option maxHeartbeats 2000000
set_option maxRecDepth 100000
namespace Go.Proofs.YtchpeafokjmmeaaGreatDoorQ
open Go Go.RowKit
theorem zxZ (w : World) (hT : w.cell? ⟨5,15,none⟩ = some (.int .u8 4)) :
    Calls Tryz.prog 247 #[.int .u64 16] w fun e w' => e = .returned (.int .i64 4) ∧ w' = w := by
  have mixed : Tryz.prog.follows .mixedOrders = true := by kernel_rfl
  have u1 := run_underlying Tryz.underlying139; have u2 := run_underlying Tryz.underlying167; have u3 := run_underlying Tryz.underlying3; have u4 := run_underlying Tryz.underlying5; have u5 := run_underlying Tryz.underlying288
  have z5 := Tryz.sizeOf5; have a5 := Tryz.isAgg5
  go_enter Tryz.func247,Tryz.ntmps247
  have hk : IntKind.u64.wrap (bits BinOp.and IntKind.u64 16 (IntKind.u64.wrap (-16)) * 285870213051353865) / 288230376151711744 = 15 := by decide +kernel
  go_wp2
  go_ret
  exact ⟨rfl,rfl⟩
theorem numDigits (u : Nat) (h1 : 1 ≤ u) (h2 : u < 18446744073709551616) (w : World) (hT : ∀ i : Nat,i < 20 → w.cell? ⟨2,i,none⟩ = some (.int .u64 ((10 ^ i : Nat) : Int))) :
    Calls Tryz.prog 208 #[.int .u64 u] w fun e w' => e = .returned (.int .i64 (Lib.nDigits u)) ∧ w' = w := by
  have mixed : Tryz.prog.follows .mixedOrders = true := by kernel_rfl
  have u1 := run_underlying Tryz.underlying167; have u3 := run_underlying Tryz.underlying3; have u5 := run_underlying Tryz.underlying254; have u4 := run_underlying Tryz.underlying4
  have z1 := Tryz.sizeOf167; have a1 := Tryz.isAgg167
  obtain ⟨hnd,h19⟩ := Lib.numDigits_eq u h1 h2
  have hL : Lib.bitLen u ≤ 64 := Lib.bitLen_le u 64 (Nat.le_refl _) h2
  have hcell := hT (Lib.l10 (Lib.bitLen u)) (by omega)
  have hto : ((u : Int)).toNat = u := by omega
  generalize hq : Lib.l10 (Lib.bitLen u) = q at hnd h19 hcell
  generalize hT' : 10 ^ q = T at hnd hcell
  have h20 : q < 20 := by omega
  have Hnd := Lib.hid hnd
  clear hnd hT
  go_enter Tryz.func208,Tryz.ntmps208
  go_wp2_with (first
    | (go_at_call 232; refine (Tryz.bits_Len64 _ _ (by omega) (by omega)).mono ?_; rintro e w' ⟨rfl,rfl⟩)
    | (go_at_call 244; refine (Tryz.internal_strconv_log10Pow2 _ (by first | exact hL | (rw [hto]; exact hL)) _).mono ?_; rintro e w' ⟨rfl,rfl⟩)
    | (go_at_call 245; refine (Tryz.internal_strconv_bool2_int _ _).mono ?_; rintro e w' ⟨rfl,rfl⟩))
  all_goals go_ret
  all_goals (
    refine ⟨?_,rfl⟩
    have hnd := Hnd.out
    congr 2
    split at hnd <;> simp_all <;> omega)
end Go.Proofs.YtchpeafokjmmeaaGreatDoorQ
set_option maxHeartbeats 4000000
set_option maxRecDepth 100000
namespace Go.Proofs.YtchpeafokjmmeaaGreatDoorQ
open Go Go.RowKit Go.PE Go.Sort
class Tables [PE.Ground] : Prop where
  pow10 : ∀ i : Nat,i < 20 → Ground.G 2 i = some (.int .u64 ((10 ^ i : Nat) : Int))
  ctz16 : Ground.G 5 15 = some (.int .u8 4)
theorem zAY (a2 : List Int) (l : List UInt8) : zg2 Tryz.prog (get (z7b 0 [.row (.int .u8) a2 0])) 1 none 116 (.row 0) (.str l) = some ⟨.row 1,[(1,.row (.int .u8) (a2 ++ bytesOf l) 0),(0,.dead)],[fits ((a2.length + (bytesOf l).length) * 1)]⟩ := by kernel_rfl
theorem zAM (a2 : List Int) (l : List Int) : zg2 Tryz.prog (get (z7b 0 [.row (.int .u8) a2 0])) 1 none 116 (.row 0) (.lst (.int .u8) l 0) = some ⟨.row 1,[(1,.row (.int .u8) (a2 ++ l) 0),(0,.dead)],[fits ((a2.length + l.length) * 1)]⟩ := by kernel_rfl
theorem bytesOf_length (l : List UInt8) : (bytesOf l).length = l.length := by simp [bytesOf]
theorem zAg (a : C) (c : C) : addF [(1,c),(0,.dead)] (get (z7b 0 [a])) = get (z7b 0 ([.dead] ++ [c])) := by
  funext i
  rw [z2B]
  match i with
  | 0 => rfl
  | 1 => rfl
  | i + 2 => rfl
theorem zqr [PE.Ground] [Tables] (a2 : List Int) (u : Nat) (hu64 : u < 18446744073709551616) (hlim : a2.length + 20 ≤ 140737488355328) (hf : Tryz.prog.funcs[173]? = some Tryz.f173) :
    PE.Spec Tryz.prog 173 [.row 0,.int .u64 u,.int .i64 10] [.row (.int .u8) a2 0] (.row 1) [.dead] [.row (.int .u8) (a2 ++ bytesOf (Lib.decDigits u)) 0] := by
  refine zla hf (by kernel_rfl) fun cx I s w vs hG hw hargs => ?_
  have hT : ∀ i : Nat,i < 20 → w.cell? ⟨2,i,none⟩ = some (.int .u64 ((10 ^ i : Nat) : Int)) := fun i hi => hw.ground hG _ _ _ (Tables.pow10 i hi)
  match vs,hargs with
  | [va,v1,v2],hargs =>
  simp only [z0v] at hargs
  obtain ⟨ha,h1,h2,_⟩ := hargs
  simp only [repV] at h1 h2
  subst h1; subst h2
  obtain ⟨hs0,base,n,c,rfl⟩ := (show s 0 = some va ∧ ∃ base n c,va = .slice base n c by simpa only [repV] using ha)
  have hnd20 : Lib.nDigits u ≤ 20 := by
    rcases Nat.eq_zero_or_pos u with h | h
    · rw [Lib.nDigits_small (by omega)]; omega
    · have := Lib.numDigits_eq u h hu64; split at this <;> omega
  have mixed : Tryz.prog.follows .mixedOrders = true := by kernel_rfl
  have t180 := Tryz.underlying167; have t3 := Tryz.underlying3; have t24 := Tryz.underlying116; have t5 := Tryz.underlying5; have t9 := Tryz.underlying9; have t270 := Tryz.underlying220; have t4 := Tryz.underlying4
  have z270 := Tryz.sizeOf220; have v270 := Tryz.zeroValue220; have a270 := Tryz.isAgg220
  by_cases hu : u < 100
  · obtain ⟨y,w',hrun,hres⟩ := zeH (P := Tryz.prog) hw (fun _ _ q => q) (nid := 1) (by rw [z2B]; rfl) (u := 9) (d := .string) Tryz.underlying9 (fun k q => by cases q) (zAY a2 (Lib.decDigits u)) (by
      intro q hq
      simp only [List.mem_singleton] at hq
      subst hq
      unfold fits
      rw [bytesOf_length,Lib.decDigits_length]
      omega) ha (vx := .string ⟨(Lib.decDigits u).toArray⟩) (by simp only [repV]) 116
    have hlt : (u : Int) < 100 := by omega
    go_enter Tryz.func173,Tryz.ntmps173
    go_wp2_with (first
      | (go_at_call 207; refine (Tryz.internal_strconv_small u hu _).mono ?_; first | rintro e w1 rfl rfl | rintro e w1 ⟨rfl,rfl⟩)
      | (at_builtin; refine Lib.wpList_append_run _ rfl _ _ _ _ rfl _ _ rfl rfl _ _ hrun ?_))
    go_ret
    obtain ⟨I',s',g1,g2,g3,g4⟩ := hres
    rw [zAg] at g3
    exact ⟨I',s',g1,g2,g3,g4⟩
  · have hu1 : 1 ≤ u := by omega
    have hal : Tryz.prog.arrayLen 220 = 24 := by simp [Program.arrayLen,Tryz.underlying220]
    have hsl : ∀ W,(Instr.sliceAt 220 (.pointer (some ⟨w.heap.size,0,none⟩)) none (some (.int .i64 (Lib.nDigits u : Int))) none).run Tryz.prog W = .ok (.slice (some ⟨w.heap.size,0,none⟩) (Lib.nDigits u) 24) W := fun W => by
      rw [run_sliceAt_array_h W 220 ⟨w.heap.size,0,none⟩ (by simp [Program.arrayLen,Program.elem,Tryz.underlying220]) .i64 (Lib.nDigits u : Int) (by omega) (by rw [hal]; omega)]
      go_simp
    have hH0 := Lib.holds_zero0 w 220 (Lib.nDigits u) (by omega)
    have hfmt := Tryz.internal_strconv_formatBase10 w.heap.size 0 24 u (Array.replicate (Lib.nDigits u) 0) (w.alloc (.cells Lib.zeros24 220)) hH0 (by rw [Array.size_replicate]; exact Lib.lt_pow_nDigits u) hu64 (by rw [Array.size_replicate]; omega)
    rw [Array.size_replicate] at hfmt
    have HH0 := Lib.hid hH0
    have iu : (100 : Int) ≤ (u : Int) := by omega
    have hTa : ∀ i : Nat,i < 20 → (w.alloc (.cells Lib.zeros24 220)).cell? ⟨2,i,none⟩ = some (.int .u64 ((10 ^ i : Nat) : Int)) := fun i hi => by
      have h3 : (2 : Nat) < w.heap.size := hw.zmC (hw.le _ _ _ (hG _ _ _ (Tables.pow10 i hi)))
      rw [World.cell?_alloc_past _ 2 i h3]; exact hT i hi
    clear hH0 hal
    go_enter Tryz.func173,Tryz.ntmps173
    go_wp2_with (first
      | (go_at_call 208; refine (numDigits u hu1 hu64 _ hTa).mono ?_; first | rintro e w' rfl rfl | rintro e w' ⟨rfl,rfl⟩))
    go_at_call 209
    refine hfmt.mono ?_
    rintro e w' ⟨rfl,k,v',dk,rfl,hF⟩
    have hcells : ∀ j x,(Lib.byteCells (Lib.decDigits u))[j]? = some x → ((putRow (fun (b : UInt8) => Value.int .u8 (b.toNat : Int)) (w.alloc (.cells Lib.zeros24 220)) w.heap.size 0 dk).drewN k).cell? ⟨w.heap.size,j,none⟩ = some x := by
      intro j u' hj
      have hjl : j < (Lib.decDigits u).length := by
        have h5 := (List.getElem?_eq_some_iff.1 hj).1
        rwa [Lib.byteCells_length] at h5
      have e5 : (Lib.byteCells (Lib.decDigits u))[j]? = some (Value.int .u8 ((Lib.decDigits u)[j].toNat : Int)) := by simp [Lib.byteCells,hjl]
      rw [e5] at hj
      cases hj
      rw [Lib.row_is_numeral hF j hjl,World.cell?_drewN]
      have := cell?_putRow (fun (b : UInt8) => Value.int .u8 (b.toNat : Int)) _ w.heap.size 0 _ dk HH0.out (by rw [hF.size,Array.size_replicate]) j (by rw [hF.size]; rw [Lib.decDigits_length] at hjl; exact hjl)
      rwa [Nat.zero_add] at this
    obtain ⟨os,eo⟩ := Lib.fin_at w (.cells Lib.zeros24 220) dk k 0
    have hnx2 : Below w.heap.size w ((putRow (fun (b : UInt8) => Value.int .u8 (b.toNat : Int)) (w.alloc (.cells Lib.zeros24 220)) w.heap.size 0 dk).drewN k) := by rw [eo]; exact Lib.below_grow _ w (Nat.le_refl _) k os
    generalize (putRow (fun (b : UInt8) => Value.int .u8 (b.toNat : Int)) (w.alloc (.cells Lib.zeros24 220)) w.heap.size 0 dk).drewN k = W2 at hcells hnx2 ⊢
    clear eo HH0 hfmt
    have hdl := Lib.decDigits_length u
    have hpos := Lib.nDigits_pos u
    obtain ⟨arr,e,fr,hg⟩ : ∃ arr e fr,W2.heap[w.heap.size]? = some (.cells arr e fr) := by
      have h0 := hcells 0 _ (List.getElem?_eq_getElem (by rw [Lib.byteCells_length]; omega))
      simp only [World.cell?] at h0
      split at h0
      · rename_i c' e' f' hb'; exact ⟨_,_,_,hb'⟩
      · cases h0
    obtain ⟨hw2,hle⟩ := hw.learn ⟨hnx2.os,hnx2.tape,hnx2.output,hnx2.size,hnx2.block⟩ (id := 1) (b := w.heap.size) (by rw [z2B]; rfl) (Nat.le_refl _) hg
    have hrep : repV (z1k I w.heap.size arr.toList) s (.lst (.int .u8) (bytesOf (Lib.decDigits u)) 0) (.slice (some ⟨w.heap.size,0,none⟩) (Lib.nDigits u) 24) := by
      have hbl : List.length (α := El (.int .u8)) (bytesOf (Lib.decDigits u)) = Lib.nDigits u := by show (bytesOf (Lib.decDigits u)).length = _; rw [bytesOf_length,hdl]
      simp only [repV,repD]
      refine ⟨⟨some ⟨w.heap.size,0,none⟩,24,by rw [hbl],by rw [hbl]; omega,.inr ⟨w.heap.size,0,rfl,z3O _ _ 0 (zlM _) (fun j v hj => ?_)⟩⟩,by unfold flag; trivial⟩
      have := hcells j v (by simpa only [Lib.byteCells] using hj)
      simp only [World.cell?,hg] at this
      simp only [z1k,if_true,Nat.zero_add]
      simpa using this
    obtain ⟨y,w',hrun,hres⟩ := zeH (P := Tryz.prog) hw2 (fun _ _ q => q) (nid := 1) (by rw [z2B]; rfl) (u := 116) (d := .slice 5) Tryz.underlying116 (fun k q => by cases q) (zAM a2 (bytesOf (Lib.decDigits u))) (by
      intro q hq
      simp only [List.mem_singleton] at hq
      subst hq
      unfold fits
      rw [bytesOf_length,Lib.decDigits_length]
      omega) (z4o hle (Hand.le_refl _) _ _ ha) hrep 116
    go_wp2_with (at_builtin; refine Lib.wpList_append_run _ rfl _ _ _ _ rfl _ _ rfl rfl _ _ hrun ?_)
    go_ret
    obtain ⟨I',s',g1,g2,g3,g4⟩ := hres
    rw [zAg] at g3
    exact ⟨I',s',Facts.le_trans hle g1,g2,g3,g4⟩
end Go.Proofs.YtchpeafokjmmeaaGreatDoorQ
set_option maxHeartbeats 6400000
set_option maxRecDepth 100000
namespace Go.Proofs.YtchpeafokjmmeaaGreatDoorQ
open Go Go.RowKit Go.PE Go.Sort
def row8 (b : UInt8) : Value := .int .u8 (b.toNat : Int)
theorem zrf (n : Int) (h0 : -9223372036854775808 ≤ n) (h1 : n ≤ 9223372036854775807) (w : World) (h3 : 2 < w.heap.size) (hT : ∀ i : Nat,i < 20 → w.cell? ⟨2,i,none⟩ = some (.int .u64 ((10 ^ i : Nat) : Int))) :
    Calls Tryz.prog 243 #[.int .i64 n,.int .i64 10] w fun e w' => e = .returned (.string ⟨(Lib.itoa n).toArray⟩) ∧ ∃ k os,w' = grow (w.drewN k) os := by
  have mixed : Tryz.prog.follows .mixedOrders = true := by kernel_rfl
  have t180 := Tryz.underlying167; have t2 := Tryz.underlying2; have t3 := Tryz.underlying3; have t24 := Tryz.underlying116; have t5 := Tryz.underlying5; have t9 := Tryz.underlying9; have t270 := Tryz.underlying220; have t4 := Tryz.underlying4
  have z270 := Tryz.sizeOf220; have v270 := Tryz.zeroValue220; have a270 := Tryz.isAgg220; have z5 := Tryz.sizeOf5; have a5 := Tryz.isAgg5
  have hal : Tryz.prog.arrayLen 220 = 24 := by simp [Program.arrayLen,Tryz.underlying220]
  by_cases hs : 0 ≤ n ∧ n < 100
  · obtain ⟨i,rfl⟩ : ∃ i : Nat,n = i := ⟨n.toNat,by omega⟩
    have hi : i < 100 := by omega
    go_enter Tryz.func243,Tryz.ntmps243
    go_wp2_with (go_at_call 207; refine (Tryz.internal_strconv_small i hi _).mono ?_; rintro e w' ⟨rfl,rfl⟩)
    go_ret
    refine ⟨?_,0,#[],by simp [World.drewN_zero]⟩
    rw [Lib.itoa_nonneg]
    rfl
  obtain ⟨u,hu1,hu64,hu⟩ : ∃ u : Nat,1 ≤ u ∧ u < 18446744073709551616 ∧ (n = (u : Int) ∨ n = -(u : Int)) := ⟨n.natAbs,by omega,by omega,by omega⟩
  have hnd20 : Lib.nDigits u ≤ 20 := by have := Lib.numDigits_eq u hu1 hu64; split at this <;> omega
  have hb3 : Lib.nDigits u ≤ 23 := by omega
  have hsl1 : ∀ W,(Instr.sliceAt 220 (.pointer (some ⟨w.heap.size,0,none⟩)) (some (.int .i64 1)) (some (.int .i64 (1 + (Lib.nDigits u : Int)))) none).run Tryz.prog W = .ok (.slice (some ⟨w.heap.size,1,none⟩) (Lib.nDigits u) 23) W := fun W => by
    rw [run_sliceAt_array_lh W 220 ⟨w.heap.size,0,none⟩ (by simp [Program.arrayLen,Program.elem,Tryz.underlying220]) .i64 .i64 1 (1 + (Lib.nDigits u : Int)) (by omega) (by omega) (by rw [hal]; omega)]
    go_simp
    omega
  have hH0 := Lib.holds_zero w 220 (Lib.nDigits u) (by omega)
  have hfmt := Tryz.internal_strconv_formatBase10 w.heap.size 1 23 u (Array.replicate (Lib.nDigits u) 0) (w.alloc (.cells Lib.zeros24 220)) hH0 (by rw [Array.size_replicate]; exact Lib.lt_pow_nDigits u) hu64 (by rw [Array.size_replicate]; omega)
  rw [Array.size_replicate] at hfmt
  have HH0 := Lib.hid hH0
  have hTa : ∀ i : Nat,i < 20 → (w.alloc (.cells Lib.zeros24 220)).cell? ⟨2,i,none⟩ = some (.int .u64 ((10 ^ i : Nat) : Int)) := fun i hi => by
    rw [World.cell?_alloc_past _ 2 i h3]; exact hT i hi
  by_cases hneg : n < 0
  · obtain rfl : n = -(u : Int) := by omega
    have hwr : IntKind.u64.wrap (-IntKind.u64.wrap (-(u : Int))) = (u : Int) := by rw [IntKind.wrap_u64,IntKind.wrap_u64]; omega
    have hsl2 : ∀ W,(Instr.sliceAt 220 (.pointer (some ⟨w.heap.size,0,none⟩)) none (some (.int .i64 (1 + (Lib.nDigits u : Int)))) none).run Tryz.prog W = .ok (.slice (some ⟨w.heap.size,0,none⟩) (1 + Lib.nDigits u) 24) W := fun W => by
      rw [run_sliceAt_array_h W 220 ⟨w.heap.size,0,none⟩ (by simp [Program.arrayLen,Program.elem,Tryz.underlying220]) .i64 (1 + (Lib.nDigits u : Int)) (by omega) (by rw [hal]; omega)]
      go_simp
      omega
    clear hH0 hal hu
    go_enter Tryz.func243,Tryz.ntmps243
    go_wp2_with (first
      | (go_at_call 208; refine (numDigits u hu1 hu64 _ hTa).mono ?_; first | rintro e w' rfl rfl | rintro e w' ⟨rfl,rfl⟩))
    go_at_call 209
    refine hfmt.mono ?_
    rintro e w' ⟨rfl,k,v',dk,rfl,hF⟩
    generalize hW2 : (putRow (fun (b : UInt8) => Value.int .u8 (b.toNat : Int)) (w.alloc (.cells Lib.zeros24 220)) w.heap.size 1 dk).drewN k = W2
    have hc0 : W2.cell? ⟨w.heap.size,0,none⟩ = some (.int .u8 0) := by
      rw [← hW2,World.cell?_drewN,cell?_putRow_other _ _ _ _ _ _ (Or.inr (Or.inl (Nat.zero_lt_one))),World.cell?_alloc_new]
      exact Lib.zeros24_at 0 (by omega)
    have hf0 : W2.frozen? ⟨w.heap.size,0,none⟩ = false := by
      rw [← hW2,World.frozen?_drewN,frozen?_putRow]
      exact World.frozen?_alloc_new _ _ _ _
    have hcell : ∀ (j : Nat) (hj : j < (Lib.decDigits u).length),W2.cell? ⟨w.heap.size,1 + j,none⟩ = some (.int .u8 ((Lib.decDigits u)[j].toNat : Int)) := fun j hj => by
      rw [← hW2,Lib.row_is_numeral hF j hj,World.cell?_drewN]
      exact cell?_putRow (fun (b : UInt8) => Value.int .u8 (b.toNat : Int)) _ w.heap.size 1 _ dk HH0.out (by rw [hF.size,Array.size_replicate]) j (by rw [hF.size]; rw [Lib.decDigits_length] at hj; exact hj)
    have hcv : (convert 116 9 (.slice (some ⟨w.heap.size,0,none⟩) (1 + Lib.nDigits u) 24)).run Tryz.prog (W2.setCell ⟨w.heap.size,0,none⟩ (.int .u8 45)) = .ok (.string ⟨(45 :: Lib.decDigits u).toArray⟩) (W2.setCell ⟨w.heap.size,0,none⟩ (.int .u8 45)) := by
      have h := run_convert_bytes_back (P := Tryz.prog) (W2.setCell ⟨w.heap.size,0,none⟩ (.int .u8 45)) 116 9 5 ⟨w.heap.size,0,none⟩ 24 (45 :: Lib.decDigits u) t24 t5 t9 (fun j hj => by
        rw [Lib.add_plain]
        cases j with
        | zero => exact World.cell?_setCell_same _ _ _ hc0
        | succ i =>
          rw [World.cell?_setCell_other _ _ _ _ (by simp),List.getElem_cons_succ,show 0 + (i + 1) = 1 + i by omega]
          exact hcell i (by simpa using hj))
      rw [List.length_cons,Lib.decDigits_length,Nat.add_comm] at h
      exact h
    obtain ⟨os,eo⟩ := Lib.fin_neg w (.cells Lib.zeros24 220) dk k (.int .u8 45)
    rw [hW2] at eo
    rw [eo] at hcv
    go_wp2
    go_ret
    refine ⟨?_,k,os,rfl⟩
    rw [Lib.itoa_neg u hu1]
    rfl
  · obtain rfl : n = (u : Int) := by omega
    clear hH0 hal hu
    go_enter Tryz.func243,Tryz.ntmps243
    go_wp2_with (first
      | (go_at_call 208; refine (numDigits u hu1 hu64 _ hTa).mono ?_; first | rintro e w' rfl rfl | rintro e w' ⟨rfl,rfl⟩))
    go_at_call 209
    refine hfmt.mono ?_
    rintro e w' ⟨rfl,k,v',dk,rfl,hF⟩
    obtain ⟨os,eo⟩ := Lib.fin_pos w (.cells Lib.zeros24 220) dk k
    generalize hW2 : (putRow (fun (b : UInt8) => Value.int .u8 (b.toNat : Int)) (w.alloc (.cells Lib.zeros24 220)) w.heap.size 1 dk).drewN k = W2 at eo
    have hcell : ∀ (j : Nat) (hj : j < (Lib.decDigits u).length),W2.cell? ⟨w.heap.size,1 + j,none⟩ = some (.int .u8 ((Lib.decDigits u)[j].toNat : Int)) := fun j hj => by
      rw [← hW2,Lib.row_is_numeral hF j hj,World.cell?_drewN]
      exact cell?_putRow (fun (b : UInt8) => Value.int .u8 (b.toNat : Int)) _ w.heap.size 1 _ dk HH0.out (by rw [hF.size,Array.size_replicate]) j (by rw [hF.size]; rw [Lib.decDigits_length] at hj; exact hj)
    have hcv : (convert 116 9 (.slice (some ⟨w.heap.size,1,none⟩) (Lib.nDigits u) 23)).run Tryz.prog W2 = .ok (.string ⟨(Lib.decDigits u).toArray⟩) W2 := by
      have h := run_convert_bytes_back (P := Tryz.prog) W2 116 9 5 ⟨w.heap.size,1,none⟩ 23 (Lib.decDigits u) t24 t5 t9 (fun j hj => by
        rw [Lib.add_plain]; exact hcell j hj)
      rw [Lib.decDigits_length] at h
      exact h
    subst eo
    go_wp2
    go_ret
    refine ⟨?_,k,os,rfl⟩
    rw [Lib.itoa_nonneg]
    rfl
theorem zxD (n : Int) (h0 : -9223372036854775808 ≤ n) (h1 : n ≤ 9223372036854775807) (w : World) (h3 : 2 < w.heap.size) (hT : ∀ i : Nat,i < 20 → w.cell? ⟨2,i,none⟩ = some (.int .u64 ((10 ^ i : Nat) : Int))) :
    Calls Tryz.prog 205 #[.int .i64 n] w fun e w' => e = .returned (.string ⟨(Lib.itoa n).toArray⟩) ∧ ∃ k os,w' = grow (w.drewN k) os := by
  have mixed : Tryz.prog.follows .mixedOrders = true := by kernel_rfl
  have t3 := Tryz.underlying3; have t9 := Tryz.underlying9
  go_enter Tryz.func205,Tryz.ntmps205
  go_wp2_with (go_at_call 243; refine (zrf n h0 h1 _ h3 hT).mono ?_; rintro e w' ⟨rfl,k,os,rfl⟩)
  go_ret
  exact ⟨rfl,k,os,rfl⟩
variable [PE.Ground]
theorem zyD [Tables] (n : Int) (h0 : -9223372036854775808 ≤ n) (h1 : n ≤ 9223372036854775807) (hf : Tryz.prog.funcs[205]? = some Tryz.f205) : PE.Spec Tryz.prog 205 [.int .i64 n] [] (.str (Lib.itoa n)) [] [] := by
  refine zcA (vs := [.int .i64 n]) (v := .string ⟨(Lib.itoa n).toArray⟩) hf (by kernel_rfl) (fun I s xs h => ?_) (fun I s => by simp only [repV]) fun w hG => ?_
  · match xs,h with
    | [x],h =>
      simp only [z0v,repV] at h
      rw [h.1]
  · have hT : ∀ i : Nat,i < 20 → w.cell? ⟨2,i,none⟩ = some (.int .u64 ((10 ^ i : Nat) : Int)) := fun i hi => hG 2 i _ (Tables.pow10 i hi)
    have h3 : 2 < w.heap.size := by
      have := hT 0 (by omega)
      simp only [World.cell?] at this
      split at this
      · rename_i e; exact (Array.getElem?_eq_some_iff.1 e).1
      · cases this
    exact (zxD n h0 h1 w h3 hT).mono fun e w' ⟨q,k,os,e'⟩ => ⟨q,by
      subst e'
      exact ⟨rfl,rfl,rfl,by simp [grow,World.drewN],fun b hb => by simp [grow,World.drewN,Array.getElem?_append,hb]⟩⟩
end Go.Proofs.YtchpeafokjmmeaaGreatDoorQ
set_option maxRecDepth 100000
namespace Go.Proofs.YtchpeafokjmmeaaGreatDoorQ
open Go Go.RowKit Go.PE
variable [PE.Ground]
theorem zxr {I : Facts} {s : Hand} {a b : V} {xs : List Value} {va vb : Value} (h : z0v I s [a,b] xs) (ha : ∀ v,repV I s a v → v = va) (hb : ∀ v,repV I s b v → v = vb) : xs = [va,vb] := by
  match xs,h with
  | [x,y],h =>
    simp only [z0v] at h
    rw [ha x h.1,hb y h.2.1]
theorem zx1 (a0 : List UInt8) (a1 : Int) (h0 : 0 ≤ a1) (h1 : a0.length * a1.toNat ≤ 140737488355328) (h2 : a1 ≤ 9223372036854775807) (hf : Tryz.prog.funcs[137]? = some Tryz.f137) :
    PE.Spec Tryz.prog 137 [.str a0,.int .i64 a1] [] (.str (Lib.repeatL a0 a1.toNat)) [] [] := by
  have e : ((a1.toNat : Nat) : Int) = a1 := by omega
  refine zcA (vs := [.string ⟨a0.toArray⟩,.int .i64 a1]) (v := .string ⟨(Lib.repeatL a0 a1.toNat).toArray⟩) hf (by kernel_rfl) (fun I s xs h => zxr h (fun v q => by simpa only [repV] using q) (fun v q => by simpa only [repV] using q)) (fun I s => by simp only [repV]) fun w _ => ?_
  have := Tryz.strings_Repeat ⟨a0.toArray⟩ a1.toNat w (by omega) (by simpa [ByteArray.size] using h1)
  rw [e] at this
  exact this.mono fun e w' ⟨q,k⟩ => ⟨q,k.os,k.tape,k.output,k.size,k.block⟩
theorem zzi (a0 : List UInt8) (a1 : Int) (h0 : a0.length ≤ 1000000000) (hf : Tryz.prog.funcs[104]? = some Tryz.f104) :
    PE.Spec Tryz.prog 104 [.str a0,.int .i64 a1] [] (.str (zc5 a0 a1)) [] [] := by
  refine zcA (vs := [.string ⟨a0.toArray⟩,.int .i64 a1]) (v := .string ⟨(zc5 a0 a1).toArray⟩) hf (by kernel_rfl) (fun I s xs h => zxr h (fun v q => by simpa only [repV] using q) (fun v q => by simpa only [repV] using q)) (fun I s => by simp only [repV]) fun w _ => ?_
  exact (zy7 a0 a1 h0 w).mono fun e w' ⟨q,k⟩ => ⟨q,k.os,k.tape,k.output,k.size,k.block⟩
theorem zDQ [Tables] (hf : Tryz.prog.funcs[247]? = some Tryz.f247) : PE.Spec Tryz.prog 247 [.int .u64 16] [] (.int .i64 4) [] [] := by
  refine zcA (vs := [.int .u64 16]) (v := .int .i64 4) hf (by kernel_rfl) (fun I s xs h => ?_) (fun I s => by simp only [repV]) fun w hG => ?_
  · match xs,h with
    | [x],h =>
      simp only [z0v,repV] at h
      rw [h.1]
  · exact (zxZ w (hG 5 15 _ Tables.ctz16)).mono fun e w' ⟨q,k⟩ => ⟨q,by subst k; exact ⟨rfl,rfl,rfl,Nat.le_refl _,fun _ _ => rfl⟩⟩
end Go.Proofs.YtchpeafokjmmeaaGreatDoorQ
set_option maxHeartbeats 4000000
set_option maxRecDepth 100000
namespace Go.Proofs.YtchpeafokjmmeaaGreatDoorQ
open Go Go.RowKit Go.PE
theorem znn {P : Program} {t kt et : TypeId} (ht : P.underlying t = some (.map kt et)) (hu : P.underlying kt = some (.int .i64)) {w : World} {b clock : Nat} {es : Array MapEntry} (hb : w.heap[b]? = some (.map es clock)) (k : Int) (v : Value)
    (hf : Instr.findNow (.int .i64) (.int .i64 k) es.toList 0 = some none) : (Instr.mapUpdate t (.map (some b)) (.int .i64 k) v).run P w = .ok () { w with heap := w.heap.setIfInBounds b (.map (es.push { key := .int .i64 k,val := v,born := clock }) (clock + 1)) } := by
  have hck := MapKept.run_checkKey (P := P) (w := w) hu (k := .int .i64 k) (by simp [MapKept.IsKey]) false 9999
  simp only [Instr.mapUpdate,Sem.run_bind,run_underlying ht,Result.andThen_ok,MapKept.run_getObj_map hb,hck,MapKept.run_findKey (w := w) hu hf,MapKept.run_setObj_map _ hb]
theorem zxW {P : Program} {t kt et : TypeId} (ht : P.underlying t = some (.map kt et)) (hu : P.underlying kt = some (.int .i64)) {w : World} {b clock : Nat} {es : Array MapEntry} (hb : w.heap[b]? = some (.map es clock)) (k : Int) {j : Nat} {v : Value}
    (hf : Instr.findNow (.int .i64) (.int .i64 k) es.toList 0 = some (some (j,v))) : (Instr.lookup t (.map (some b)) (.int .i64 k) true).run P w = .ok (.tuple #[v,.bool true]) w := by
  have hck := MapKept.run_checkKey (P := P) (w := w) hu (k := .int .i64 k) (by simp [MapKept.IsKey]) es.isEmpty 9999
  simp only [Instr.lookup,Sem.run_bind,run_underlying ht,Result.andThen_ok,MapKept.run_getObj_map hb,Sem.run_pure,hck,MapKept.run_findKey (w := w) hu hf,if_true]
def way (a b : Nat) : Value := .agg #[.func (.func a) #[] #[],.func (.func b) #[] #[]]
def way0 : Array MapEntry := #[]
def way1 : Array MapEntry := way0.push { key := .int .i64 1,val := way 29 198,born := 0 }
def way2 : Array MapEntry := way1.push { key := .int .i64 2,val := way 199 200,born := 1 }
def way3 : Array MapEntry := way2.push { key := .int .i64 3,val := way 201 202,born := 2 }
theorem zxR (w : World) : Calls Tryz.prog 166 #[] w fun e w' => e = .returned (.map (some w.heap.size)) ∧ Below w.heap.size w w' ∧ w'.heap[w.heap.size]? = some (.map way3 3) := by
  have mixed : Tryz.prog.follows .mixedOrders = true := by kernel_rfl
  have u1 := run_underlying Tryz.underlying36; have u2 := run_underlying Tryz.underlying191; have u3 := run_underlying Tryz.underlying189; have u4 := run_underlying Tryz.underlying3; have u5 := run_underlying Tryz.underlying68
  have z29 := Tryz.sizeOf36; have z152 := Tryz.sizeOf189; have a29 := Tryz.isAgg36; have a152 := Tryz.isAgg189; have v152 := Tryz.zeroValue189; have z150 := Tryz.sizeOf68; have a150 := Tryz.isAgg68
  obtain ⟨W0,hW0⟩ : ∃ W0,W0 = w.alloc (.map way0 0) := ⟨_,rfl⟩
  have m0 : (Instr.makeMap 191 none).run Tryz.prog w = .ok (.map (some w.heap.size)) W0 := by rw [hW0]; rfl
  have g0 : W0.heap[w.heap.size]? = some (.map way0 0) := by rw [hW0]; exact Array.getElem?_push_size
  have b0 : But (some w.heap.size) w W0 := by rw [hW0]; exact z7D w _
  have m1 := znn Tryz.underlying191 Tryz.underlying3 g0 1 (way 29 198) (by rfl)
  obtain ⟨W1,hW1⟩ : ∃ W1,W1 = ({ W0 with heap := W0.heap.setIfInBounds w.heap.size (.map way1 1) } : World) := ⟨_,rfl⟩
  rw [show W0.heap.setIfInBounds w.heap.size (.map (way0.push { key := .int .i64 1,val := way 29 198,born := 0 }) (0 + 1)) = W0.heap.setIfInBounds w.heap.size (.map way1 1) from rfl,← hW1] at m1
  have g1 : W1.heap[w.heap.size]? = some (.map way1 1) := by rw [hW1]; exact zeX _ g0
  have m2 := znn Tryz.underlying191 Tryz.underlying3 g1 2 (way 199 200) (by rfl)
  obtain ⟨W2,hW2⟩ : ∃ W2,W2 = ({ W1 with heap := W1.heap.setIfInBounds w.heap.size (.map way2 2) } : World) := ⟨_,rfl⟩
  rw [show W1.heap.setIfInBounds w.heap.size (.map (way1.push { key := .int .i64 2,val := way 199 200,born := 1 }) (1 + 1)) = W1.heap.setIfInBounds w.heap.size (.map way2 2) from rfl,← hW2] at m2
  have g2 : W2.heap[w.heap.size]? = some (.map way2 2) := by rw [hW2]; exact zeX _ g1
  have m3 := znn Tryz.underlying191 Tryz.underlying3 g2 3 (way 201 202) (by rfl)
  obtain ⟨W3,hW3⟩ : ∃ W3,W3 = ({ W2 with heap := W2.heap.setIfInBounds w.heap.size (.map way3 3) } : World) := ⟨_,rfl⟩
  rw [show W2.heap.setIfInBounds w.heap.size (.map (way2.push { key := .int .i64 3,val := way 201 202,born := 2 }) (2 + 1)) = W2.heap.setIfInBounds w.heap.size (.map way3 3) from rfl,← hW3] at m3
  have g3 : W3.heap[w.heap.size]? = some (.map way3 3) := by rw [hW3]; exact zeX _ g2
  have hsz : w.heap.size ≤ W0.heap.size := b0.size
  have fin : Below w.heap.size w W3 := by
    refine ⟨?_,?_,?_,?_,fun k hk => ?_⟩
    · rw [hW3,hW2,hW1,hW0]; rfl
    · rw [hW3,hW2,hW1,hW0]; rfl
    · rw [hW3,hW2,hW1,hW0]; rfl
    · rw [hW3,hW2,hW1]; simpa using hsz
    · rw [hW3,hW2,hW1]
      simp only [Array.getElem?_setIfInBounds]
      rw [if_neg (by omega),if_neg (by omega),if_neg (by omega)]
      exact b0.heap k (by simp; omega) hk
  simp only [way] at m1 m2 m3
  clear hW0 hW1 hW2 hW3 g0 g1 g2 b0 hsz
  go_enter Tryz.func166,Tryz.ntmps166
  go_wp2
  go_ret
  exact ⟨rfl,fin,g3⟩
theorem zs3 (cs : Array Value) (w : World) (R : Value → World → Prop) (hQ : ∀ w',Below w.heap.size w w' → Calls Tryz.prog 29 #[.agg cs] w' (EndR fun v w' => (∃ a b,v = .tuple #[a,b]) ∧ R v w')) (hcs : ∃ k b m t n i,cs = #[k,b,m,t,n,i]) :
    Calls Tryz.prog 124 #[.int .i64 1,.agg cs] w (EndR R) := by
  have mixed : Tryz.prog.follows .mixedOrders = true := by kernel_rfl
  have u1 := run_underlying Tryz.underlying36; have u2 := run_underlying Tryz.underlying191; have u3 := run_underlying Tryz.underlying189; have u4 := run_underlying Tryz.underlying3; have u5 := run_underlying Tryz.underlying68
  have z29 := Tryz.sizeOf36; have z152 := Tryz.sizeOf189; have a29 := Tryz.isAgg36; have a152 := Tryz.isAgg189; have v152 := Tryz.zeroValue189; have z150 := Tryz.sizeOf68; have a150 := Tryz.isAgg68
  go_enter Tryz.func124,Tryz.ntmps124
  go_wp2_with (go_at_call 166; refine (zxR _).mono ?_)
  first | rintro e w1 ⟨rfl,b1,g1⟩ | rintro e w1 rfl b1 g1
  have hsz : w.heap.size < w1.heap.size := by have := b1.size; simp at this; omega
  have c0 := b1.block w.heap.size (by simp)
  rw [show (w.alloc (.cells cs 36)).heap[w.heap.size]? = some (.cells cs 36 (0,0)) from Array.getElem?_push_size] at c0
  rw [World.size_alloc] at g1 b1
  have hget := zxW (w := w1) Tryz.underlying191 Tryz.underlying3 g1 1 (j := 0) (v := way 29 198) (by rfl)
  simp only [way] at hget
  have hN : (w1.alloc (.cells #[.nilFunc,.nilFunc] 189)).heap[w1.heap.size]? = some (.cells #[.nilFunc,.nilFunc] 189 (0,0)) := Array.getElem?_push_size
  have e0 : (w1.alloc (.cells #[.nilFunc,.nilFunc] 189)).cell? ⟨w1.heap.size,0,none⟩ = some .nilFunc := by rw [Lib.cell_of_heap hN]; rfl
  have e1 : (w1.alloc (.cells #[.nilFunc,.nilFunc] 189)).cell? ⟨w1.heap.size,1,none⟩ = some .nilFunc := by rw [Lib.cell_of_heap hN]; rfl
  have f0 : ∀ o,(w1.alloc (.cells #[.nilFunc,.nilFunc] 189)).frozen? ⟨w1.heap.size,o,none⟩ = false := fun o => Lib.frozen_of_heap hN o
  have hd : ∀ o,(w1.alloc (.cells #[.func (.func 29) #[] #[],.func (.func 198) #[] #[]] 189)).cell? ⟨w.heap.size,o,none⟩ = cs[o]? := fun o => by
    rw [World.cell?_alloc_past _ _ _ hsz]
    rw [Lib.cell_of_heap c0]
  have hne : ¬ w.heap.size = w1.heap.size := by omega
  clear hN
  obtain ⟨ck,cb,cm,ct,cn,ci,rfl⟩ := hcs
  have d0 := hd 0; have d1 := hd 1; have d2 := hd 2; have d3 := hd 3; have d4 := hd 4; have d5 := hd 5
  simp at d0 d1 d2 d3 d4 d5
  have bfin : Below w.heap.size w (w1.alloc (.cells #[.func (.func 29) #[] #[],.func (.func 198) #[] #[]] 189)) := (((Below.refl _ w).alloc (Nat.le_refl _) _).trans (b1.mono (by omega))).alloc (by omega) _
  go_wp2_with (go_at_call 29; refine (hQ _ bfin).mono ?_)
  intro e w2 h
  cases e with
  | returned v =>
    obtain ⟨⟨x,y,rfl⟩,h⟩ := h
    go_wp2
    go_ret2
    exact h
  | panicked c => exact h.elim
  | outgrown => exact h.elim
theorem zzZ [PE.Ground] (cs : List V) (hcs : cs.length = 6) (x y : V) (hf : Tryz.prog.funcs[124]? = some Tryz.f124) (hf2 : Tryz.prog.funcs[29]? = some Tryz.f29)
    (h : PE.Spec Tryz.prog 29 [.agg cs] [] (.tuple [x,y]) [] []) : PE.Spec Tryz.prog 124 [.int .i64 1,.agg cs] [] (.tuple [x,y]) [] [] := by
  refine zla hf (by kernel_rfl) fun cx I s w vs hG hw hargs => ?_
  match vs,hargs with
  | [v0,v1],hargs =>
  simp only [z0v,repV] at hargs
  obtain ⟨rfl,⟨arr,rfl,ha⟩,_⟩ := hargs
  have hl := z3v _ _ ha
  rw [hcs,Array.length_toList] at hl
  refine zs3 arr w _ (fun w' hb => ?_) (by
    obtain ⟨l⟩ := arr
    match l,hl with
    | [a,b,c,d,e,f],_ => exact ⟨a,b,c,d,e,f,rfl⟩)
  have hw' := hw.kept ⟨hb.os,hb.tape,hb.output,hb.size,hb.block⟩
  have hav : z0v I s [.agg cs] [.agg arr] := by simp only [z0v,repV]; exact ⟨⟨arr,rfl,ha⟩,trivial⟩
  have hrun : (callFunc 29 #[.agg arr]).run Tryz.prog w' = .ok (.enter 29 #[.agg arr]) w' := by
    have hpr : (program).run Tryz.prog w' = .ok Tryz.prog w' := rfl
    have hname : (Tryz.f29.name == "runtime.NumGoroutine") = false := by kernel_rfl
    have hnone : Tryz.f29.body.isNone = false := by kernel_rfl
    simp only [callFunc,Sem.run_bind,hpr,Result.andThen_ok,hf2,hname,hnone,Bool.false_eq_true,if_false,Sem.run_pure]
  rcases h cx I s w' [.agg arr] hG hw' hav with ⟨f',args',e1,e2⟩ | ⟨v,w2,e1,e2⟩
  · have e1 := hrun.symm.trans e1
    cases e1
    refine e2.mono fun e w2 he => ?_
    cases e with
    | returned v =>
      obtain ⟨I',s',g1,g2,g3,g4⟩ := he
      refine ⟨?_,I',s',g1,g2,g3,g4⟩
      simp only [repV] at g4
      obtain ⟨cv,rfl,g5⟩ := g4
      obtain ⟨l⟩ := cv
      match l,g5 with
      | [a,b],_ => exact ⟨a,b,rfl⟩
    | panicked c => exact he
    | outgrown => exact he
  · have e1 := hrun.symm.trans e1
    cases e1
end Go.Proofs.YtchpeafokjmmeaaGreatDoorQ
