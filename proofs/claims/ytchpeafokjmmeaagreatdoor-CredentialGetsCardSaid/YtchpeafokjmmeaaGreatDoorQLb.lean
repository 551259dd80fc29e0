/- slices.Insert at the beginning of a row that holds something. -/
import Derived.Test.YtchpeafokjmmeaaGreatDoorQTa
import Derived.Test.YtchpeafokjmmeaaGreatDoorQEf
import Derived.Shelf.Spec.SlicesInsert
import Derived.Lib.AppendZerosOnto
import Derived.Test.YtchpeafokjmmeaaGreatDoorProg
set_option linter.unusedVariables false
set_option linter.unusedSimpArgs false
set_option linter.unusedSectionVars false
set_option maxHeartbeats 4000000
set_option maxRecDepth 100000
namespace Go.Proofs.YtchpeafokjmmeaaGreatDoorQ
open Go Go.RowKit Go.PE
theorem zzp {P : Program} (w : World) (tS tR e : TypeId) (ht : P.underlying tS = some (.slice e)) (size : Nat) (hz : ∀ w,(Go.sizeOf e).run P w = .ok size w)
    (a b : Addr) (la ca lb cb : Nat) (hne : a.block ≠ b.block) {arrA arrB : Array Value} {eA eB : TypeId} {frA frB : Nat × Nat} (hA : w.heap[a.block]? = some (.cells arrA eA frA)) (hA0 : arrA.size ≠ 0)
    (hB : w.heap[b.block]? = some (.cells arrB eB frB)) (hB0 : arrB.size ≠ 0) (hfb : w.frozen? b = false) (hmark : ¬ (frB.1 ≤ arrB.size ∧ arrB.size < frB.2)) :
    (Extern.SlicesOverlaps.overlaps #[tS,tS] #[tR] #[.slice (some a) la ca,.slice (some b) lb cb]).run P w = .ok (.bool false) w := by
  have hnb : (a.block != b.block) = true := by simpa using hne
  have hnb' : (a.block == b.block) = false := by simpa using hne
  have sA : w.shape? a.block = some (eA,arrA.size) := by simp [World.shape?,hA]
  have sB : w.shape? b.block = some (eB,arrB.size) := by simp [World.shape?,hB]
  have fB : w.frozen? { block := b.block,off := arrB.size } = false := by simpa [World.frozen?,hB] using hmark
  change Sem.run P (α := Value) (do
    let some t := (#[tS,tS] : Array TypeId)[0]? | stuck "slices.overlaps: no parameter types"
    let .slice elem ← underlying t | stuck "slices.overlaps: slice type expected"
    let size ← sizeOf elem
    match (some a : Option Addr),(some b : Option Addr) with
    | some a,some b =>
      if la = 0 ∨ lb = 0 ∨ size = 0 then pure (Value.bool false)
      else if a.block != b.block && (← frozen a) && (← frozen b) then unsupported .addressObserved
      else do
        if a.block != b.block then do
          noView a; noView b
          if ← mayBeOne a b then return Value.bool ((← choose (.extern "sameAddr.stringBytes" 2)) == 1)
        pure (Value.bool (a.block == b.block && a.off < b.off + lb * size && b.off < a.off + la * size))
    | _,_ => pure (Value.bool false)) w = _
  obtain ⟨kA,hkA⟩ : ∃ k,arrA.size = k + 1 := ⟨arrA.size - 1,by omega⟩
  obtain ⟨kB,hkB⟩ : ∃ k,arrB.size = k + 1 := ⟨arrB.size - 1,by omega⟩
  rw [hkA] at sA
  rw [hkB] at sB fB
  by_cases h0 : la = 0 ∨ lb = 0 ∨ size = 0
  · simp [run_underlying ht,hz,h0]
  · cases hfa : w.frozen? a <;> cases hga : w.frozen? { block := a.block,off := kA + 1 } <;>
      simp [run_underlying ht,hz,h0,hnb,hnb',frozen,noView,viewAt,mayBeOne,stringish,shape,Sem.run,sA,sB,hfa,hfb,hga,fB]
end Go.Proofs.YtchpeafokjmmeaaGreatDoorQ
