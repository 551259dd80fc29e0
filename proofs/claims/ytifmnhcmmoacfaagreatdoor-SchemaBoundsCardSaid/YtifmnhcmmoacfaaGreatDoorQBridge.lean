/-
  PE, from what a function answers to what a call of it does to the world.
-/
import Derived.Test.YtifmnhcmmoacfaaGreatDoorQMain
import GoSem.ClaimChange
set_option linter.unusedVariables false
set_option linter.unusedSectionVars false
set_option linter.unusedSimpArgs false
namespace Go.PE

theorem keptBut_of_same {w w' : World} {may : MemPlace → Prop} (ho : w'.os = w.os) (hu : w'.output = w.output) (hs : ∀ b, b < w.heap.size → w'.heap[b]? = w.heap[b]?) : w.keptBut w' may := by
  refine ⟨ho, hu, fun i hi => ?_⟩
  rw [hs i hi]
  cases h : w.heap[i]? with
  | none => rfl
  | some o => cases o <;> first
    | exact ⟨rfl, rfl, rfl, fun _ _ => rfl⟩
    | exact .inr ⟨rfl, rfl⟩
    | rfl

section
variable [Univ] [UnivOk] [Ground] {P : Program}

/-- A call of a function that only reads what it is handed. -/
theorem spec_calls {f : Nat} {fn : Func} {args : List V} {vs : List Value} {res : V} (hf : P.funcs[f]? = some fn) (hn : (fn.body.isSome && !(fn.name == "runtime.NumGoroutine")) = true) (H : Spec P f args [] res [] [])
    {I : Facts} {W : World} (hG : Ground.G.le I) (hI : ∀ b o v, I b o = some v → W.cell? ⟨b, o, none⟩ = some v) (hargs : repVs I (fun _ => none) args vs) :
    Calls P f vs.toArray W fun e W' => ∃ v, e = .returned v ∧ (∃ I' s', I.le I' ∧ (∀ b o v, I' b o = some v → W'.cell? ⟨b, o, none⟩ = some v) ∧ repV I' s' res v) ∧
      W'.os = W.os ∧ W'.tape = W.tape ∧ W'.output = W.output ∧ ∀ b, b < W.heap.size → W'.heap[b]? = W.heap[b]? := by
  have hw : WInv ⟨W, I, fun _ => False⟩ I (fun _ => none) (get (entryH 0 [])) W := by
    have hnone : ∀ i, get (entryH 0 ([] : List C)) i = none := fun i => rfl
    constructor
    case agree => exact hI
    case cont => intro id c h; rw [hnone] at h; cases h
    case apart => intro i j c d b h; rw [hnone] at h; cases h
    case dom => intro i v h; cases h
    case own => intro i c b h; rw [hnone] at h; cases h
    case size => exact Nat.le_refl _
    case same => exact fun b _ _ => ⟨rfl, fun _ => rfl⟩
    case le => exact Facts.le_refl _
    case os => rfl
    case tape => rfl
    case out => rfl
  have h := H ⟨W, I, fun _ => False⟩ I (fun _ => none) W vs hG hw hargs
  simp only [Bool.and_eq_true, Bool.not_eq_true'] at hn
  obtain ⟨hb, hname⟩ := hn
  obtain ⟨c, hbody⟩ := Option.isSome_iff_exists.1 hb
  have hrun : (callFunc f vs.toArray).run P W = .ok (.enter f vs.toArray) W := by
    have hnone : fn.body.isNone = false := by rw [hbody]; rfl
    have hpr : (program).run P W = .ok P W := rfl
    simp only [callFunc, Sem.run_bind, hpr, Result.andThen_ok, hf, hname, hnone, Bool.false_eq_true, if_false, Sem.run_pure]
  rcases h with ⟨g, as, h1, h2⟩ | ⟨v, w', h1, _⟩
  · rw [hrun] at h1
    cases h1
    refine h2.mono fun e W' he => ?_
    cases e with
    | returned v =>
      obtain ⟨I', s', k1, k2, k3, k4⟩ := he
      refine ⟨v, rfl, ⟨I', s', k1, k3.agree, k4⟩, k3.os, k3.tape, k3.out, fun b hb => (k3.same b hb (fun q => q)).1⟩
    | panicked ch => exact he.elim
    | outgrown => exact he.elim
  · rw [hrun] at h1; cases h1

end
end Go.PE
