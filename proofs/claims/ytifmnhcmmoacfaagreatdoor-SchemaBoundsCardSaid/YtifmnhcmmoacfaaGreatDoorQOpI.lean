/-
  PE, allocation, boxes.
-/
import Derived.Test.YtifmnhcmmoacfaaGreatDoorQOpH
set_option linter.unusedVariables false
set_option linter.unusedSectionVars false
set_option linter.unusedSimpArgs false
namespace Go.PE
section
variable [Univ] [UnivOk] {cx : Cx} {I I' : Facts} {s : Hand} {hp hpr : Nat → Option C} {w w' : World} {P : Program}

theorem run_zeroValue' {t : TypeId} {i : TypeInfo} {z : Value} (hi : P.info? t = some i) (hz : i.zero = some z) : (zeroValue t).run P w = .ok z w := by
  simp [zeroValue, run_typeInfo' hi, hz]

theorem isZ_rep {t : Shape} {v : Value} (h : isZ t v = true) : repDl I (toD t (dflt t)) [v] := by
  cases t with
  | int k =>
    cases v <;> simp only [isZ] at h <;> try (simp at h; done)
    case int k' n =>
      simp only [Bool.and_eq_true, beq_iff_eq] at h
      have := kindEq_eq h.1
      subst this
      obtain ⟨_, rfl⟩ := h
      show repDl I [.int k 0] [.int k 0]
      exact ⟨by simp only [repD], trivial⟩
  | bool =>
    cases v <;> simp only [isZ] at h <;> try (simp at h; done)
    case bool b =>
      simp at h; subst h
      show repDl I [.bool false] [.bool false]
      exact ⟨by simp only [repD], trivial⟩
  | str =>
    cases v <;> simp only [isZ] at h <;> try (simp at h; done)
    case string t =>
      obtain ⟨⟨l⟩⟩ := t
      simp at h
      subst h
      show repDl I [.str []] [.string ⟨⟨[]⟩⟩]
      exact ⟨by simp only [repD], trivial⟩
  | list u =>
    have hv : v = .slice none 0 0 := by
      unfold isZ at h
      split at h <;> first | rfl | (cases h; done) | (rename_i h1; cases h1)
    subst hv
    exact ⟨repD_nil I u, trivial⟩
  | user n => cases v <;> simp [isZ] at h

theorem zeros_rep {t : Shape} : ∀ (cs : List Value), cs.all (isZ t) = true → repDl I (cellsD t (List.replicate cs.length (dflt t))) cs
  | [], _ => by simp [cellsD, repDl]
  | v :: r, h => by
    simp only [List.all_cons, Bool.and_eq_true] at h
    have h1 := isZ_rep (I := I) h.1
    have h2 := zeros_rep r h.2
    have : cellsD t (List.replicate (v :: r).length (dflt t)) = toD t (dflt t) ++ cellsD t (List.replicate r.length (dflt t)) := by simp [cellsD, List.replicate_succ]
    rw [this]
    exact repDl_append _ _ [v] r h1 h2

theorem solid_cells {x : V} {v : Value} (hv : repV I s x v) (hs : solid x = true) : repVs I s (PE.cellsOf x) v.cells.toList := by
  cases hx : scal x with
  | true => exact cellsOf_rep hv (.inl hx) (fun _ => scal_one hv hx)
  | false => cases x <;> first
    | (simp [solid, hx] at hs; done)
    | exact cellsOf_rep hv (.inr ⟨_, rfl⟩) (fun h => by simp [scal] at h)

theorem opBox_sound (h : WInv cx I s hp w) {nid : Nat} (hn : hp nid = none) {x : V} {e : Eff} (he : opBox nid x = some e) {v : Value} (hv : repV I s x v) (t : TypeId) : ∃ y w', (Instr.box t v).run P w = .ok y w' ∧ Res cx I s hp e.upd e.v y w' := by
  have run : (Instr.box t v).run P w = .ok (.pointer (some ⟨w.heap.size, 0, none⟩)) (w.alloc (.cells v.cells t)) := rfl
  have box : ∀ cells, e = ⟨.ptr nid 0, [(nid, .box cells)], []⟩ → repVs I s cells v.cells.toList → ∃ y w', (Instr.box t v).run P w = .ok y w' ∧ Res cx I s hp e.upd e.v y w' := by
    intro cells he hr
    subst he
    exact ⟨_, _, run, h.newBox hn hr t⟩
  unfold opBox at he
  split at he
  · simp only [Option.some.injEq] at he
    subst he
    simp only [repV] at hv
    obtain ⟨cs, rfl, hr⟩ := hv
    exact ⟨_, _, run, h.newArr hn hr t⟩
  · cases hs : solid x with
    | false => simp [hs] at he
    | true =>
      simp only [hs, cond_true, Option.some.injEq] at he
      exact box _ he.symm (solid_cells hv hs)

theorem opAlloc_sound (h : WInv cx I s hp w) {nid : Nat} (hn : hp nid = none) {t : TypeId} {e : Eff} (he : opAlloc P nid t = some e) :
    ∃ y w', (Instr.alloc t true (.tuple #[])).run P w = .ok y w' ∧ Res cx I s hp e.upd e.v y w' := by
  have run : ∀ {i z}, P.info? t = some i → i.zero = some z → (Instr.alloc t true (.tuple #[])).run P w = .ok (.pointer (some ⟨w.heap.size, 0, none⟩)) (w.alloc (.cells z.cells t)) := by
    intro i z hi hz
    simp only [Instr.alloc, Sem.run_bind, run_zeroValue' hi hz, Result.andThen_ok]
    rfl
  unfold opAlloc at he
  split at he
  · rename_i n e' hd
    split at he
    · rename_i a ha
      cases hu : isUser a with
      | true => simp [hu] at he
      | false =>
        cases hz : zerosOk P t a n with
        | false => simp [hu, hz] at he
        | true =>
          simp only [hu, hz, cond_true, cond_false, Option.some.injEq] at he
          subst he
          unfold zerosOk at hz
          split at hz
          · rename_i i hi
            split at hz
            · rename_i cs hcs
              simp only [Bool.and_eq_true] at hz
              have hl := Nat.eq_of_beq_eq_true hz.1
              have := zeros_rep (I := I) _ hz.2
              rw [hl] at this
              exact ⟨_, _, run hi hcs, h.newArr hn this t⟩
            · cases hz
          · cases hz
    · cases he
  · split at he
    · rename_i cs hcs
      simp only [Option.some.injEq] at he
      subst he
      unfold zeroCells at hcs
      split at hcs
      · rename_i i hi
        split at hcs
        · rename_i z hz
          simp only [Option.some.injEq] at hcs
          subst hcs
          exact ⟨_, _, run hi hz, h.newBox hn (constVs_rep _) t⟩
        · cases hcs
      · cases hcs
    · cases he

end
end Go.PE
