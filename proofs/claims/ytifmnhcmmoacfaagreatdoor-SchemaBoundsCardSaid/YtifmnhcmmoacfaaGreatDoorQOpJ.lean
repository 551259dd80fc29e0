/-
  PE, literals: structs, arrays, slices.
-/
import Derived.Test.YtifmnhcmmoacfaaGreatDoorQOpI
set_option linter.unusedVariables false
set_option linter.unusedSectionVars false
set_option linter.unusedSimpArgs false
namespace Go.PE
section
variable [Univ] [UnivOk] {cx : Cx} {I I' : Facts} {s : Hand} {hp hpr : Nat → Option C} {w w' : World} {P : Program}

def repPs (I : Facts) (s : Hand) : List (Nat × V) → List (Nat × Value) → Prop
  | [], [] => True
  | (i, x) :: r, (j, v) :: q => i = j ∧ repV I s x v ∧ repPs I s r q
  | _, _ => False

theorem fillS_sound {t : TypeId} {fs : Array Field} (ht : P.underlying t = some (.struct fs)) : ∀ (parts : List (Nat × V)) (vs : List (Nat × Value)) (cells cs : List V) (arr : Array Value),
    fillS P t cells parts = some cs → repPs I s parts vs → repVs I s cells arr.toList →
    ∃ arr', Instr.fill ((fs.map fun f => (f.offset, P.cellsOf f.type))[·]?) arr vs = some arr' ∧ repVs I s cs arr'.toList
  | [], [], cells, cs, arr, hf, _, hr => by
    simp only [fillS, Option.some.injEq] at hf
    subst hf
    exact ⟨arr, rfl, hr⟩
  | (i, x) :: r, (j, v) :: q, cells, cs, arr, hf, hp, hr => by
    simp only [repPs] at hp
    obtain ⟨rfl, hx, hq⟩ := hp
    simp only [fillS] at hf
    split at hf
    · rename_i off ft hfa
      cases hz : (tsz P ft (PE.cellsOf x).length && Nat.ble (off + (PE.cellsOf x).length) cells.length && solid x) with
      | false => simp [hz] at hf
      | true =>
        simp only [hz, cond_true] at hf
        simp only [Bool.and_eq_true] at hz
        obtain ⟨inf, hi, hsz, hco⟩ := tsz_info hz.1.1
        have hle := Nat.le_of_ble_eq_true hz.1.2
        obtain ⟨fs', g, h1, h2, h3, h4⟩ := fieldAt_some hfa
        rw [ht] at h1
        cases h1
        have hcs := solid_cells hx hz.2
        have hl := repVs_length _ _ hcs
        have hal := repVs_length _ _ hr
        have hlA : arr.toList.length = arr.size := Array.length_toList
        have hlV : v.cells.toList.length = v.cells.size := Array.length_toList
        rw [fill_cons (off := off) (sz := (PE.cellsOf x).length) (by simp [h2, h3, h4, hco]) (by omega) (by omega)]
        refine fillS_sound ht r q _ cs _ hf hq ?_
        simpa using repVs_put _ _ off _ _ hr hcs hle
    · cases hf
  | [], _ :: _, _, _, _, _, hp, _ => hp.elim
  | _ :: _, [], _, _, _, _, hp, _ => hp.elim

theorem run_mapM_places : ∀ (fs : List Field), fs.all (fun f => (P.info? f.type).isSome) = true →
    (fs.mapM fun f => (do pure (f.offset, ← sizeOf f.type) : Sem (Nat × Nat))).run P w = .ok (fs.map fun f => (f.offset, P.cellsOf f.type)) w
  | [], _ => rfl
  | f :: r, h => by
    simp only [List.all_cons, Bool.and_eq_true] at h
    obtain ⟨i, hi⟩ := Option.isSome_iff_exists.1 h.1
    have hc : P.cellsOf f.type = i.size := by simp [Program.cellsOf, hi]
    simp only [List.mapM_cons, Sem.run_bind, run_sizeOf' hi, Result.andThen_ok, Sem.run_pure, run_mapM_places r h.2, List.map_cons, hc]

theorem fillA_sound {a : Shape} (ha : isUser a = false) (h : WInv cx I s hp w) (hsub : ∀ id c, hpr id = some c → hp id = some c) : ∀ (parts : List (Nat × V)) (vs : List (Nat × Value)) (xs ys : List (El a)) (arr : Array Value),
    fillA hpr a xs parts = some ys → repPs I s parts vs → repDl I (cellsD a xs) arr.toList →
    ∃ arr', Instr.fill (fun i => some (i * 1, 1)) arr vs = some arr' ∧ repDl I (cellsD a ys) arr'.toList
  | [], [], xs, ys, arr, hf, _, hr => by
    simp only [fillA, Option.some.injEq] at hf
    subst hf
    exact ⟨arr, rfl, hr⟩
  | (i, x) :: r, (j, v) :: q, xs, ys, arr, hf, hp, hr => by
    simp only [repPs] at hp
    obtain ⟨rfl, hx, hq⟩ := hp
    simp only [fillA] at hf
    split at hf
    · rename_i y hy
      cases hz : Nat.blt i xs.length with
      | false => simp [hz] at hf
      | true =>
        simp only [hz, cond_true] at hf
        have hlt : i < xs.length := by simpa [Nat.blt_eq] using hz
        obtain ⟨d, hd, hrd⟩ := inLeaf_rep h hsub hy hx
        have hs1 : size a = 1 := by cases a <;> first | rfl | (simp [isUser] at ha)
        have hv1 : v.cells = #[v] := by have := repD_one hrd; cases v <;> first | rfl | (simp [Value.oneCell'] at this)
        have hlen := repDl_length _ _ hr
        rw [cellsD_length, hs1] at hlen
        have hlA : arr.toList.length = arr.size := Array.length_toList
        rw [fill_cons (off := i * 1) (sz := 1) rfl (by simp [hv1]) (by rw [hv1]; simp; omega)]
        refine fillA_sound ha h hsub r q _ ys _ hf hq ?_
        have := repDl_set xs arr.toList [v] i y hr hlt (by rw [hd]; exact ⟨hrd, trivial⟩)
        rw [hs1] at this
        simpa [hv1] using this
    · cases hf
  | [], _ :: _, _, _, _, _, hp, _ => hp.elim
  | _ :: _, [], _, _, _, _, hp, _ => hp.elim

theorem opBuild_sound (h : WInv cx I s hp w) (hsub : ∀ id c, hpr id = some c → hp id = some c) {t : TypeId} {parts : List (Nat × V)} {e : Eff} (he : opBuild P hpr t parts = some e)
    {vs : Array (Nat × Value)} (hp' : repPs I s parts vs.toList) :
    e.upd = [] ∧ ∃ y, (Instr.build t vs).run P w = .ok y w ∧ repV I s e.v y := by
  unfold opBuild at he
  split at he
  · rename_i n e' hd
    have ht := und_some hd (by simp)
    split at he
    · rename_i a ha
      cases hu : isUser a with
      | true => simp [hu] at he
      | false =>
        cases hz : (zerosOk P t a n && tsz P e' 1) with
        | false => simp [hu, hz] at he
        | true =>
          simp only [hu, hz, cond_true, cond_false] at he
          split at he
          · rename_i xs hxs
            simp only [ok1, Option.some.injEq] at he
            subst he
            simp only [Bool.and_eq_true] at hz
            obtain ⟨z1, z2⟩ := hz
            obtain ⟨ie, hie, hse, _⟩ := tsz_info z2
            unfold zerosOk at z1
            split at z1
            · rename_i i hi
              split at z1
              · rename_i cs hcs
                simp only [Bool.and_eq_true] at z1
                have hl := Nat.eq_of_beq_eq_true z1.1
                have hz0 := zeros_rep (I := I) _ z1.2
                rw [hl] at hz0
                obtain ⟨arr', g1, g2⟩ := fillA_sound hu h hsub parts vs.toList _ xs cs hxs hp' hz0
                refine ⟨rfl, .agg arr', ?_, by simp only [repV]; exact ⟨_, rfl, g2⟩⟩
                have hc : (Value.agg cs).cells = cs := rfl
                simp only [Instr.build, Sem.run_bind, run_zeroValue' hi hcs, Result.andThen_ok, run_underlying ht, run_sizeOf' hie, hse, hc, g1, Sem.run_pure]
              · cases z1
            · cases z1
          · cases he
    · cases he
  · rename_i fs hd
    have ht := und_some hd (by simp)
    cases hall : fs.toList.all (fun f => (P.info? f.type).isSome) with
    | false => simp [hall] at he
    | true =>
      simp only [hall, cond_true] at he
      split at he
      · rename_i cs hcs
        split at he
        · rename_i cs' hf
          simp only [ok1, Option.some.injEq] at he
          subst he
          unfold zeroCells at hcs
          split at hcs
          · rename_i i hi
            split at hcs
            · rename_i z hz
              simp only [Option.some.injEq] at hcs
              subst hcs
              obtain ⟨arr', g1, g2⟩ := fillS_sound ht parts vs.toList _ cs' z.cells hf hp' (constVs_rep _)
              refine ⟨rfl, .agg arr', ?_, by simp only [repV]; exact ⟨_, rfl, g2⟩⟩
              have hm : (fs.mapM fun f => (do pure (f.offset, ← sizeOf f.type) : Sem (Nat × Nat))).run P w = .ok (fs.map fun f => (f.offset, P.cellsOf f.type)) w := by
                rw [Array.mapM_eq_mapM_toList, Sem.run_map, run_mapM_places _ hall, Result.andThen_ok]
                congr 1
                apply Array.ext'
                simp
              simp only [Instr.build, Sem.run_bind, run_zeroValue' hi hz, Result.andThen_ok, run_underlying ht, hm, g1, Sem.run_pure]
            · cases hcs
          · cases hcs
        · cases he
      · cases he
  · cases he

end
end Go.PE
