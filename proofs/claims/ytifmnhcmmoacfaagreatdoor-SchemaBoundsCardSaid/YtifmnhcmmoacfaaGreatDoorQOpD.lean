/-
  PE, operations that read: fields, elements, loads.
-/
import Derived.Test.YtifmnhcmmoacfaaGreatDoorQOpC
set_option linter.unusedVariables false
set_option linter.unusedSectionVars false
set_option linter.unusedSimpArgs false
namespace Go.PE

/-- Cells that stand in a block from a place on. -/
def stands (w : World) (b o : Nat) (cs : List Value) : Prop := ∀ (j : Nat) (v : Value), cs[j]? = some v → w.cell? ⟨b, o + j, none⟩ = some v

theorem stands_part {w : World} {b o : Nat} {cs : List Value} (h : stands w b o cs) (k n : Nat) : stands w b (o + k) ((cs.drop k).take n) := by
  intro j v hv
  rw [List.getElem?_take] at hv
  split at hv
  · rw [List.getElem?_drop] at hv
    have := h (k + j) v hv
    rwa [← Nat.add_assoc] at this
  · cases hv

theorem stands_row {w : World} {b : Nat} {arr : Array Value} {e : TypeId} {fr : Nat × Nat} (h : w.heap[b]? = some (.cells arr e fr)) : stands w b 0 arr.toList := by
  intro j v hv
  simp only [World.cell?, h, Nat.zero_add]
  simpa using hv

theorem stands_take {w : World} {b o : Nat} {cs : List Value} (h : stands w b o cs) (n : Nat) : stands w b o (cs.take n) := by
  have := stands_part h 0 n
  simpa using this

theorem run_load_at {P : Program} {w : World} {a : Addr} {v : Value} (h : w.cell? a = some v) : (load a).run P w = .ok v w := by simp [h]

section
variable [Univ] [UnivOk] {cx : Cx} {I : Facts} {s : Hand} {hp hpr : Nat → Option C} {w : World} {P : Program}

theorem elem_cells {t : Shape} : ∀ (xs : List (El t)) (cs : List Value) (i : Nat) (x : El t), repDl I (cellsD t xs) cs → xs[i]? = some x → repDl I (toD t x) ((cs.drop (i * size t)).take (size t))
  | [], _, _, _, _, h => by simp at h
  | y :: r, cs, 0, x, h, hx => by
    simp at hx
    subst hx
    have h' : repDl I (toD t y ++ cellsD t r) cs := by simpa [cellsD] using h
    have := (repDl_split _ _ _ h').1
    rw [toD_length] at this
    simpa using this
  | y :: r, cs, i + 1, x, h, hx => by
    have h' : repDl I (toD t y ++ cellsD t r) cs := by simpa [cellsD] using h
    have h2 := (repDl_split _ _ _ h').2
    rw [toD_length] at h2
    have := elem_cells r _ i x h2 (by simpa using hx)
    rw [List.drop_drop] at this
    rwa [show (i + 1) * size t = size t + i * size t by rw [Nat.add_mul]; omega]

theorem rdE_get {t : Shape} {xs : List (El t)} {i : Int} (h : within i xs.length) : xs[i.toNat]? = some (rdE t xs i) := by
  have : i.toNat < xs.length := by have := h.1; have := h.2; omega
  simp [rdE, List.getD, this]

theorem takeN_eq {α : Type} (l : List α) (o n : Nat) : takeN l o n = (l.drop o).take n := rfl

theorem add_off (b o n : Nat) : (⟨b, o, none⟩ : Addr).add n = ⟨b, o + n, none⟩ := by
  unfold Addr.add; split <;> simp_all

/-- A variable that is loaded from cells told by symbolic values. -/
theorem loadVar_rep {t : TypeId} {cells : List V} {off : Nat} {x : V} (he : ofCells P t cells off = some x) {b o : Nat} {cs : List Value} (hs : stands w b o cs) (hr : repVs I s cells cs) :
    ∃ y, (loadVar t ⟨b, o + off, none⟩).run P w = .ok y w ∧ repV I s x y := by
  have agg : ∀ d, P.underlying t = some d → isAggD d = true → tsz P t (takeN cells off (tsize P t)).length = true → x = .agg (takeN cells off (tsize P t)) →
      ∃ y, (loadVar t ⟨b, o + off, none⟩).run P w = .ok y w ∧ repV I s x y := by
    intro d hd ha hz hx
    obtain ⟨i, hi, hsz, hc⟩ := tsz_info hz
    have hlen : ((cs.drop off).take (tsize P t)).length = i.size := by
      have h1 := repVs_length _ _ (repVs_take _ _ (tsize P t) (repVs_drop _ _ off hr))
      rw [← h1, ← takeN_eq, hsz]
    refine ⟨.agg ((cs.drop off).take (tsize P t)).toArray, ?_, ?_⟩
    · simp only [loadVar, Sem.run_bind, run_isAgg_yes hd ha, Result.andThen_ok, if_true, run_sizeOf' hi]
      rw [← hlen, run_loadCells_list w ⟨b, o + off, none⟩ ((cs.drop off).take (tsize P t)) (fun j v hv => by rw [add_off]; exact stands_part hs off _ j v hv)]
      rfl
    · rw [hx]
      simp only [repV]
      exact ⟨_, rfl, by rw [takeN_eq]; exact repVs_take _ _ _ (repVs_drop _ _ _ hr)⟩
  have one : ∀ d, P.underlying t = some d → isAggD d = false → cells[off]? = some x → ∃ y, (loadVar t ⟨b, o + off, none⟩).run P w = .ok y w ∧ repV I s x y := by
    intro d hd ha hx
    obtain ⟨y, hy, hv⟩ := repVs_get _ _ hr off x hx
    refine ⟨y, ?_, hv⟩
    simp only [loadVar, Sem.run_bind, run_isAgg_no hd ha, Result.andThen_ok, Bool.false_eq_true, if_false]
    exact run_load_at (hs off y hy)
  unfold ofCells at he
  split at he
  · cases he
  · rename_i hu
    cases hz : tsz P t (takeN cells off (tsize P t)).length with
    | false => simp [hz] at he
    | true => simp only [hz, cond_true, Option.some.injEq] at he; exact agg _ (und_some hu (by simp)) rfl hz he.symm
  · rename_i hu
    cases hz : tsz P t (takeN cells off (tsize P t)).length with
    | false => simp [hz] at he
    | true => simp only [hz, cond_true, Option.some.injEq] at he; exact agg _ (und_some hu (by simp)) rfl hz he.symm
  · rename_i h1 h2 h3
    refine one (und P t) (und_some rfl h1) ?_ he
    cases hd : und P t <;> first | rfl | exact absurd hd (h2 _) | exact absurd hd (h3 _ _)

theorem part_rep {t : TypeId} {cells : List V} {off : Nat} {x : V} (he : ofCells P t cells off = some x) {cs : Array Value} (hr : repVs I s cells cs.toList) :
    ∃ y, (part t cs off).run P w = .ok y w ∧ repV I s x y := by
  have agg : ∀ d, P.underlying t = some d → isAggD d = true → tsz P t (takeN cells off (tsize P t)).length = true → x = .agg (takeN cells off (tsize P t)) →
      ∃ y, (part t cs off).run P w = .ok y w ∧ repV I s x y := by
    intro d hd ha hz hx
    obtain ⟨i, hi, hsz, hc⟩ := tsz_info hz
    refine ⟨.agg (cs.extract off (off + i.size)), ?_, ?_⟩
    · simp only [part, Sem.run_bind, run_isAgg_yes hd ha, Result.andThen_ok, if_true, run_sizeOf' hi]; rfl
    · rw [hx]
      simp only [repV]
      refine ⟨_, rfl, ?_⟩
      have hz' : i.size = tsize P t := by simp [tsize, Program.cellsOf, hi]
      rw [takeN_eq]
      have : (cs.extract off (off + i.size)).toList = (cs.toList.drop off).take (tsize P t) := by
        rw [Array.toList_extract, hz', List.extract_eq_take_drop]; congr 1; omega
      rw [this]
      exact repVs_take _ _ _ (repVs_drop _ _ _ hr)
  have one : ∀ d, P.underlying t = some d → isAggD d = false → cells[off]? = some x → ∃ y, (part t cs off).run P w = .ok y w ∧ repV I s x y := by
    intro d hd ha hx
    obtain ⟨y, hy, hv⟩ := repVs_get _ _ hr off x hx
    exact ⟨y, run_part_one hd ha (by simpa using hy), hv⟩
  unfold ofCells at he
  split at he
  · cases he
  · rename_i hu
    cases hz : tsz P t (takeN cells off (tsize P t)).length with
    | false => simp [hz] at he
    | true => simp only [hz, cond_true, Option.some.injEq] at he; exact agg _ (und_some hu (by simp)) rfl hz he.symm
  · rename_i hu
    cases hz : tsz P t (takeN cells off (tsize P t)).length with
    | false => simp [hz] at he
    | true => simp only [hz, cond_true, Option.some.injEq] at he; exact agg _ (und_some hu (by simp)) rfl hz he.symm
  · rename_i h1 h2 h3
    refine one (und P t) (und_some rfl h1) ?_ he
    cases hd : und P t <;> first | rfl | exact absurd hd (h2 _) | exact absurd hd (h3 _ _)

theorem fieldAt_some {t : TypeId} {f o : Nat} {ft : TypeId} (h : fieldAt P t f = some (o, ft)) : ∃ fs x, P.underlying t = some (.struct fs) ∧ fs[f]? = some x ∧ x.offset = o ∧ x.type = ft := by
  unfold fieldAt at h
  split at h
  · rename_i fs hu
    split at h
    · rename_i x hx
      simp only [Option.some.injEq, Prod.mk.injEq] at h
      exact ⟨fs, x, und_some hu (by simp), hx, h.1, h.2⟩
    · cases h
  · cases h

theorem opField_sound {t : TypeId} {x : V} {f : Nat} {e : Eff} (he : opField P t x f = some e) {v : Value} (hv : repV I s x v) :
    e.upd = [] ∧ ∃ y, (Instr.field t v f).run P w = .ok y w ∧ repV I s e.v y := by
  unfold opField at he
  split at he
  · rename_i off ft cs hf
    obtain ⟨fs, g, h1, h2, h3, h4⟩ := fieldAt_some hf
    split at he
    · rename_i z hz
      simp only [ok1, Option.some.injEq] at he
      subst he
      simp only [repV] at hv
      obtain ⟨arr, rfl, hr⟩ := hv
      obtain ⟨y, hy, hr'⟩ := part_rep (P := P) (w := w) hz hr
      refine ⟨rfl, y, ?_, hr'⟩
      simp only [Instr.field, Sem.run_bind, run_underlying h1, Result.andThen_ok, h2, asAgg, Sem.run_pure, h3, h4]
      exact hy
    · cases he
  · cases he

theorem opFieldAddr_sound {t : TypeId} {x : V} {f : Nat} {e : Eff} (he : opFieldAddr P t x f = some e) {v : Value} (hv : repV I s x v) :
    e.upd = [] ∧ ∃ y, (Instr.fieldAt t v f).run P w = .ok y w ∧ repV I s e.v y := by
  unfold opFieldAddr at he
  split at he
  · rename_i off ft hf
    obtain ⟨fs, g, h1, h2, h3, h4⟩ := fieldAt_some hf
    cases hz : (Nat.beq (tsize P ft) 0 || !(tsz P ft (tsize P ft))) with
    | true => simp [hz] at he
    | false =>
      simp only [hz, cond_false] at he
      simp only [Bool.or_eq_false_iff, Bool.not_eq_false'] at hz
      obtain ⟨z1, z2⟩ := hz
      obtain ⟨i, hi, hsz, hc⟩ := tsz_info z2
      have hne : i.size ≠ 0 := by intro h0; rw [hsz] at h0; rw [h0] at z1; simp at z1
      have run : ∀ (b o : Nat), (Instr.fieldAt t (.pointer (some ⟨b, o, none⟩)) f).run P w = .ok (.pointer (some ⟨b, o + off, none⟩)) w := by
        intro b o
        simp only [Instr.fieldAt, Sem.run_bind, run_underlying h1, Result.andThen_ok, h2, Instr.sureAddr, Sem.run_pure, fieldPlace, h4, run_sizeOf' hi, hne, if_false, h3, add_off]
      split at he
      · rename_i id o
        simp only [ok1, Option.some.injEq] at he
        subst he
        simp only [repV] at hv
        obtain ⟨b, k1, rfl⟩ := hv
        exact ⟨rfl, _, run b o, by simp only [repV]; exact ⟨b, k1, rfl⟩⟩
      · rename_i id sz i' o
        simp only [ok1, Option.some.injEq] at he
        subst he
        simp only [repV] at hv
        obtain ⟨b, k1, rfl⟩ := hv
        exact ⟨rfl, _, run b _, by simp only [repV]; exact ⟨b, k1, by rw [Nat.add_assoc]⟩⟩
      · rename_i cs o
        simp only [ok1, Option.some.injEq] at he
        subst he
        simp only [repV] at hv
        obtain ⟨b, o', rfl, k1⟩ := hv
        exact ⟨rfl, _, run b _, by simp only [repV]; exact ⟨b, o', by rw [Nat.add_assoc], k1⟩⟩
      · cases he
  · cases he

theorem repAt_of_tells : ∀ (l : List V) (cs : List Value) (b o : Nat), repVs I s l cs → tells I b o cs → repAt I s b o l
  | [], [], _, _, _, _ => by simp only [repAt]
  | x :: r, v :: q, b, o, e, h => by
    simp only [repVs] at e
    simp only [repAt]
    exact ⟨⟨v, by simpa using h 0 v rfl, e.1⟩, repAt_of_tells r q b (o + 1) e.2 fun j u hj => by
      have := h (j + 1) u (by simpa using hj)
      rwa [show o + (j + 1) = o + 1 + j by omega] at this⟩
  | [], _ :: _, _, _, e, _ => by simp only [repVs] at e
  | _ :: _, [], _, _, e, _ => by simp only [repVs] at e

theorem tells_of_repAt : ∀ (l : List V) (b o : Nat), repAt I s b o l → ∃ cs, repVs I s l cs ∧ tells I b o cs
  | [], b, o, _ => ⟨[], by simp only [repVs], fun j v h => by simp at h⟩
  | x :: r, b, o, h => by
    simp only [repAt] at h
    obtain ⟨⟨v, hv, hd⟩, hr⟩ := h
    obtain ⟨cs, h1, h2⟩ := tells_of_repAt r b (o + 1) hr
    refine ⟨v :: cs, by simp only [repVs]; exact ⟨hd, h1⟩, fun j u hj => ?_⟩
    cases j with
    | zero => simp at hj; subst hj; simpa using hv
    | succ j =>
      have := h2 j u (by simpa using hj)
      rwa [show o + 1 + j = o + (j + 1) by omega] at this

theorem tells_part {b o : Nat} {cs : List Value} (h : tells I b o cs) (k n : Nat) : tells I b (o + k) ((cs.drop k).take n) := by
  intro j v hv
  rw [List.getElem?_take] at hv
  split at hv
  · rw [List.getElem?_drop] at hv
    have := h (k + j) v hv
    rwa [← Nat.add_assoc] at this
  · cases hv

theorem stands_of_tells (h : WInv cx I s hp w) {b o : Nat} {cs : List Value} (ht : tells I b o cs) : stands w b o cs := fun j v hv => h.agree _ _ _ (ht j v hv)

theorem run_indexAt_slice {t e : TypeId} {i : TypeInfo} (ht : P.underlying t = some (.slice e)) (hi : P.info? e = some i) {k : IntKind} {n : Int} {b o len cap : Nat} (h : within n len) :
    (Instr.indexAt t (.slice (some ⟨b, o, none⟩) len cap) (.int k n)).run P w = .ok (.pointer (some ⟨b, o + n.toNat * i.size, none⟩)) w := by
  simp only [Instr.indexAt, asIntOf, Sem.run_bind, Sem.run_pure, Result.andThen_ok, run_underlying ht]
  rw [if_pos h]
  simp only [Sem.run_bind, run_sizeOf' hi, Result.andThen_ok, Sem.run_pure, add_off]

theorem run_indexAt_array {t e : TypeId} {i : TypeInfo} {len : Nat} (ht : P.underlying t = some (.array len e)) (hi : P.info? e = some i) {k : IntKind} {n : Int} {b o : Nat} (h : within n len) :
    (Instr.indexAt t (.pointer (some ⟨b, o, none⟩)) (.int k n)).run P w = .ok (.pointer (some ⟨b, o + n.toNat * i.size, none⟩)) w := by
  simp only [Instr.indexAt, asIntOf, Sem.run_bind, Sem.run_pure, Result.andThen_ok, run_underlying ht, Instr.sureAddr]
  rw [if_pos h]
  simp only [Sem.run_bind, run_sizeOf' hi, Result.andThen_ok, Sem.run_pure, add_off]

theorem opIndexAddr_sound (h : WInv cx I s hp w) (hsub : ∀ id c, hpr id = some c → hp id = some c) {t : TypeId} {x j : V} {e : Eff} (he : opIndexAddr P hpr t x j = some e) (hc : ∀ p ∈ e.conds, p)
    {v u : Value} (hv : repV I s x v) (hu : repV I s j u) : e.upd = [] ∧ ∃ y, (Instr.indexAt t v u).run P w = .ok y w ∧ repV I s e.v y := by
  unfold opIndexAddr at he
  split at he
  · rename_i e' k i hd
    have ht := und_some hd (by simp)
    simp only [repV] at hu
    subst hu
    split at he
    · rename_i a xs fl
      cases hz : (tsz P e' (size a) && Nat.blt 0 (size a)) with
      | false => simp [hz] at he
      | true =>
        simp only [hz, cond_true, Option.some.injEq] at he
        subst he
        simp only [Bool.and_eq_true] at hz
        obtain ⟨inf, hi, hsz, _⟩ := tsz_info hz.1
        have hpos : 0 < size a := by simpa using hz.2
        have hw : within i xs.length := hc _ (by simp)
        simp only [repV] at hv
        obtain ⟨hv, _⟩ := hv
        simp only [repD] at hv
        obtain ⟨base, cap, rfl, _, hx⟩ := hv
        have hne : xs.length ≠ 0 := by have := hw.1; have := hw.2; omega
        rcases hx with hx | ⟨b, o, rfl, hx⟩
        · have := cellsD_length a xs
          rw [hx] at this
          rcases Nat.mul_eq_zero.1 this.symm with h1 | h1
          · exact absurd h1 hne
          · omega
        · obtain ⟨cs, h1, h2⟩ := tells_of_repDs _ _ hx
          refine ⟨rfl, _, run_indexAt_slice ht hi hw, ?_⟩
          simp only [repV]
          refine ⟨b, o + i.toNat * size a, by rw [hsz]; rfl, ?_⟩
          exact repAt_of_tells _ _ _ _ (explode_rep (elem_cells xs cs i.toNat _ h1 (rdE_get hw))) (tells_part h2 _ _)
    · rename_i id
      split at he
      · rename_i a xs fz hid
        cases hz : (tsz P e' (size a) && Nat.blt 0 (size a)) with
        | false => simp [hz] at he
        | true =>
          simp only [hz, cond_true, Option.some.injEq] at he
          subst he
          simp only [Bool.and_eq_true] at hz
          obtain ⟨inf, hi, hsz, _⟩ := tsz_info hz.1
          have hw : within i xs.length := hc _ (by simp)
          have hne : xs.length ≠ 0 := by have := hw.1; have := hw.2; omega
          simp only [repV] at hv
          have hr := h.cont id _ (hsub _ _ hid)
          simp only [repC] at hr
          obtain ⟨base, cap, k1, k2, k3⟩ := hr
          rw [k1] at hv
          have hv' := Option.some.inj hv.1
          subst hv'
          rcases k3 with rfl | ⟨b, rfl, _⟩
          · omega
          · refine ⟨rfl, _, run_indexAt_slice ht hi hw, ?_⟩
            simp only [repV]
            obtain ⟨c', rfl⟩ : ∃ c', cap = c' + 1 := ⟨cap - 1, by omega⟩
            exact ⟨b, .inr ⟨_, c', k1⟩, by rw [hsz]; simp⟩
      · cases he
    · cases he
  · rename_i n e' k i hd
    have ht := und_some hd (by simp)
    simp only [repV] at hu
    subst hu
    split at he
    · rename_i id
      split at he
      · rename_i a xs hid
        cases hz : (tsz P e' (size a) && Nat.blt 0 (size a)) with
        | false => simp [hz] at he
        | true =>
          simp only [hz, cond_true, Option.some.injEq] at he
          subst he
          simp only [Bool.and_eq_true] at hz
          obtain ⟨inf, hi, hsz, _⟩ := tsz_info hz.1
          have hw : within i xs.length := hc _ (by simp)
          have hn : xs.length = n := hc _ (by simp)
          simp only [repV] at hv
          obtain ⟨b, k1, rfl⟩ := hv
          refine ⟨rfl, _, run_indexAt_array ht hi (by rw [hn] at hw; exact hw), ?_⟩
          simp only [repV]
          exact ⟨b, .inl k1, by rw [hsz]; simp⟩
      · cases he
    · cases he
  · cases he

end
end Go.PE
