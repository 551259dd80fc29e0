/-
  PE, copy.
-/
import Derived.Test.YtifmnhcmmoacfaaGreatDoorQOpQ
set_option linter.unusedVariables false
set_option linter.unusedSectionVars false
set_option linter.unusedSimpArgs false
namespace Go.PE
section
variable [Univ] [UnivOk] {cx : Cx} {I I' : Facts} {s : Hand} {hp hpr : Nat → Option C} {w w' : World} {P : Program}

theorem cells_take {t : Shape} {ys : List (El t)} {cs : List Value} (h : repDl I (cellsD t ys) cs) (n : Nat) : repDl I (cellsD t (ys.take n)) (cs.take (n * size t)) := by
  by_cases hn : n ≤ ys.length
  · have e : cellsD t (ys.take n) ++ cellsD t (ys.drop n) = cellsD t ys := by rw [← cellsD_append, List.take_append_drop]
    rw [← e] at h
    have := (repDl_split _ _ _ h).1
    rw [cellsD_length, List.length_take, Nat.min_eq_left hn] at this
    exact this
  · have l := repDl_length _ _ h
    rw [cellsD_length] at l
    have : ys.length * size t ≤ n * size t := Nat.mul_le_mul_right _ (by omega)
    rw [List.take_of_length_le (by omega), List.take_of_length_le (by omega)]
    exact h

theorem cells_drop {t : Shape} {ys : List (El t)} {cs : List Value} (h : repDl I (cellsD t ys) cs) (n : Nat) : repDl I (cellsD t (ys.drop n)) (cs.drop (n * size t)) := by
  by_cases hn : n ≤ ys.length
  · have e : cellsD t (ys.take n) ++ cellsD t (ys.drop n) = cellsD t ys := by rw [← cellsD_append, List.take_append_drop]
    rw [← e] at h
    have := (repDl_split _ _ _ h).2
    rw [cellsD_length, List.length_take, Nat.min_eq_left hn] at this
    exact this
  · have l := repDl_length _ _ h
    rw [cellsD_length] at l
    have : ys.length * size t ≤ n * size t := Nat.mul_le_mul_right _ (by omega)
    rw [List.drop_of_length_le (by omega), List.drop_of_length_le (by omega)]
    trivial

theorem run_copy {t u e : TypeId} {i : TypeInfo} (ht : P.underlying t = some (.slice e)) (hi : P.info? e = some i) {base : Option Addr} {n cap k : Nat} {v : Value} {cs : Array Value} (hl : (Builtin.lenOf v).run P w = .ok k w)
    (hf : (Builtin.firstCells i.size (min k n) v).run P w = .ok cs w) (hst : ∀ a, base = some a → (storeCells a cs.toList).run P w = .ok () w') (hno : base = none → w' = w) (ty : TypeId) :
    (Builtin.copy_ #[t, u] ty #[.slice base n cap, v]).run P w = .ok (.int .i64 (min k n : Nat)) w' := by
  have hm : Nat.min k n = min k n := rfl
  cases base with
  | none =>
    rw [hno rfl]
    simp only [Builtin.copy_, List.getElem?_toArray, List.getElem?_cons_zero, List.getElem?_cons_succ, Sem.run_bind, run_underlying ht, Result.andThen_ok, hl, run_sizeOf' hi, hm, hf, Sem.run_pure]
    rfl
  | some a =>
    simp only [Builtin.copy_, List.getElem?_toArray, List.getElem?_cons_zero, List.getElem?_cons_succ, Sem.run_bind, run_underlying ht, Result.andThen_ok, hl, run_sizeOf' hi, hm, hf, hst a rfl, Sem.run_pure]
    rfl

theorem opCopy_sound (h : WInv cx I s hp w) (hsub : ∀ id c, hpr id = some c → hp id = some c) {t u : TypeId} {d x : V} {ef : Eff} (he : opCopy P hpr t d x = some ef) {vd vx : Value} (hd : repV I s d vd) (hx : repV I s x vx) (ty : TypeId) :
    ∃ y w', (Builtin.copy_ #[t, u] ty #[vd, vx]).run P w = .ok y w' ∧ Res cx I s hp ef.upd ef.v y w' := by
  unfold opCopy at he
  split at he
  · rename_i e hdd
    have ht := und_some hdd (by simp)
    split at he
    · rename_i id
      split at he
      · rename_i a xs hid
        cases hz : tsz P e (size a) with
        | false => simp [hz] at he
        | true =>
          simp only [hz, cond_true] at he
          obtain ⟨i, hi, hsz, _⟩ := tsz_info hz
          split at he
          · rename_i ys hys
            simp only [Option.some.injEq] at he
            subst he
            obtain ⟨cs, r1, r2, r3⟩ := items_reads h hsub hys hx
            have lcs := repDl_length _ _ r1
            rw [cellsD_length] at lcs
            have hf := r3 (min ys.length xs.length) (Nat.min_le_left _ _)
            rw [← hsz] at hf
            simp only [repV] at hd
            obtain ⟨hd1, _⟩ := hd
            have hr := h.cont id _ (hsub _ _ hid)
            simp only [repC] at hr
            obtain ⟨base, cap, k1, k2, k3⟩ := hr
            rw [k1] at hd1
            have hd1 := Option.some.inj hd1
            subst hd1
            have hlen : (ys.take xs.length ++ xs.drop ys.length).length = xs.length := by simp; omega
            rcases Nat.eq_zero_or_pos cap with hc0 | hcp
            · subst hc0
              have hx0 : xs = [] := List.length_eq_zero_iff.1 (by omega)
              subst hx0
              have hrun := run_copy (P := P) (u := u) (cap := 0) ht hi r2 hf (base := base) (w' := w) (fun a _ => by simp [storeCells]) (fun _ => rfl) ty
              refine ⟨_, _, hrun, I, s, Facts.le_refl _, Hand.le_refl _, ?_, by simp only [repV, List.length_nil]⟩
              refine h.kill id |>.adopt (s' := s) id (.row a (ys.take 0 ++ ([] : List (El a)).drop ys.length) 0) none (fun c0 h0 => by simp at h0; subst h0; rfl) (Hand.le_refl _) (fun i v hv => .inr hv) (fun b' hb' => by cases base <;> simp [blk, k1] at hb') ⟨Nat.le_refl _, fun _ _ _ => rfl, rfl, rfl, rfl⟩
                (Facts.le_refl _) (fun _ _ _ => rfl) (fun b' o v e hv => by cases e) (fun b' e => by cases e) (fun b' e => by cases e) ?_ |> fun q => by rwa [setF_setF] at q
              simp only [repC]
              exact ⟨base, 0, by simpa using k1, by simp, .inl rfl⟩
            · rcases k3 with hc0 | ⟨b, rfl, arr, e', fr, q1, q2, q3, q4, q5, q6, q7⟩
              · omega
              · have hal : arr.toList.length = arr.size := Array.length_toList
                have hmul : xs.length * size a ≤ cap * size a := Nat.mul_le_mul_right _ k2
                have hmin : (min ys.length xs.length) * size a ≤ xs.length * size a := Nat.mul_le_mul_right _ (Nat.min_le_right _ _)
                have hmin2 : (min ys.length xs.length) * size a ≤ ys.length * size a := Nat.mul_le_mul_right _ (Nat.min_le_left _ _)
                have lt : (cs.take (min ys.length xs.length * size a)).length = min ys.length xs.length * size a := by rw [List.length_take]; omega
                rw [← hsz] at lt
                have hst := run_storeCells_thaw P b 0 e' fr (cs.take (min ys.length xs.length * i.size)) 0 arr w q1 q2 (by rw [hsz] at lt ⊢; omega) (fun v hv => repDl_one _ _ r1 v (List.mem_of_mem_take hv))
                have hput : (arr.toList.take (0 + 0) ++ cs.take (min ys.length xs.length * i.size) ++ arr.toList.drop (0 + 0 + (cs.take (min ys.length xs.length * i.size)).length)) =
                    cs.take (min ys.length xs.length * size a) ++ arr.toList.drop (min ys.length xs.length * size a) := by
                  rw [hsz] at lt ⊢
                  rw [lt]
                  simp
                rw [hput] at hst
                have hrun := run_copy (P := P) (u := u) (cap := cap) ht hi r2 hf (base := some ⟨b, 0, none⟩) (fun a ha => by cases ha; exact hst) (fun hh => by cases hh) ty
                refine ⟨_, _, hrun, I, s, Facts.le_refl _, Hand.le_refl _, ?_, by simp only [repV]⟩
                obtain ⟨c', rfl⟩ : ∃ c', cap = c' + 1 := ⟨cap - 1, by omega⟩
                have hblk : blk s id (.row a xs 0) = some b := by simp [blk, k1]
                rw [hsz] at lt
                have hlp : (cs.take (min ys.length xs.length * size a) ++ arr.toList.drop (min ys.length xs.length * size a)).length = arr.size := by
                  rw [List.length_append, lt, List.length_drop, hal]; omega
                refine h.rewrite (hsub _ _ hid) (b := b) hblk (but_setRow _ _ _) (fun b' hb' => by simp [blk, k1] at hb'; exact hb'.symm) (fun o v hI => by rw [q6 rfl] at hI; cases hI) ?_
                simp only [repC]
                refine ⟨_, c' + 1, by rw [k1, hlen], by rw [hlen]; exact k2, .inr ⟨b, rfl, _, e', fr, setRow_at q1, ?_, ?_, ?_, ?_, fun _ => q6 rfl, fun h2 => by cases h2⟩⟩
                · rw [List.size_toArray, hlp]; exact q2
                · rw [List.size_toArray, hlp]; exact q3
                · rw [hlen]
                  have e1 : (cs.take (min ys.length xs.length * size a) ++ arr.toList.drop (min ys.length xs.length * size a)).toArray.toList.take (xs.length * size a) =
                      cs.take (min ys.length xs.length * size a) ++ (arr.toList.take (xs.length * size a)).drop (min ys.length xs.length * size a) := by
                    show (cs.take (min ys.length xs.length * size a) ++ arr.toList.drop (min ys.length xs.length * size a)).take (xs.length * size a) = _
                    rw [List.take_append, List.take_of_length_le (by omega), lt, List.drop_take]
                  rw [e1, cellsD_append]
                  have t1 := cells_take r1 (min ys.length xs.length)
                  have t2 := cells_drop q4 (min ys.length xs.length)
                  have e2 : ys.take (min ys.length xs.length) = ys.take xs.length := by
                    by_cases hh : ys.length ≤ xs.length
                    · rw [Nat.min_eq_left hh, List.take_length, List.take_of_length_le hh]
                    · rw [Nat.min_eq_right (by omega)]
                  have e3 : xs.drop (min ys.length xs.length) = xs.drop ys.length := by
                    by_cases hh : ys.length ≤ xs.length
                    · rw [Nat.min_eq_left hh]
                    · rw [Nat.min_eq_right (by omega), List.drop_length, List.drop_of_length_le (by omega)]
                  rw [e2] at t1
                  rw [e3] at t2
                  exact repDl_append _ _ _ _ t1 t2
                · intro o v hI; rw [q6 rfl] at hI; cases hI
          · cases he
      · cases he
    · cases he
  · cases he

end
end Go.PE
