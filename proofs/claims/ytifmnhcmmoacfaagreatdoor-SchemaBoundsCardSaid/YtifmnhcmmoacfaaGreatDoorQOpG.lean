/-
  PE, stores.
-/
import Derived.Test.YtifmnhcmmoacfaaGreatDoorQOpF
set_option linter.unusedVariables false
set_option linter.unusedSectionVars false
set_option linter.unusedSimpArgs false
namespace Go.PE

theorem repD_one {I : Facts} {d : D} {v : Value} (h : repD I d v) : v.oneCell' = true := by
  cases d <;> simp only [repD] at h <;> first
    | (subst h; rfl)
    | (obtain ⟨_, _, rfl, _⟩ := h; rfl)

theorem repDl_one {I : Facts} : ∀ (l : List D) (vs : List Value), repDl I l vs → ∀ y ∈ vs, y.oneCell' = true
  | [], [], _, y, h => by simp at h
  | d :: r, v :: q, e, y, h => by
    rcases List.mem_cons.1 h with rfl | h
    · exact repD_one e.1
    · exact repDl_one r q e.2 y h
  | [], _ :: _, e, _, _ => e.elim
  | _ :: _, [], e, _, _ => e.elim

theorem seg_put {α : Type} (arr ys : List α) (a off n sz : Nat) (hy : ys.length = n) (h1 : off + n ≤ sz) (h2 : a + sz ≤ arr.length) :
    arr.take (a + off) ++ ys ++ arr.drop (a + off + n) =
      arr.take a ++ (((arr.drop a).take sz).take off ++ ys ++ ((arr.drop a).take sz).drop (off + n)) ++ arr.drop (a + sz) := by
  have e1 : arr.take (a + off) = arr.take a ++ ((arr.drop a).take sz).take off := by
    rw [List.take_add, List.take_take, Nat.min_eq_left (by omega)]
  have e2 : arr.drop (a + off + n) = ((arr.drop a).take sz).drop (off + n) ++ arr.drop (a + sz) := by
    rw [← List.drop_drop (i := sz) (j := a), List.drop_take]
    have : arr.drop (a + off + n) = (arr.drop a).drop (off + n) := by rw [List.drop_drop]; congr 1; omega
    rw [this]
    generalize arr.drop a = l
    have : l.drop sz = (l.drop (off + n)).drop (sz - (off + n)) := by rw [List.drop_drop]; congr 1; omega
    rw [this, List.take_append_drop]
  rw [e1, e2]
  simp [List.append_assoc]

theorem put_take {α : Type} (cs ys : List α) (p m : Nat) (h : p + ys.length ≤ m) (hm : m ≤ cs.length) :
    (cs.take p ++ ys ++ cs.drop (p + ys.length)).take m = cs.take p ++ ys ++ (cs.take m).drop (p + ys.length) := by
  have hl : (cs.take p ++ ys).length = p + ys.length := by simp; omega
  rw [List.take_append, List.take_of_length_le (by omega), hl, List.drop_take]

section
variable [Univ] [UnivOk] {cx : Cx} {I : Facts} {s : Hand} {hp hpr : Nat → Option C} {w : World} {P : Program}

theorem repDl_set {t : Shape} : ∀ (xs : List (El t)) (cs zs : List Value) (i : Nat) (y : El t), repDl I (cellsD t xs) cs → i < xs.length → repDl I (toD t y) zs →
    repDl I (cellsD t (xs.set i y)) (cs.take (i * size t) ++ zs ++ cs.drop (i * size t + size t))
  | [], _, _, _, _, _, h, _ => by simp at h
  | x :: r, cs, zs, 0, y, h, _, hz => by
    have h' : repDl I (toD t x ++ cellsD t r) cs := by simpa [cellsD] using h
    have h2 := (repDl_split _ _ _ h').2
    rw [toD_length] at h2
    have : cellsD t ((x :: r).set 0 y) = toD t y ++ cellsD t r := by simp [cellsD]
    rw [this]
    simpa using repDl_append _ _ _ _ hz h2
  | x :: r, cs, zs, i + 1, y, h, hi, hz => by
    have h' : repDl I (toD t x ++ cellsD t r) cs := by simpa [cellsD] using h
    obtain ⟨h1, h2⟩ := repDl_split _ _ _ h'
    rw [toD_length] at h1 h2
    have ih := repDl_set r _ zs i y h2 (by simpa using hi) hz
    have : cellsD t ((x :: r).set (i + 1) y) = toD t x ++ cellsD t (r.set i y) := by simp [cellsD]
    rw [this]
    have := repDl_append _ _ _ _ h1 ih
    have e1 : (i + 1) * size t = size t + i * size t := by rw [Nat.add_mul]; omega
    rw [e1, List.take_add]
    rw [List.drop_drop] at this
    simpa [List.append_assoc, Nat.add_assoc] using this

theorem setRow_at {w : World} {b : Nat} {cur cs : Array Value} {e : TypeId} {fr : Nat × Nat} (hg : w.heap[b]? = some (.cells cur e fr)) : (w.setRow b cs).heap[b]? = some (.cells cs e fr) := setRow_heap w b cur cs e fr hg

/-- An element, or a part of it, is written: the row's cells behind it. -/
theorem elem_put {a : Shape} {xs : List (El a)} {cs ys : List Value} {i : Int} {off : Nat} {x : V} {y : El a} (h : WInv cx I s hp w) (hsub : ∀ id c, hpr id = some c → hp id = some c)
    (hr : repDl I (cellsD a xs) (cs.take (xs.length * size a))) (hw : within i xs.length) (hl : off + (PE.cellsOf x).length ≤ size a) (hy : repVs I s (PE.cellsOf x) ys)
    (hi : implode hpr a (putN (explode a (rdE a xs i)) off (PE.cellsOf x)) = some y) (hlen : xs.length * size a ≤ cs.length) :
    repDl I (cellsD a (xs.set i.toNat y)) ((cs.take (i.toNat * size a + off) ++ ys ++ cs.drop (i.toNat * size a + off + ys.length)).take (xs.length * size a)) := by
  have hlt : i.toNat < xs.length := by have := hw.1; have := hw.2; omega
  have hmul : i.toNat * size a + size a ≤ xs.length * size a := by rw [← Nat.succ_mul]; exact Nat.mul_le_mul_right _ hlt
  have hyl := repVs_length _ _ hy
  have hseg := elem_cells xs _ i.toNat _ hr (rdE_get hw)
  have hsl : (explode a (rdE a xs i)).length = size a := by
    have h1 := repVs_length _ _ (explode_rep (I := I) (s := s) hseg)
    have h2 := repDl_length _ _ hseg
    rw [toD_length] at h2
    omega
  have hput := repVs_put _ _ off _ _ (explode_rep (I := I) (s := s) hseg) hy (by rw [hsl]; exact hl)
  have hD := implode_rep h hsub hi hput
  have hset := repDl_set xs _ _ i.toNat y hr hlt hD
  have e := seg_put (cs.take (xs.length * size a)) ys (i.toNat * size a) off ys.length (size a) rfl (by omega) (by rw [List.length_take]; omega)
  rw [← e] at hset
  have e2 : (cs.take (i.toNat * size a + off) ++ ys ++ cs.drop (i.toNat * size a + off + ys.length)).take (xs.length * size a) =
      (cs.take (xs.length * size a)).take (i.toNat * size a + off) ++ ys ++ (cs.take (xs.length * size a)).drop (i.toNat * size a + off + ys.length) := by
    rw [List.take_take, Nat.min_eq_left (by omega)]
    exact put_take cs ys _ _ (by omega) hlen
  rw [e2]
  exact hset

theorem storeAt_run {t : TypeId} {a : Addr} {u : Value} {w w' : World} (h : (storeVar t a u).run P w = .ok () w') : (Instr.storeAt t (.pointer (some a)) u).run P w = .ok () w' := by
  simp only [Instr.storeAt, Instr.sureAddr, Sem.run_bind, Sem.run_pure, Result.andThen_ok]; exact h

theorem put_length {α : Type} (cs ys : List α) (p : Nat) (h : p + ys.length ≤ cs.length) : (cs.take p ++ ys ++ cs.drop (p + ys.length)).length = cs.length := by
  simp; omega

theorem opStore_sound (h : WInv cx I s hp w) (hsub : ∀ id c, hpr id = some c → hp id = some c) {t : TypeId} {p x : V} {e : Eff} (he : opStore P hpr t p x = some e) (hc : ∀ q ∈ e.conds, q)
    {v u : Value} (hv : repV I s p v) (hu : repV I s x u) : ∃ w', (Instr.storeAt t v u).run P w = .ok () w' ∧ Res cx I s hp e.upd e.v Go.undef w' := by
  unfold opStore at he
  split at he
  · rename_i id off
    split at he
    · rename_i cells hid
      simp only at he
      cases hz : (tsz P t (PE.cellsOf x).length && Nat.ble (off + (PE.cellsOf x).length) cells.length && (PE.cellsOf x).all scal) with
      | false => simp [hz] at he
      | true =>
        simp only [hz, cond_true, Option.some.injEq] at he
        subst he
        simp only [Bool.and_eq_true] at hz
        obtain ⟨⟨z1, z2⟩, z3⟩ := hz
        obtain ⟨i, hi, hsz, _⟩ := tsz_info z1
        have hle := Nat.le_of_ble_eq_true z2
        obtain ⟨hcs, hone⟩ := scal_cells hu z3
        have hlen := repVs_length _ _ hcs
        have hr := h.cont id _ (hsub _ _ hid)
        simp only [repC] at hr
        obtain ⟨b, arr, e', fr, k1, k2, k3, k4, k5⟩ := hr
        have hal := repVs_length _ _ k5
        simp only [repV] at hv
        obtain ⟨b', q1, rfl⟩ := hv
        rw [k1] at q1
        cases q1
        have hrun := run_storeVar' (P := P) (w := w) (o := off) hi (by rw [← hlen, hsz]) k2 k3 (by have : arr.toList.length = arr.size := Array.length_toList; omega) hone
        refine ⟨_, storeAt_run hrun, I, s, Facts.le_refl _, Hand.le_refl _, ?_, by simp only [repV]⟩
        refine h.rewrite (hsub _ _ hid) (b := b) (by simp [blk, k1]) (but_setRow _ _ _) (fun b' hb' => by simp [blk, k1] at hb'; exact hb'.symm) (fun o v hI => by rw [k4] at hI; cases hI) ?_
        simp only [repC]
        refine ⟨b, _, e', fr, k1, setRow_at k2, ?_, k4, ?_⟩
        · have : (arr.toList.take off ++ u.cells.toList ++ arr.toList.drop (off + u.cells.toList.length)).toArray.size = arr.size := by
            rw [List.size_toArray, put_length _ _ _ (by omega)]; exact Array.length_toList
          rw [this]; exact k3
        · simpa using repVs_put _ _ off _ _ k5 hcs hle
    · rename_i a xs hid
      split at he
      · rename_i a' ys n e' hd
        split at he
        · rename_i zs hz
          obtain ⟨ee, rfl⟩ := castL_eq hz
          subst ee
          cases hz2 : tsz P t (n * size a') with
          | false => simp [hz2] at he
          | true =>
            simp only [hz2, cond_true, Option.some.injEq] at he
            subst he
            obtain ⟨i, hi, hsz, _⟩ := tsz_info hz2
            have hn1 : ys.length = n := hc _ (by simp)
            have hn2 : xs.length = n := hc _ (by simp)
            simp only [repV] at hv hu
            obtain ⟨b', q1, rfl⟩ := hv
            obtain ⟨cs, rfl, hcs⟩ := hu
            have hr := h.cont id _ (hsub _ _ hid)
            simp only [repC] at hr
            obtain ⟨b, arr, e', fr, k1, k2, k3, k4, k5⟩ := hr
            rw [k1] at q1
            cases q1
            have hl1 : cs.toList.length = n * size a' := by rw [← repDl_length _ _ hcs, cellsD_length, hn1]
            have hl2 : arr.toList.length = n * size a' := by rw [← repDl_length _ _ k5, cellsD_length, hn2]
            have hone : ∀ y ∈ cs.toList, y.oneCell' = true := repDl_one _ _ hcs
            have hrun := run_storeVar' (P := P) (w := w) (o := 0) (v := .agg cs) hi (by rw [hsz]; exact hl1) k2 k3 (by
              have h1 : arr.toList.length = arr.size := Array.length_toList
              show 0 + cs.toList.length ≤ arr.size
              omega) hone
            have hnew : arr.toList.take 0 ++ (Value.agg cs).cells.toList ++ arr.toList.drop (0 + (Value.agg cs).cells.toList.length) = cs.toList := by
              have : (Value.agg cs).cells = cs := rfl
              rw [this, List.drop_of_length_le (by omega)]
              simp
            rw [hnew] at hrun
            refine ⟨_, storeAt_run hrun, I, s, Facts.le_refl _, Hand.le_refl _, ?_, by simp only [repV]⟩
            refine h.rewrite (hsub _ _ hid) (b := b') (by simp [blk, k1]) (but_setRow _ _ _) (fun c' hb' => by simp [blk, k1] at hb'; exact hb'.symm) (fun o v hI => by rw [k4] at hI; cases hI) ?_
            simp only [repC]
            refine ⟨b', _, e', fr, k1, setRow_at k2, ?_, k4, by simpa using hcs⟩
            have : cs.toList.toArray.size = arr.size := by
              have h1 : arr.toList.length = arr.size := Array.length_toList
              have h2 : cs.toList.length = cs.size := Array.length_toList
              simp; omega
            rw [this]; exact k3
        · cases he
      · cases he
    · cases he
  · rename_i id sz i off
    split at he
    · rename_i a xs hid
      cases hz : (Nat.beq (size a) sz && tsz P t (PE.cellsOf x).length && (PE.cellsOf x).all scal) with
      | false => simp [hz] at he
      | true =>
        simp only [hz, cond_true] at he
        split at he
        · rename_i y hy
          cases hz' : Nat.ble (off + (PE.cellsOf x).length) sz with
          | false => simp [hz'] at he
          | true =>
            simp only [hz', cond_true, Option.some.injEq] at he
            subst he
            simp only [Bool.and_eq_true] at hz
            obtain ⟨⟨z0, z1⟩, z3⟩ := hz
            have hsz0 := Nat.eq_of_beq_eq_true z0
            subst hsz0
            obtain ⟨inf, hi, hsz, _⟩ := tsz_info z1
            have hle := Nat.le_of_ble_eq_true hz'
            have hw : within i xs.length := hc _ (by simp)
            obtain ⟨hcs, hone⟩ := scal_cells hu z3
            have hlen := repVs_length _ _ hcs
            have hr := h.cont id _ (hsub _ _ hid)
            simp only [repC] at hr
            obtain ⟨base, cap, k1, k2, k3⟩ := hr
            have hlt : i.toNat < xs.length := by have := hw.1; have := hw.2; omega
            rcases k3 with rfl | ⟨b, rfl, arr, e', fr, q1, q2, q3, q4, q5, q6, q7⟩
            · omega
            · obtain ⟨cap', rfl⟩ : ∃ c', cap = c' + 1 := ⟨cap - 1, by omega⟩
              simp only [repV] at hv
              obtain ⟨b', g1, rfl⟩ := hv
              have hb : b' = b := by
                rcases g1 with g1 | ⟨n, c, g1⟩
                · rw [k1] at g1; cases g1
                · rw [k1] at g1; cases g1; rfl
              subst hb
              have hal : arr.toList.length = arr.size := Array.length_toList
              have hmul : i.toNat * size a + size a ≤ xs.length * size a := by rw [← Nat.succ_mul]; exact Nat.mul_le_mul_right _ hlt
              have hmul2 : xs.length * size a ≤ arr.toList.length := by rw [hal, q3]; exact Nat.mul_le_mul_right _ k2
              have hrun := run_storeVar' (P := P) (w := w) (o := i.toNat * size a + off) hi (by rw [← hlen, hsz]) q1 q2 (by omega) hone
              refine ⟨_, storeAt_run hrun, I, s, Facts.le_refl _, Hand.le_refl _, ?_, by simp only [repV]⟩
              refine h.rewrite (hsub _ _ hid) (b := b') (by simp [blk, k1]) (but_setRow _ _ _) (fun c' hb' => by simp [blk, k1] at hb'; exact hb'.symm) (fun o v hI => by rw [q6 rfl] at hI; cases hI) ?_
              simp only [repC]
              refine ⟨_, cap' + 1, by rw [k1, List.length_set], by rw [List.length_set]; exact k2, .inr ⟨b', rfl, _, e', fr, setRow_at q1, ?_, ?_, ?_, ?_, fun _ => q6 rfl, fun h2 => by cases h2⟩⟩
              · rw [List.size_toArray, put_length _ _ _ (by omega), hal]; exact q2
              · rw [List.size_toArray, put_length _ _ _ (by omega), hal]; exact q3
              · rw [List.length_set]
                exact elem_put h hsub q4 hw (by omega) hcs hy (by omega)
              · intro o v hI; rw [q6 rfl] at hI; cases hI
        · cases he
    · rename_i a xs hid
      cases hz : (Nat.beq (size a) sz && tsz P t (PE.cellsOf x).length && (PE.cellsOf x).all scal) with
      | false => simp [hz] at he
      | true =>
        simp only [hz, cond_true] at he
        split at he
        · rename_i y hy
          cases hz' : Nat.ble (off + (PE.cellsOf x).length) sz with
          | false => simp [hz'] at he
          | true =>
            simp only [hz', cond_true, Option.some.injEq] at he
            subst he
            simp only [Bool.and_eq_true] at hz
            obtain ⟨⟨z0, z1⟩, z3⟩ := hz
            have hsz0 := Nat.eq_of_beq_eq_true z0
            subst hsz0
            obtain ⟨inf, hi, hsz, _⟩ := tsz_info z1
            have hle := Nat.le_of_ble_eq_true hz'
            have hw : within i xs.length := hc _ (by simp)
            obtain ⟨hcs, hone⟩ := scal_cells hu z3
            have hlen := repVs_length _ _ hcs
            have hr := h.cont id _ (hsub _ _ hid)
            simp only [repC] at hr
            obtain ⟨b, arr, e', fr, k1, k2, k3, k4, k5⟩ := hr
            have hlt : i.toNat < xs.length := by have := hw.1; have := hw.2; omega
            simp only [repV] at hv
            obtain ⟨b', g1, rfl⟩ := hv
            have hb : b' = b := by
              rcases g1 with g1 | ⟨n, c, g1⟩
              · rw [k1] at g1; cases g1; rfl
              · rw [k1] at g1; cases g1
            subst hb
            have hal : arr.toList.length = arr.size := Array.length_toList
            have hmul : i.toNat * size a + size a ≤ xs.length * size a := by rw [← Nat.succ_mul]; exact Nat.mul_le_mul_right _ hlt
            have hmul2 : xs.length * size a = arr.toList.length := by rw [← repDl_length _ _ k5, cellsD_length]
            have hrun := run_storeVar' (P := P) (w := w) (o := i.toNat * size a + off) hi (by rw [← hlen, hsz]) k2 k3 (by omega) hone
            refine ⟨_, storeAt_run hrun, I, s, Facts.le_refl _, Hand.le_refl _, ?_, by simp only [repV]⟩
            refine h.rewrite (hsub _ _ hid) (b := b') (by simp [blk, k1]) (but_setRow _ _ _) (fun c' hb' => by simp [blk, k1] at hb'; exact hb'.symm) (fun o v hI => by rw [k4] at hI; cases hI) ?_
            simp only [repC]
            refine ⟨b', _, e', fr, k1, setRow_at k2, ?_, k4, ?_⟩
            · rw [List.size_toArray, put_length _ _ _ (by omega), hal]; exact k3
            · have := elem_put (cs := arr.toList) (ys := u.cells.toList) h hsub (by rw [hmul2, List.take_length]; exact k5) hw (by omega) hcs hy (by omega)
              rw [hmul2, List.take_of_length_le (by rw [put_length _ _ _ (by omega)]; exact Nat.le_refl _)] at this
              exact this
        · cases he
    · cases he
  · cases he

end
end Go.PE
