/-
  PE, append and copy: the whole operations.
-/
import Derived.Test.YtifmnhcmmoacfaaGreatDoorQOpP
import Derived.Laws.AppendOwn
set_option linter.unusedVariables false
set_option linter.unusedSectionVars false
set_option linter.unusedSimpArgs false
namespace Go.PE
section
variable [Univ] [UnivOk] {cx : Cx} {I I' : Facts} {s : Hand} {hp hpr : Nat → Option C} {w w' : World} {P : Program}

theorem made_at (h : WInv cx I s hp w) {nid b : Nat} (hn : hp nid = none) (hfree : ∀ i c0, hp i = some c0 → blk s i c0 ≠ some b) (hown : cx.w0.heap.size ≤ b ∨ cx.hid b) {dir : Option Dir} {t : Shape} {xs : List (El t)} {fz : Nat}
    {upd : List (Nat × C)} {conds : List Prop} {ef : Eff} (he : made nid dir t xs fz upd conds = some ef) {arr : Array Value} {cap : Nat} {e : TypeId} {fr : Nat × Nat}
    (hw : But (some b) w w') (hg : w'.heap[b]? = some (.cells arr e fr)) (hth : thaw fr arr.size) (hsz : arr.size = cap * size t) (hl : xs.length ≤ cap)
    (hr : repDl I (cellsD t xs) (arr.toList.take (xs.length * size t))) (hI : ∀ o v, I b o = some v → o < xs.length * size t ∧ arr[o]? = some v) (hf : fz = 0 → ∀ o, I b o = none) (hf2 : fz ≠ 2) :
    ∃ c, ef.upd = (nid, c) :: upd ∧ Res cx I s hp [(nid, c)] ef.v (.slice (some ⟨b, 0, none⟩) xs.length cap) w' := by
  unfold made at he
  split at he
  · simp only [Option.some.injEq] at he
    subst he
    exact ⟨_, rfl, lstAt h hn hfree hown hw hg hl hr hI (by unfold flag; trivial)⟩
  · simp only [Option.some.injEq] at he
    subst he
    exact ⟨_, rfl, rowAt h hn hfree hown hw hg hth hsz hl hr hI hf hf2⟩

theorem made_conds {nid : Nat} {dir : Option Dir} {t : Shape} {xs : List (El t)} {fz : Nat} {upd : List (Nat × C)} {conds : List Prop} {ef : Eff} (he : made nid dir t xs fz upd conds = some ef) : ef.conds = conds := by
  unfold made at he
  split at he <;> (simp only [Option.some.injEq] at he; subst he; rfl)

theorem made_empty (h : WInv cx I s hp w) {nid : Nat} (hn : hp nid = none) {dir : Option Dir} {t : Shape} {fz : Nat} {upd : List (Nat × C)} {conds : List Prop} {ef : Eff} (he : made nid dir t ([] : List (El t)) fz upd conds = some ef) (base : Option Addr) :
    ∃ c, ef.upd = (nid, c) :: upd ∧ Res cx I s hp [(nid, c)] ef.v (.slice base 0 0) w := by
  unfold made at he
  split at he
  · simp only [Option.some.injEq] at he
    subst he
    exact ⟨_, rfl, (emptyRow h (fz := 0) hn base).2⟩
  · simp only [Option.some.injEq] at he
    subst he
    exact ⟨_, rfl, (emptyRow h hn base).1⟩

/-- A new row of grown size. -/
theorem grown_rep (h : WInv cx I s hp w) {nid : Nat} (hn : hp nid = none) {dir : Option Dir} {a : Shape} {xs ys : List (El a)} {fz : Nat} {upd : List (Nat × C)} {conds : List Prop} {ef : Eff} (he : made nid dir a (xs ++ ys) fz upd conds = some ef) (hf2 : fz ≠ 2)
    {e : TypeId} {cap old : Nat} {olds cs : List Value} {z : Array Value} (hz : z.size = size a) (h1 : repDl I (cellsD a xs) olds) (h2 : repDl I (cellsD a ys) cs) (hcap : xs.length + ys.length ≤ cap) :
    ∃ c, ef.upd = (nid, c) :: upd ∧ Res cx I s hp [(nid, c)] ef.v (.slice (some ⟨w.heap.size, 0, none⟩) (xs.length + ys.length) cap)
      (w.drew.alloc (.cells (olds.toArray ++ cs.toArray ++ Builtin.zeroCells z (cap - (xs.length + ys.length))) e)) := by
  have l1 := repDl_length _ _ h1
  have l2 := repDl_length _ _ h2
  rw [cellsD_length] at l1 l2
  have hadd : (xs.length + ys.length) * size a = olds.length + cs.length := by rw [Nat.add_mul, l1, l2]
  have hcap2 : cap * size a = (xs.length + ys.length) * size a + (cap - (xs.length + ys.length)) * size a := by rw [← Nat.add_mul]; congr 1; omega
  have := made_at h (b := w.heap.size) hn (fun i c0 h0 hb => by have := h.blk_lt h0 hb; omega) (.inl h.size) he (cap := cap) (e := e) (fr := (0, 0))
    (w' := w.drew.alloc (.cells (olds.toArray ++ cs.toArray ++ Builtin.zeroCells z (cap - (xs.length + ys.length))) e)) (arr := olds.toArray ++ cs.toArray ++ Builtin.zeroCells z (cap - (xs.length + ys.length)))
    (let q := but_alloc w.drew _; ⟨q.size, q.heap, q.os, q.tape, q.out⟩) (alloc_at w.drew _) (thaw_zero _) (by simp only [Array.size_append, List.size_toArray, Builtin.zeroCells, Array.size_map, Array.size_range, hz]; omega) (by rw [List.length_append]; exact hcap)
    (by
      rw [List.length_append, hadd]
      simp only [Array.toList_append]
      rw [List.take_left' (by simp), cellsD_append]
      exact repDl_append _ _ _ _ h1 h2)
    (fun o v hv => by rw [h.fresh_none] at hv; cases hv) (fun _ => h.fresh_none) hf2
  rwa [List.length_append] at this

theorem opAppend_sound (h : WInv cx I s hp w) (hsub : ∀ id c, hpr id = some c → hp id = some c) {nid : Nat} (hn : hp nid = none) {dir : Option Dir} {t u : TypeId} {d : TypeDesc} (hu : P.underlying u = some d) (hd : ∀ k, d ≠ .int k) {b x : V} {ef : Eff}
    (he : opAppend P hpr nid dir t b x = some ef) (hc : ∀ q ∈ ef.conds, q) {va vx : Value} (ha : repV I s b va) (hx : repV I s x vx) (ty : TypeId) :
    ∃ y w', (Builtin.append_ #[t, u] ty #[va, vx]).run P w = .ok y w' ∧ Res cx I s hp ef.upd ef.v y w' := by
  have hD : WInv cx I s hp w.drew := h.of_heap rfl rfl rfl rfl
  unfold opAppend at he
  split at he
  · rename_i e hdd
    have ht := und_some hdd (by simp)
    split at he
    · rename_i a hshp
      cases hz : (tsz P e (size a) && zeroOk P e a && Nat.blt 0 (tbytes P e)) with
      | false => simp [hz] at he
      | true =>
        simp only [hz, cond_true] at he
        simp only [Bool.and_eq_true] at hz
        obtain ⟨⟨z1, z2⟩, z3⟩ := hz
        obtain ⟨i, z, hi, hzz, hsz, hr, _⟩ := zeroOk_rep (I := I) z2
        have hb : tbytes P e = i.bytes := by simp [tbytes, Program.bytesOf, hi]
        have hbp : 0 < i.bytes := by rw [← hb]; simpa [Nat.blt_eq] using z3
        have hzs : z.cells.size = size a := by
          have := repDl_length _ _ hr
          rw [toD_length] at this
          rw [← Array.length_toList, this]
        split at he
        · rename_i ys hys
          obtain ⟨cs, r1, r2, r3⟩ := items_reads h hsub hys hx
          obtain ⟨cs', s1, s2, s3⟩ := items_reads hD hsub hys hx
          have lcs := repDl_length _ _ r1
          have lcs' := repDl_length _ _ s1
          rw [cellsD_length] at lcs lcs'
          have f1 : (Builtin.firstCells (size a) ys.length vx).run P w = .ok cs.toArray w := by
            have := r3 ys.length (Nat.le_refl _)
            rwa [List.take_of_length_le (by omega)] at this
          have f2 : (Builtin.firstCells i.size ys.length vx).run P w.drew = .ok cs'.toArray w.drew := by
            have := s3 ys.length (Nat.le_refl _)
            rwa [List.take_of_length_le (by omega), ← hsz] at this
          have nothing : ∀ base, va = .slice base 0 0 → made nid dir a ys 0 [] [fits (ys.length * tbytes P e)] = some ef → ∃ y w', (Builtin.append_ #[t, u] ty #[va, vx]).run P w = .ok y w' ∧ Res cx I s hp ef.upd ef.v y w' := by
            rintro base rfl he
            by_cases h0 : ys = []
            · subst h0
              have hc0 : cs = [] := List.length_eq_zero_iff.1 (by simp at lcs; omega)
              subst hc0
              have hrun := append_room (P := P) (w := w) ht hu hd hi hsz r2 f1 (base := base) (n := 0) (cap := 0) (by simp) ty (w' := w) (fun b _ => rfl) (fun _ => rfl)
              obtain ⟨c, e1, e2⟩ := made_empty h hn he base
              exact ⟨_, _, hrun, by rw [e1]; exact e2⟩
            · have hpos : 0 < ys.length := List.length_pos_iff.2 h0
              have hfit : fits (ys.length * tbytes P e) := hc _ (by rw [made_conds he]; simp)
              have hrun := append_grow (P := P) (w := w) ht hu hd hi hzz r2 f2 (base := base) (n := 0) (cap := 0) (olds := []) (by cases base <;> simp [Builtin.firstCells, loadCells, loadCellsFrom]) (by omega) hbp (by rw [← hb]; simpa using hfit) ty
              have := grown_rep h hn (xs := []) (ys := ys) he (by omega) (e := e) (cap := grownCap w (0 + ys.length) 0 e) (old := 0) (olds := []) hzs trivial s1 (by have := grownCap_ge w (0 + ys.length) 0 e; simpa using this)
              obtain ⟨c, e1, e2⟩ := this
              exact ⟨_, _, hrun, by rw [e1]; exact e2⟩
          split at he
          · simp only [repV] at ha
            exact nothing none ha he
          · simp only [repV, repD, flag] at ha
            obtain ⟨⟨base, cap, rfl, hle, _⟩, hfl⟩ := ha
            have : cap = 0 := by simpa using hfl
            subst this
            exact nothing base rfl he
          · rename_i id
            split at he
            · rename_i a' xs fz hid
              split at he
              · rename_i xs' hcast
                obtain ⟨ee, rfl⟩ := castL_eq hcast
                subst ee
                simp only [repV] at ha
                obtain ⟨ha1, _⟩ := ha
                have hfit : fits ((xs.length + ys.length) * tbytes P e) := hc _ (by rw [made_conds he]; simp)
                have hfz2 : (match fz with | 0 => 0 | _ => 1) ≠ 2 := by split <;> omega
                have hne : nid ≠ id := by rintro rfl; rw [hsub _ _ hid] at hn; cases hn
                have hk := h.kill id
                have hkn : setF hp id .dead nid = none := by rw [setF_other _ _ hne]; exact hn
                have hr := h.cont id _ (hsub _ _ hid)
                simp only [repC] at hr
                obtain ⟨base, cap, k1, k2, k3⟩ := hr
                rw [k1] at ha1
                have ha1 := Option.some.inj ha1
                subst ha1
                by_cases hroom : xs.length + ys.length ≤ cap
                · rcases Nat.eq_zero_or_pos cap with hc0 | hcp
                  · subst hc0
                    have hx0 : xs = [] := List.length_eq_zero_iff.1 (by omega)
                    have hy0 : ys = [] := List.length_eq_zero_iff.1 (by omega)
                    subst hx0; subst hy0
                    have hcs0 : cs = [] := List.length_eq_zero_iff.1 (by simp at lcs; omega)
                    subst hcs0
                    have hrun := append_room (P := P) (w := w) ht hu hd hi hsz r2 f1 (base := base) (n := 0) (cap := 0) (by simp) ty (w' := w) (fun b _ => rfl) (fun _ => rfl)
                    obtain ⟨c, e1, e2⟩ := made_empty hk hkn he base
                    exact ⟨_, _, hrun, by rw [e1]; exact e2⟩
                  · rcases k3 with hc0 | ⟨b, rfl, arr, e', fr, q1, q2, q3, q4, q5, q6, q7⟩
                    · omega
                    · have hal : arr.toList.length = arr.size := Array.length_toList
                      have hmul : (xs.length + ys.length) * size a' ≤ cap * size a' := Nat.mul_le_mul_right _ hroom
                      rw [Nat.add_mul] at hmul
                      have hst := run_storeCells_thaw P b (xs.length * size a') e' fr cs 0 arr w q1 q2 (by omega) (repDl_one _ _ r1)
                      rw [Nat.add_zero] at hst
                      have hrun := append_room (P := P) (w := w) ht hu hd hi hsz r2 f1 (base := some ⟨b, 0, none⟩) (n := xs.length) (cap := cap) hroom ty (fun b' hb' => by cases hb'; rw [add_off, Nat.zero_add]; exact hst) (fun hb' => by cases hb')
                      have hlen : (arr.toList.take (xs.length * size a') ++ cs ++ arr.toList.drop (xs.length * size a' + cs.length)).length = arr.size := by
                        rw [put_length _ _ _ (by omega), hal]
                      have hblk : blk s id (.row a' xs fz) = some b := by
                        obtain ⟨c', rfl⟩ : ∃ c', cap = c' + 1 := ⟨cap - 1, by omega⟩
                        simp [blk, k1]
                      have := made_at hk (b := b) hkn (fun i c0 h0 hb' => by
                          by_cases hi' : i = id
                          · subst hi'; simp at h0; subst h0; simp [blk] at hb'
                          · rw [setF_other _ _ hi'] at h0
                            exact hi' (h.apart i id c0 _ b h0 (hsub _ _ hid) hb' hblk))
                        (h.own id _ b (hsub _ _ hid) hblk) he (cap := cap) (but_setRow w b _) (setRow_at q1) (by rw [List.size_toArray, hlen]; exact q2) (by rw [List.size_toArray, hlen]; exact q3) (by rw [List.length_append]; exact hroom)
                        (by
                          rw [List.length_append, Nat.add_mul, cellsD_append]
                          have : (arr.toList.take (xs.length * size a') ++ cs ++ arr.toList.drop (xs.length * size a' + cs.length)).toArray.toList.take (xs.length * size a' + ys.length * size a') = arr.toList.take (xs.length * size a') ++ cs := by
                            rw [List.take_left']
                            rw [List.length_append, List.length_take]; omega
                          rw [this]
                          exact repDl_append _ _ _ _ q4 r1)
                        (fun o v hv => by
                          have ho := q5 o v hv
                          refine ⟨by show o < (xs ++ ys).length * size a'; rw [List.length_append, Nat.add_mul]; omega, ?_⟩
                          have hag := h.agree b o v hv
                          simp only [World.cell?, q1] at hag
                          have hag' : arr.toList[o]? = some v := by simpa using hag
                          rw [List.getElem?_toArray, List.append_assoc, List.getElem?_append_left (by rw [List.length_take]; omega), List.getElem?_take, if_pos ho]
                          exact hag')
                        (fun hf => q6 (by revert hf; split <;> simp)) hfz2
                      obtain ⟨c, e1, e2⟩ := this
                      rw [List.length_append] at e2
                      exact ⟨_, _, hrun, by rw [e1]; exact e2⟩
                · obtain ⟨base', cap', olds, p1, p2, p3, p4⟩ := row_cells hD (hsub _ _ hid) k1
                  cases p1
                  obtain ⟨olds', o1, _, o3⟩ := reads_slice (P := P) (cap := cap) p3 p4
                  have lo := repDl_length _ _ o1
                  rw [cellsD_length] at lo
                  have fo : (Builtin.firstCells i.size xs.length (.slice base xs.length cap)).run P w.drew = .ok olds'.toArray w.drew := by
                    have := o3 xs.length (Nat.le_refl _)
                    rwa [List.take_of_length_le (by omega), ← hsz] at this
                  have hrun := append_grow (P := P) (w := w) ht hu hd hi hzz r2 f2 fo (by omega) hbp (by rw [← hb]; exact hfit) ty
                  obtain ⟨c, e1, e2⟩ := grown_rep hk hkn he hfz2 (e := e) (cap := grownCap w (xs.length + ys.length) cap e) (old := cap) hzs o1 s1 (grownCap_ge w _ cap e)
                  exact ⟨_, _, hrun, by rw [e1]; exact e2⟩
              · cases he
            · cases he
          · cases he
        · cases he
    · cases he
  · cases he

end
end Go.PE
