/-
  PE, operations that read: loads, indices, lengths.
-/
import Derived.Test.YtifmnhcmmoacfaaGreatDoorQOpD
set_option linter.unusedVariables false
set_option linter.unusedSectionVars false
set_option linter.unusedSimpArgs false
namespace Go.PE
section
variable [Univ] [UnivOk] {cx : Cx} {I : Facts} {s : Hand} {hp hpr : Nat → Option C} {w : World} {P : Program}

theorem run_boundsFree {t : TypeId} (ht : P.underlying t = some .string) {l : List UInt8} {k : IntKind} {i : Int} (h : within i l.length) :
    (Instr.index t (.string ⟨l.toArray⟩) (.int k i)).run P w = .ok (.int .u8 (bt l i)) w := by
  have hs : (ByteArray.mk l.toArray).size = l.length := by simp [ByteArray.size]
  rw [run_index_string w t _ k i ht, dif_pos (by rw [hs]; exact h)]
  congr 2
  simp only [bt]
  congr 2
  have hlt : i.toNat < l.length := by have := h.1; have := h.2; omega
  simp [List.getD, hlt, ByteArray.getElem_eq_getElem_data]

theorem plainD_no {d : TypeDesc} (h : plainD d = true) : d ≠ .invalid ∧ isAggD d = false := by
  cases d <;> first | (simp [plainD] at h; done) | exact ⟨by simp, rfl⟩

theorem opIndex_sound {t : TypeId} {x j : V} {e : Eff} (he : opIndex P t x j = some e) (hc : ∀ p ∈ e.conds, p)
    {v u : Value} (hv : repV I s x v) (hu : repV I s j u) : e.upd = [] ∧ ∃ y, (Instr.index t v u).run P w = .ok y w ∧ repV I s e.v y := by
  unfold opIndex at he
  split at he
  · rename_i l k i hd
    simp only [Option.some.injEq] at he
    subst he
    have hw : within i l.length := hc _ (by simp)
    simp only [repV] at hv hu
    subst hv; subst hu
    exact ⟨rfl, _, run_boundsFree (und_some hd (by simp)) hw, by simp only [repV]⟩
  · rename_i n e' a xs k i hd
    cases hz : (tsz P e' 1 && !(isUser a) && plainD (und P e')) with
    | false => simp [hz] at he
    | true =>
      simp only [hz, cond_true, Option.some.injEq] at he
      subst he
      simp only [Bool.and_eq_true, Bool.not_eq_true'] at hz
      obtain ⟨inf, hi, hsz, _⟩ := tsz_info hz.1.1
      obtain ⟨q1, q2⟩ := plainD_no hz.2
      have hw : within i xs.length := hc _ (by simp)
      have hn : xs.length = n := hc _ (by simp)
      simp only [repV] at hv hu
      obtain ⟨cs, rfl, hr⟩ := hv
      subst hu
      have hs1 : size a = 1 := by cases a <;> first | rfl | (simp [isUser] at hz)
      have hseg := elem_cells xs cs.toList i.toNat _ hr (rdE_get hw)
      obtain ⟨d, hd1⟩ := toD_one a hz.1.2 (rdE a xs i)
      rw [hd1, hs1] at hseg
      have hg : ∃ y, cs[i.toNat]? = some y ∧ repD I d y := by
        cases hdr : cs.toList.drop (i.toNat * 1) with
        | nil => rw [hdr] at hseg; exact hseg.elim
        | cons y r =>
          rw [hdr] at hseg
          refine ⟨y, ?_, hseg.1⟩
          have : (cs.toList.drop (i.toNat * 1))[0]? = some y := by rw [hdr]; rfl
          simpa using this
      obtain ⟨y, hy, hry⟩ := hg
      refine ⟨rfl, y, ?_, elV_rep (by unfold isEl; rw [hz.1.2]; simp only; rw [hd1]; exact ⟨hry, trivial⟩)⟩
      simp only [Instr.index, asIntOf, Sem.run_bind, Sem.run_pure, Result.andThen_ok, run_underlying (und_some hd (by simp))]
      rw [if_pos (by rw [← hn]; exact hw)]
      simp only [Sem.run_bind, run_sizeOf' hi, Result.andThen_ok, hsz, Nat.mul_one]
      exact run_part_one (und_some rfl q1) q2 hy
  · cases he

/-- A block's cells, all of them. -/
theorem loadVar_all {t : TypeId} {d : TypeDesc} (hd : P.underlying t = some d) (ha : isAggD d = true) {b : Nat} {cs : List Value} (hz : tsz P t cs.length = true) (hs : stands w b 0 cs) :
    (loadVar t ⟨b, 0, none⟩).run P w = .ok (.agg cs.toArray) w := by
  obtain ⟨i, hi, hsz, hc⟩ := tsz_info hz
  simp only [loadVar, Sem.run_bind, run_isAgg_yes hd ha, Result.andThen_ok, if_true, run_sizeOf' hi]
  rw [hsz, run_loadCells_list w ⟨b, 0, none⟩ cs (fun j v hv => by rw [add_off]; exact hs j v hv)]
  rfl

/-- An element of a row or an array that is loaded through its address. -/
theorem load_elem {a : Shape} {xs : List (El a)} {b : Nat} {cs : List Value} (hr : repDl I (cellsD a xs) cs) (hs : stands w b 0 cs) {t : TypeId} {i : Int} {off : Nat} {x : V}
    (he : ofCells P t (explode a (rdE a xs i)) off = some x) (hw : within i xs.length) :
    ∃ y, (loadVar t ⟨b, i.toNat * size a + off, none⟩).run P w = .ok y w ∧ repV I s x y := by
  have h1 := stands_part hs (i.toNat * size a) (size a)
  have := loadVar_rep (I := I) (s := s) (P := P) he h1 (explode_rep (elem_cells xs cs i.toNat _ hr (rdE_get hw)))
  simpa using this

theorem opLoad_sound (h : WInv cx I s hp w) (hsub : ∀ id c, hpr id = some c → hp id = some c) {t : TypeId} {x : V} {e : Eff} (he : opLoad P hpr t x = some e) (hc : ∀ p ∈ e.conds, p)
    {v : Value} (hv : repV I s x v) : e.upd = [] ∧ ∃ b o y, v = .pointer (some ⟨b, o, none⟩) ∧ (loadVar t ⟨b, o, none⟩).run P w = .ok y w ∧ repV I s e.v y := by
  unfold opLoad at he
  split at he
  · rename_i id off
    split at he
    · rename_i cells hid
      split at he
      · rename_i z hz
        simp only [ok1, Option.some.injEq] at he
        subst he
        have hr := h.cont id _ (hsub _ _ hid)
        simp only [repC] at hr
        obtain ⟨b, arr, e', fr, k1, k2, _, _, k5⟩ := hr
        simp only [repV] at hv
        obtain ⟨b', q1, rfl⟩ := hv
        rw [k1] at q1
        cases q1
        obtain ⟨y, hy, hr'⟩ := loadVar_rep (P := P) hz (stands_row k2) k5
        exact ⟨rfl, b, off, y, rfl, by simpa using hy, hr'⟩
      · cases he
    · rename_i a xs hid
      split at he
      · rename_i n e' hd
        cases hz : (tsz P e' (size a) && tsz P t (n * size a)) with
        | false => simp [hz] at he
        | true =>
          simp only [hz, cond_true, Option.some.injEq] at he
          subst he
          simp only [Bool.and_eq_true] at hz
          have hn : xs.length = n := hc _ (by simp)
          have hr := h.cont id _ (hsub _ _ hid)
          simp only [repC] at hr
          obtain ⟨b, arr, e'', fr, k1, k2, _, _, k5⟩ := hr
          simp only [repV] at hv
          obtain ⟨b', q1, rfl⟩ := hv
          rw [k1] at q1
          cases q1
          have hlen : arr.toList.length = n * size a := by rw [← repDl_length _ _ k5, cellsD_length, hn]
          refine ⟨rfl, b, 0, _, rfl, loadVar_all (und_some hd (by simp)) rfl (by rw [hlen]; exact hz.2) (stands_row k2), ?_⟩
          simp only [repV]
          exact ⟨_, rfl, by simpa using k5⟩
      · cases he
    · cases he
  · rename_i id sz i off
    split at he
    · rename_i a xs fz hid
      cases hz : Nat.beq (size a) sz with
      | false => simp [hz] at he
      | true =>
        have hsz := Nat.eq_of_beq_eq_true hz
        simp only [hz, cond_true] at he
        split at he
        · rename_i z hz'
          simp only [Option.some.injEq] at he
          subst he
          have hw : within i xs.length := hc _ (by simp)
          have hr := h.cont id _ (hsub _ _ hid)
          simp only [repC] at hr
          obtain ⟨base, cap, k1, k2, k3⟩ := hr
          have hne : xs.length ≠ 0 := by have := hw.1; have := hw.2; omega
          rcases k3 with rfl | ⟨b, rfl, arr, e', fr, q1, q2, q3, q4, q5, q6, q7⟩
          · omega
          · simp only [repV] at hv
            obtain ⟨b', g1, rfl⟩ := hv
            have hb : b' = b := by
              rcases g1 with g1 | ⟨n, c, g1⟩
              · rw [k1] at g1; cases g1
              · rw [k1] at g1; cases g1; rfl
            subst hb
            obtain ⟨y, hy, hr'⟩ := load_elem (s := s) (P := P) q4 (stands_take (stands_row q1) _) hz' hw
            exact ⟨rfl, b', _, y, rfl, by rw [← hsz]; exact hy, hr'⟩
        · cases he
    · rename_i a xs hid
      cases hz : Nat.beq (size a) sz with
      | false => simp [hz] at he
      | true =>
        have hsz := Nat.eq_of_beq_eq_true hz
        simp only [hz, cond_true] at he
        split at he
        · rename_i z hz'
          simp only [Option.some.injEq] at he
          subst he
          have hw : within i xs.length := hc _ (by simp)
          have hr := h.cont id _ (hsub _ _ hid)
          simp only [repC] at hr
          obtain ⟨b, arr, e', fr, k1, k2, _, _, k5⟩ := hr
          simp only [repV] at hv
          obtain ⟨b', g1, rfl⟩ := hv
          have hb : b' = b := by
            rcases g1 with g1 | ⟨n, c, g1⟩
            · rw [k1] at g1; cases g1; rfl
            · rw [k1] at g1; cases g1
          subst hb
          obtain ⟨y, hy, hr'⟩ := load_elem (s := s) (P := P) k5 (stands_row k2) hz' hw
          exact ⟨rfl, b', _, y, rfl, by rw [← hsz]; exact hy, hr'⟩
        · cases he
    · cases he
  · rename_i cells off
    split at he
    · rename_i z hz
      simp only [ok1, Option.some.injEq] at he
      subst he
      simp only [repV] at hv
      obtain ⟨b, o, rfl, hr⟩ := hv
      obtain ⟨cs, k1, k2⟩ := tells_of_repAt _ _ _ hr
      obtain ⟨y, hy, hr'⟩ := loadVar_rep (P := P) hz (stands_of_tells h k2) k1
      exact ⟨rfl, b, o + off, y, rfl, hy, hr'⟩
    · cases he
  · cases he

end
end Go.PE
