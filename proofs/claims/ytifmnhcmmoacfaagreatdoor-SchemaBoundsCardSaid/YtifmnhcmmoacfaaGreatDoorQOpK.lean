/-
  PE, new rows: as rows of the call's own, or as facts; slice literals.
-/
import Derived.Test.YtifmnhcmmoacfaaGreatDoorQOpJ
set_option linter.unusedVariables false
set_option linter.unusedSectionVars false
set_option linter.unusedSimpArgs false
namespace Go.PE
section
variable [Univ] [UnivOk] {cx : Cx} {I I' : Facts} {s : Hand} {hp hpr : Nat → Option C} {w w' : World} {P : Program}

theorem WInv.newRow (h : WInv cx I s hp w) {nid : Nat} (hn : hp nid = none) {t : Shape} {xs : List (El t)} {arr : Array Value} {cap : Nat} {e : TypeId} {fr : Nat × Nat}
    (hw : But (some w.heap.size) w w') (hg : w'.heap[w.heap.size]? = some (.cells arr e fr)) (hth : thaw fr arr.size) (hsz : arr.size = cap * PE.size t) (hl : xs.length ≤ cap)
    (hr : repDl I (cellsD t xs) (arr.toList.take (xs.length * PE.size t))) :
    Res cx I s hp [(nid, .row t xs 0)] (.row nid) (.slice (some ⟨w.heap.size, 0, none⟩) xs.length cap) w' := by
  refine ⟨I, setF s nid (.slice (some ⟨w.heap.size, 0, none⟩) xs.length cap), Facts.le_refl _, le_setF (h.unknown hn), ?_, ?_⟩
  · refine h.create hn _ _ hw (Facts.le_refl _) (fun _ _ _ => rfl) (fun o u hu => by rw [h.fresh_none] at hu; cases hu) (fun b hb => ?_) ?_
    · cases cap with
      | zero => simp [blk] at hb
      | succ c => simp [blk] at hb; exact hb.symm
    · simp only [repC]
      exact ⟨_, cap, by simp, hl, .inr ⟨_, rfl, arr, e, fr, hg, hth, hsz, hr, (fun o v hv => by rw [h.fresh_none] at hv; cases hv), fun _ => h.fresh_none, (fun h2 => by cases h2)⟩⟩
  · simp only [repV]
    exact ⟨by simp, _, _, _, rfl⟩

/-- Facts of one more block. -/
def withRow (I : Facts) (b : Nat) (cs : List Value) : Facts := fun b' o => if b' = b then cs[o]? else I b' o

theorem WInv.newLst (h : WInv cx I s hp w) {nid : Nat} (hn : hp nid = none) {t : Shape} {xs : List (El t)} {arr : Array Value} {cap fl : Nat} {e : TypeId} {fr : Nat × Nat}
    (hw : But (some w.heap.size) w w') (hg : w'.heap[w.heap.size]? = some (.cells arr e fr)) (hl : xs.length ≤ cap)
    (hr : repDl I (cellsD t xs) (arr.toList.take (xs.length * PE.size t))) (hf : flag fl (.slice (some ⟨w.heap.size, 0, none⟩) xs.length cap)) :
    Res cx I s hp [(nid, .dead)] (.lst t xs fl) (.slice (some ⟨w.heap.size, 0, none⟩) xs.length cap) w' := by
  have hle : I.le (withRow I w.heap.size (arr.toList.take (xs.length * PE.size t))) := by
    intro b o v hv
    have hb := h.fact_lt hv
    simp only [withRow]
    rw [if_neg (by omega)]
    exact hv
  refine ⟨withRow I w.heap.size (arr.toList.take (xs.length * PE.size t)), s, hle, Hand.le_refl _, ?_, ?_⟩
  · refine h.adopt nid .dead (some w.heap.size) (fun c0 h0 => by rw [hn] at h0; cases h0) (Hand.le_refl _) (fun i v hv => .inr hv) (fun b hb => by simp [blk] at hb) hw hle
      (fun b hb o => by simp only [withRow]; rw [if_neg (fun e => hb (by rw [e]))]) (fun b o v e hv => ?_) (fun b e i c0 h0 hb => by cases e; have := h.blk_lt h0 hb; omega)
      (fun b e => by cases e; exact .inl h.size) trivial
    cases e
    simp only [withRow, if_true] at hv
    rw [List.getElem?_take] at hv
    split at hv
    · simp only [World.cell?, hg]
      simpa using hv
    · cases hv
  · simp only [repV, repD]
    refine ⟨⟨_, cap, rfl, hl, .inr ⟨_, 0, rfl, repDs_of_tells _ _ 0 (repDl_mono hle _ _ hr) (fun j v hj => ?_)⟩⟩, hf⟩
    simp only [withRow, if_true, Nat.zero_add]
    exact hj

/-- A row that the operation has made, handed on as it is asked for. -/
theorem made_sound (h : WInv cx I s hp w) {nid : Nat} (hn : hp nid = none) {dir : Option Dir} {t : Shape} {xs : List (El t)} {conds : List Prop} {ef : Eff} (he : made nid dir t xs 0 [] conds = some ef)
    {arr : Array Value} {cap : Nat} {e : TypeId} {fr : Nat × Nat}
    (hw : But (some w.heap.size) w w') (hg : w'.heap[w.heap.size]? = some (.cells arr e fr)) (hth : thaw fr arr.size) (hsz : arr.size = cap * size t) (hl : xs.length ≤ cap)
    (hr : repDl I (cellsD t xs) (arr.toList.take (xs.length * size t))) :
    Res cx I s hp ef.upd ef.v (.slice (some ⟨w.heap.size, 0, none⟩) xs.length cap) w' := by
  unfold made at he
  split at he
  · simp only [Option.some.injEq] at he
    subst he
    exact h.newLst hn hw hg hl hr (by unfold flag; trivial)
  · simp only [Option.some.injEq] at he
    subst he
    exact h.newRow hn hw hg hth hsz hl hr

theorem fill_elems (h : WInv cx I s hp w) (hsub : ∀ id c, hpr id = some c → hp id = some c) {a : Shape} : ∀ (parts : List (Nat × V)) (vs : List (Nat × Value)) (k : Nat) (xs : List (El a)) (arr : Array Value),
    elems hpr a k parts = some xs → repPs I s parts vs → (k + parts.length) * size a = arr.size →
    ∃ arr', Instr.fill (fun i => some (i * size a, size a)) arr vs = some arr' ∧ arr'.size = arr.size ∧ arr'.toList.take (k * size a) = arr.toList.take (k * size a) ∧ xs.length = parts.length ∧
      repDl I (cellsD a xs) (arr'.toList.drop (k * size a))
  | [], [], k, xs, arr, he, _, hsz => by
    simp only [elems, Option.some.injEq] at he
    subst he
    refine ⟨arr, rfl, rfl, rfl, rfl, ?_⟩
    have : arr.toList.drop (k * size a) = [] := List.drop_of_length_le (by simp at hsz ⊢; omega)
    rw [this]
    trivial
  | (i, x) :: r, (j, v) :: q, k, xs, arr, he, hp, hsz => by
    simp only [repPs] at hp
    obtain ⟨rfl, hx, hq⟩ := hp
    simp only [elems] at he
    cases hik : (Nat.beq i k && solid x) with
    | false => simp [hik] at he
    | true =>
      simp only [hik, cond_true] at he
      simp only [Bool.and_eq_true] at hik
      have := Nat.eq_of_beq_eq_true hik.1
      subst this
      split at he
      · rename_i y hy
        split at he
        · rename_i ys hys
          simp only [Option.some.injEq] at he
          subst he
          have hmul : (i + (r.length + 1)) * size a = i * size a + size a + r.length * size a := by rw [Nat.add_mul, Nat.add_mul]; omega
          simp only [List.length_cons] at hsz
          rw [hmul] at hsz
          have hsol : repVs I s (PE.cellsOf x) v.cells.toList := solid_cells hx hik.2
          have hD := implode_rep h hsub hy hsol
          have hvl := repDl_length _ _ hD
          rw [toD_length] at hvl
          have hlA : arr.toList.length = arr.size := Array.length_toList
          have hlV : v.cells.toList.length = v.cells.size := Array.length_toList
          rw [fill_cons (off := i * size a) (sz := size a) rfl (by omega) (by omega)]
          obtain ⟨arr', g1, g2, g3, g4, g5⟩ := fill_elems h hsub r q (i + 1) ys (arr.toList.take (i * size a) ++ v.cells.toList ++ arr.toList.drop (i * size a + v.cells.toList.length)).toArray hys hq (by
            rw [List.size_toArray, put_length _ _ _ (by omega), hlA, ← hsz, Nat.add_mul, Nat.add_mul]; omega)
          have e1 : (i + 1) * size a = i * size a + size a := by rw [Nat.add_mul]; omega
          have hz : (arr.toList.take (i * size a) ++ v.cells.toList ++ arr.toList.drop (i * size a + v.cells.toList.length)).toArray.size = arr.size := by
            rw [List.size_toArray, put_length _ _ _ (by omega), hlA]
          rw [hz] at g2
          rw [e1] at g3 g5
          have ht : arr'.toList.take (i * size a + size a) = arr.toList.take (i * size a) ++ v.cells.toList := by
            rw [g3]
            have hl2 : (arr.toList.take (i * size a) ++ v.cells.toList).length = i * size a + size a := by simp; omega
            simp only [List.take_append, hl2, Nat.sub_self, List.take_zero, List.append_nil]
            rw [← List.take_append, List.take_of_length_le (by omega)]
          refine ⟨arr', g1, g2, ?_, by simp [g4], ?_⟩
          · have := congrArg (List.take (i * size a)) ht
            rw [List.take_take, Nat.min_eq_left (by omega)] at this
            rw [this, List.take_append_of_le_length (by simp; omega), List.take_take, Nat.min_self]
          · have e2 : arr'.toList.drop (i * size a) = v.cells.toList ++ arr'.toList.drop (i * size a + size a) := by
              have hs := congrArg (List.drop (i * size a)) (List.take_append_drop (i * size a + size a) arr'.toList)
              rw [← hs, ht, List.append_assoc, List.drop_left' (by simp; omega)]
            rw [e2]
            have : cellsD a (y :: ys) = toD a y ++ cellsD a ys := by simp [cellsD]
            rw [this]
            exact repDl_append _ _ _ _ hD g5
        · cases he
      · cases he
  | [], _ :: _, _, _, _, _, hp, _ => hp.elim
  | _ :: _, [], _, _, _, _, hp, _ => hp.elim

theorem run_buildSlice' {t e : TypeId} {n : Nat} {i : TypeInfo} {z : Value} (ht : P.underlying t = some (.slice e)) (hi : P.info? e = some i) (hz : i.zero = some z) (hle : n * i.size ≤ 16777216)
    {vs : Array (Nat × Value)} (w : World) :
    ∃ zs : Array Value, zs.size = n * i.size ∧ (Instr.buildSlice t n vs).run P w = (match Instr.fill (fun j => some (j * i.size, i.size)) zs vs.toList with
      | some cells => Result.ok (.slice (some ⟨w.heap.size, 0, none⟩) n n) (w.alloc (.cells cells e))
      | none => .halt (.stuck "buildSlice: a part of the wrong size") w) := by
  have hgt : ¬ (n * i.size > 2 ^ 24) := by omega
  refine ⟨(Array.range (n * i.size)).map ((if n * i.size = 0 then #[] else z.cells)[· % (if n * i.size = 0 then #[] else z.cells).size]!), by simp, ?_⟩
  simp only [Instr.buildSlice, Sem.run_bind, run_underlying ht, Result.andThen_ok, run_sizeOf' hi, if_neg hgt, Sem.run_ite]
  by_cases h0 : n * i.size = 0
  · simp only [h0, if_true, Sem.run_pure, Result.andThen_ok]
    generalize Instr.fill _ _ _ = r
    cases r <;> rfl
  · simp only [h0, if_false, Sem.run_bind, run_zeroValue' hi hz, Sem.run_pure, Result.andThen_ok]
    generalize Instr.fill _ _ _ = r
    cases r <;> rfl

theorem opBuildSlice_sound (h : WInv cx I s hp w) (hsub : ∀ id c, hpr id = some c → hp id = some c) {nid : Nat} (hn : hp nid = none) {dir : Option Dir} {t : TypeId} {n : Nat} {parts : List (Nat × V)} {ef : Eff}
    (he : opBuildSlice P hpr nid dir t n parts = some ef) {vs : Array (Nat × Value)} (hp' : repPs I s parts vs.toList) :
    ∃ y w', (Instr.buildSlice t n vs).run P w = .ok y w' ∧ Res cx I s hp ef.upd ef.v y w' := by
  unfold opBuildSlice at he
  split at he
  · rename_i e hd
    have ht := und_some hd (by simp)
    split at he
    · rename_i a ha
      cases hz : (tsz P e (size a) && Nat.ble (n * tsize P e) 16777216 && Nat.beq parts.length n && hasZero P e (size a)) with
      | false => simp [hz] at he
      | true =>
        simp only [hz, cond_true] at he
        simp only [Bool.and_eq_true] at hz
        obtain ⟨⟨⟨z1, z2⟩, z3⟩, z4⟩ := hz
        obtain ⟨i, hi, hsz, hco⟩ := tsz_info z1
        have hle := Nat.le_of_ble_eq_true z2
        have hpl := Nat.eq_of_beq_eq_true z3
        have hz0 : ∃ z, i.zero = some z := by
          unfold hasZero at z4
          rw [hi] at z4
          simp only at z4
          split at z4
          · rename_i z hz; exact ⟨z, hz⟩
          · cases z4
        obtain ⟨z, hz0⟩ := hz0
        have htz : tsize P e = i.size := by simp only [tsize]; rw [hco, hsz]
        obtain ⟨zs, q1, q2⟩ := run_buildSlice' (P := P) (n := n) ht hi hz0 (by rw [← htz]; exact hle) (vs := vs) w
        split at he
        · rename_i xs hxs
          obtain ⟨arr', g1, g2, g3, g4, g5⟩ := fill_elems h hsub parts vs.toList 0 xs zs hxs hp' (by rw [hpl, q1, hsz, Nat.zero_add])
          rw [← hsz] at g1
          rw [g1] at q2
          simp only at q2
          have hxn : xs.length = n := by rw [g4, hpl]
          have hA : arr'.size = xs.length * size a := by rw [g2, q1, hsz, hxn]
          have hr : repDl I (cellsD a xs) (arr'.toList.take (xs.length * size a)) := by
            rw [List.take_of_length_le (by rw [← hA]; simp)]
            simpa using g5
          split at he
          · simp only [Option.some.injEq] at he
            subst he
            refine ⟨_, _, q2, ?_⟩
            have := h.newRow hn (but_alloc w (.cells arr' e)) (alloc_at _ _) (thaw_zero _) hA (Nat.le_refl _) hr
            rw [hxn] at this
            exact this
          · simp only [Option.some.injEq] at he
            subst he
            refine ⟨_, _, q2, ?_⟩
            have := h.newLst (fl := 1) hn (but_alloc w (.cells arr' e)) (alloc_at _ _) (Nat.le_refl _) hr (by simp [flag])
            rw [hxn] at this
            exact this
        · cases he
    · cases he
  · cases he

end
end Go.PE
