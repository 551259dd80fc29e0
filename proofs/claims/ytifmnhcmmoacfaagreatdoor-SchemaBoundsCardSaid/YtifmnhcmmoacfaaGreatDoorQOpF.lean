/-
  PE, operations that write: stores.
-/
import Derived.Test.YtifmnhcmmoacfaaGreatDoorQOpE
import Derived.Laws.CopyRow
set_option linter.unusedVariables false
set_option linter.unusedSectionVars false
set_option linter.unusedSimpArgs false
namespace Go.PE

theorem run_storeCells_thaw (P : Program) (g o : Nat) (t : TypeId) (fz : Nat × Nat) : ∀ (vs : List Value) (i : Nat) (cur : Array Value) (w : World), w.heap[g]? = some (.cells cur t fz) → thaw fz cur.size → o + i + vs.length ≤ cur.size → (∀ v ∈ vs, v.oneCell' = true) →
    (storeCells ⟨g, o, none⟩ vs i).run P w = .ok () (w.setRow g (cur.toList.take (o + i) ++ vs ++ cur.toList.drop (o + i + vs.length)).toArray)
  | [], i, cur, w, hg, _, _, _ => by
    simp only [storeCells, List.append_nil, List.length_nil, Nat.add_zero, List.take_append_drop, Array.toArray_toList]
    rw [setRow_self w g cur t fz hg]
    rfl
  | v :: rest, i, cur, w, hg, hfz, hl, h1 => by
    have hi : o + i < cur.size := by simp at hl; omega
    have hadd : (⟨g, o, none⟩ : Addr).add i = ⟨g, o + i, none⟩ := by unfold Addr.add; split <;> simp_all
    have hcell : w.cell? ⟨g, o + i, none⟩ = some cur[o + i] := by simp [World.cell?, hg, hi]
    have hfro : w.frozen? ⟨g, o + i, none⟩ = false := by
      have := hfz (o + i) hi
      obtain ⟨lo, hi'⟩ := fz
      simp only [World.frozen?, hg]
      simp only at this
      cases hd : (decide (lo ≤ o + i) && decide (o + i < hi')) with
      | false => rfl
      | true => simp at hd; exact absurd hd this
    have hst : (store ((⟨g, o, none⟩ : Addr).add i) v).run P w = .ok () (w.setRow g (cur.setIfInBounds (o + i) v)) := by
      rw [hadd, run_store P w _ v _ (h1 v (by simp)), hcell]
      simp [hfro, setCell_eq_setRow w g (o + i) cur t fz v hg]
    have ih := run_storeCells_thaw P g o t fz rest (i + 1) (cur.setIfInBounds (o + i) v) (w.setRow g (cur.setIfInBounds (o + i) v)) (setRow_heap w g cur _ t _ hg) (by simpa using hfz) (by simp at hl ⊢; omega) (fun x hx => h1 x (by simp [hx]))
    simp only [storeCells, Sem.run_bind, hst, Result.andThen_ok, ih, setRow_setRow]
    congr 3
    have e := list_seg_step cur.toList (o + i) v rest (by simp at hl ⊢; omega)
    simpa [Array.toList_setIfInBounds, Nat.add_assoc] using e

theorem but_setRow (w : World) (b : Nat) (cs : Array Value) : But (some b) w (w.setRow b cs) where
  size := by simp
  heap k hk _ := setRow_other w b k cs (fun e => hk (by rw [e]))
  os := rfl
  tape := rfl
  out := rfl

theorem setF_setF {α : Type} (f : Nat → Option α) (i : Nat) (x y : α) : setF (setF f i x) i y = setF f i y := by
  funext j; simp only [setF]; split <;> rfl

section
variable [Univ] [UnivOk] {cx : Cx} {I : Facts} {s : Hand} {hp hpr : Nat → Option C} {w : World} {P : Program}

/-- The block that an id owns gets other cells, its content is told anew. -/
theorem WInv.rewrite (h : WInv cx I s hp w) {id : Nat} {c c' : C} {b : Nat} (hid : hp id = some c) (hb : blk s id c = some b) {w' : World} (hw : But (some b) w w')
    (hblk : ∀ b', blk s id c' = some b' → b' = b) (hI : ∀ o v, I b o = some v → w'.cell? ⟨b, o, none⟩ = some v) (hc : repC I s w' id c') : WInv cx I s (setF hp id c') w' := by
  have h1 := h.kill id
  have := h1.adopt (s' := s) (I' := I) (w' := w') id c' (some b) (fun c0 h0 => by simp at h0; subst h0; rfl) (Hand.le_refl _) (fun i v hv => .inr hv) (fun b' hb' => by rw [hblk b' hb']) hw
    (Facts.le_refl _) (fun _ _ _ => rfl) (fun b' o v e hv => by cases e; exact hI o v hv)
    (fun b' e i c0 h0 hb' => by
      cases e
      by_cases hi : i = id
      · subst hi; simp at h0; subst h0; simp [blk] at hb'
      · rw [setF_other _ _ hi] at h0
        exact hi (h.apart i id c0 c b h0 hid hb' hb))
    (fun b' e => by cases e; exact h.own id c b hid hb) hc
  rwa [setF_setF] at this

theorem repVs_put {I : Facts} {s : Hand} : ∀ (cells : List V) (arr : List Value) (off : Nat) (cs : List V) (ys : List Value), repVs I s cells arr → repVs I s cs ys → off + cs.length ≤ cells.length →
    repVs I s (putN cells off cs) (arr.take off ++ ys ++ arr.drop (off + ys.length))
  | cells, arr, 0, [], ys, h, hy, _ => by
    cases ys with
    | nil => simpa [putN] using h
    | cons _ _ => simp only [repVs] at hy
  | [], arr, 0, c :: cs, ys, h, hy, hl => by simp at hl
  | x :: cells, arr, 0, c :: cs, ys, h, hy, hl => by
    cases arr with
    | nil => simp only [repVs] at h
    | cons v arr =>
      cases ys with
      | nil => simp only [repVs] at hy
      | cons y ys =>
        simp only [repVs] at h hy
        have := repVs_put cells arr 0 cs ys h.2 hy.2 (by simp at hl ⊢; omega)
        simp only [putN, List.take_zero, List.nil_append, List.cons_append, Nat.zero_add, List.length_cons, List.drop_succ_cons] at this ⊢
        simp only [repVs]
        exact ⟨hy.1, this⟩
  | [], arr, n + 1, cs, ys, h, hy, hl => by simp at hl
  | x :: cells, arr, n + 1, cs, ys, h, hy, hl => by
    cases arr with
    | nil => simp only [repVs] at h
    | cons v arr =>
      simp only [repVs] at h
      have := repVs_put cells arr n cs ys h.2 hy (by simp at hl ⊢; omega)
      have e : n + 1 + ys.length = (n + ys.length) + 1 := by omega
      simp only [putN, List.take_succ_cons, List.cons_append, e, List.drop_succ_cons]
      simp only [repVs]
      exact ⟨h.1, this⟩

theorem scal_cells {x : V} {v : Value} (hv : repV I s x v) (hs : (PE.cellsOf x).all scal = true) : repVs I s (PE.cellsOf x) v.cells.toList ∧ ∀ y ∈ v.cells.toList, y.oneCell' = true := by
  have key : repVs I s (PE.cellsOf x) v.cells.toList := by
    cases hx : scal x with
    | true => exact cellsOf_rep hv (.inl hx) (fun _ => scal_one hv hx)
    | false =>
      cases x <;> first
        | (simp [PE.cellsOf, scal] at hs; done)
        | (simp [scal] at hx; done)
        | exact cellsOf_rep hv (.inr ⟨_, rfl⟩) (fun h => by simp [scal] at h)
  refine ⟨key, fun y hy => ?_⟩
  obtain ⟨j, hj⟩ := List.getElem?_of_mem hy
  have hl := repVs_length _ _ key
  have hlt : j < (PE.cellsOf x).length := by rw [hl]; exact (List.getElem?_eq_some_iff.1 hj).1
  obtain ⟨y', h1, h2⟩ := repVs_get _ _ key j _ (List.getElem?_eq_getElem hlt)
  rw [hj] at h1
  cases h1
  exact scal_one h2 (List.all_eq_true.1 hs _ (List.getElem_mem hlt))

theorem run_storeVar' {t : TypeId} {i : TypeInfo} (hi : P.info? t = some i) {v : Value} (hs : v.cells.toList.length = i.size) {b o : Nat} {e : TypeId} {fr : Nat × Nat} {cur : Array Value}
    (hg : w.heap[b]? = some (.cells cur e fr)) (ht : thaw fr cur.size) (hl : o + v.cells.toList.length ≤ cur.size) (h1 : ∀ y ∈ v.cells.toList, y.oneCell' = true) :
    (storeVar t ⟨b, o, none⟩ v).run P w = .ok () (w.setRow b (cur.toList.take o ++ v.cells.toList ++ cur.toList.drop (o + v.cells.toList.length)).toArray) := by
  have := run_storeCells_thaw P b o e fr v.cells.toList 0 cur w hg ht (by simpa using hl) h1
  have hsz : v.cells.size = i.size := by simpa using hs
  simp only [storeVar, Sem.run_bind, run_sizeOf' hi, Result.andThen_ok, hsz, ne_eq, not_true_eq_false, if_false]
  simpa using this

end
end Go.PE
