/-
  PE, operations that make a block: allocation, boxes, struct literals.
-/
import Derived.Test.YtifmnhcmmoacfaaGreatDoorQOpG
set_option linter.unusedVariables false
set_option linter.unusedSectionVars false
set_option linter.unusedSimpArgs false
namespace Go.PE

theorem foldl_put : ∀ (vs : List Value) (k off : Nat) (cells : Array Value), off + k + vs.length ≤ cells.size →
    ((vs.zipIdx k).foldl (fun (cs : Array Value) (p : Value × Nat) => cs.setIfInBounds (off + p.2) p.1) cells).toList = cells.toList.take (off + k) ++ vs ++ cells.toList.drop (off + k + vs.length)
  | [], k, off, cells, _ => by simp
  | v :: rest, k, off, cells, h => by
    have ih := foldl_put rest (k + 1) off (cells.setIfInBounds (off + k) v) (by simp at h ⊢; omega)
    simp only [List.zipIdx_cons, List.foldl_cons]
    rw [ih]
    have hl : cells.toList.length = cells.size := Array.length_toList
    have e := list_seg_step cells.toList (off + k) v rest (by simp at h ⊢; omega)
    simpa [Array.toList_setIfInBounds, Nat.add_assoc] using e

theorem fill_cons {place : Nat → Option (Nat × Nat)} {cells : Array Value} {i off sz : Nat} {v : Value} {rest : List (Nat × Value)} (hp : place i = some (off, sz)) (hs : v.cells.size = sz) (hl : off + v.cells.size ≤ cells.size) :
    Instr.fill place cells ((i, v) :: rest) = Instr.fill place (cells.toList.take off ++ v.cells.toList ++ cells.toList.drop (off + v.cells.toList.length)).toArray rest := by
  have hc : (decide (v.cells.size ≠ sz) || decide (off + v.cells.size > cells.size)) = false := by simp [hs]; omega
  simp only [Instr.fill, hp]
  rw [if_neg (by simpa using hc)]
  congr 1
  apply Array.ext'
  have := foldl_put v.cells.toList 0 off cells (by simpa using hl)
  rw [← Array.foldl_toList, Array.toList_zipIdx]
  simpa using this

section
variable [Univ] [UnivOk] {cx : Cx} {I I' : Facts} {s : Hand} {hp hpr : Nat → Option C} {w w' : World} {P : Program}

theorem WInv.blk_lt (h : WInv cx I s hp w) {i b : Nat} {c0 : C} (h1 : hp i = some c0) (h2 : blk s i c0 = some b) : b < w.heap.size := by
  have hr := h.cont i c0 h1
  cases c0 <;> simp only [repC, blk] at hr h2
  case dead => simp at h2
  case box cells => obtain ⟨b', arr, e, fr, k1, k2, _⟩ := hr; simp [k1] at h2; subst h2; exact lt_of_getElem? k2
  case row r xs fz =>
    obtain ⟨base, cap, k1, k2, k3⟩ := hr
    rcases k3 with rfl | ⟨b', rfl, arr, e, fr, q, _⟩
    · simp [k1] at h2
    · cases cap with
      | zero => simp [k1] at h2
      | succ cap => simp [k1] at h2; subst h2; exact lt_of_getElem? q
  case arr r xs => obtain ⟨b', arr, e, fr, k1, k2, _⟩ := hr; simp [k1] at h2; subst h2; exact lt_of_getElem? k2
  case tmap k v es => obtain ⟨b', ens, clock, k1, k2, _⟩ := hr; simp [k1] at h2; subst h2; exact lt_of_getElem? k2
  case siter r pos => obtain ⟨b', k1, k2⟩ := hr; simp [k1] at h2; subst h2; exact lt_of_getElem? k2
  case miter m since seen last => obtain ⟨b', k1, k2⟩ := hr; simp [k1] at h2; subst h2; exact lt_of_getElem? k2

theorem WInv.unknown (h : WInv cx I s hp w) {i : Nat} (hn : hp i = none) : s i = none := by
  cases hs : s i with
  | none => rfl
  | some v => have := h.dom i v hs; rw [hn] at this; simp at this

theorem le_setF {s : Hand} {i : Nat} {v : Value} (h : s i = none) : s.le (setF s i v) := by
  intro j u hj
  by_cases hi : j = i
  · subst hi; rw [h] at hj; cases hj
  · rw [setF_other _ _ hi]; exact hj

/-- A new block, told by a new id. -/
theorem WInv.create (h : WInv cx I s hp w) {nid : Nat} (hn : hp nid = none) (v : Value) (c : C) (hw : But (some w.heap.size) w w') (hle : I.le I')
    (hI : ∀ b, b ≠ w.heap.size → ∀ o, I' b o = I b o) (hag : ∀ o u, I' w.heap.size o = some u → w'.cell? ⟨w.heap.size, o, none⟩ = some u)
    (hB : ∀ b, blk (setF s nid v) nid c = some b → b = w.heap.size) (hc : repC I' (setF s nid v) w' nid c) : WInv cx I' (setF s nid v) (setF hp nid c) w' :=
  h.adopt nid c (some w.heap.size) (fun c0 h0 => by rw [hn] at h0; cases h0) (le_setF (h.unknown hn))
    (fun i u hu => by
      by_cases hi : i = nid
      · exact .inl hi
      · rw [setF_other _ _ hi] at hu; exact .inr hu)
    (fun b hb => by rw [hB b hb]) hw hle (fun b hb o => hI b (fun e => hb (by rw [e])) o) (fun b o u e hu => by cases e; exact hag o u hu)
    (fun b e i c0 h0 hb => by cases e; have := h.blk_lt h0 hb; omega) (fun b e => by cases e; exact .inl h.size) hc

theorem WInv.fresh_none (h : WInv cx I s hp w) (o : Nat) : I w.heap.size o = none := by
  cases hv : I w.heap.size o with
  | none => rfl
  | some v => have := h.fact_lt hv; omega

theorem but_alloc (w : World) (o : Obj) : But (some w.heap.size) w (w.alloc o) where
  size := by rw [World.size_alloc]; omega
  heap b hb hlt := by simp only [World.alloc, Array.getElem?_push]; rw [if_neg (by omega)]
  os := rfl
  tape := rfl
  out := rfl

theorem alloc_at (w : World) (o : Obj) : (w.alloc o).heap[w.heap.size]? = some o := by simp [World.alloc, -World.alloc_eq]

theorem thaw_zero (n : Nat) : thaw (0, 0) n := fun o _ h => by omega

theorem constV_rep (v : Value) : repV I s (constV v) v := by
  unfold constV
  split <;> simp only [repV]

theorem constVs_rep : ∀ (l : List Value), repVs I s (l.map constV) l
  | [] => by simp only [List.map_nil, repVs]
  | v :: r => by simp only [List.map_cons, repVs]; exact ⟨constV_rep v, constVs_rep r⟩

theorem run_newVar {t : TypeId} {v : Value} : (newVar t v).run P w = .ok ⟨w.heap.size, 0, none⟩ (w.alloc (.cells v.cells t)) := rfl

/-- A box of cells that is new. -/
theorem WInv.newBox (h : WInv cx I s hp w) {nid : Nat} (hn : hp nid = none) {cells : List V} {arr : Array Value} (hr : repVs I s cells arr.toList) (t : TypeId) :
    Res cx I s hp [(nid, .box cells)] (.ptr nid 0) (.pointer (some ⟨w.heap.size, 0, none⟩)) (w.alloc (.cells arr t)) := by
  refine ⟨I, setF s nid (.pointer (some ⟨w.heap.size, 0, none⟩)), Facts.le_refl _, le_setF (h.unknown hn), ?_, ?_⟩
  · refine h.create hn _ _ (but_alloc _ _) (Facts.le_refl _) (fun _ _ _ => rfl) (fun o u hu => by rw [h.fresh_none] at hu; cases hu) (fun b hb => by simp [blk] at hb; exact hb.symm) ?_
    simp only [repC]
    exact ⟨_, arr, t, (0, 0), by simp, alloc_at _ _, thaw_zero _, h.fresh_none, repVs_mono (Facts.le_refl _) (le_setF (h.unknown hn)) _ _ hr⟩
  · simp only [repV]
    exact ⟨_, by simp, rfl⟩

theorem WInv.newArr (h : WInv cx I s hp w) {nid : Nat} (hn : hp nid = none) {a : Shape} {xs : List (El a)} {arr : Array Value} (hr : repDl I (cellsD a xs) arr.toList) (t : TypeId) :
    Res cx I s hp [(nid, .arr a xs)] (.ptr nid 0) (.pointer (some ⟨w.heap.size, 0, none⟩)) (w.alloc (.cells arr t)) := by
  refine ⟨I, setF s nid (.pointer (some ⟨w.heap.size, 0, none⟩)), Facts.le_refl _, le_setF (h.unknown hn), ?_, ?_⟩
  · refine h.create hn _ _ (but_alloc _ _) (Facts.le_refl _) (fun _ _ _ => rfl) (fun o u hu => by rw [h.fresh_none] at hu; cases hu) (fun b hb => by simp [blk] at hb; exact hb.symm) ?_
    simp only [repC]
    exact ⟨_, arr, t, (0, 0), by simp, alloc_at _ _, thaw_zero _, h.fresh_none, hr⟩
  · simp only [repV]
    exact ⟨_, by simp, rfl⟩

end
end Go.PE
