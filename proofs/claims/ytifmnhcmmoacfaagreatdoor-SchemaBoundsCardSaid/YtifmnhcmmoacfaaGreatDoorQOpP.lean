/-
  PE, append: the whole operation.
-/
import Derived.Test.YtifmnhcmmoacfaaGreatDoorQOpO
set_option linter.unusedVariables false
set_option linter.unusedSectionVars false
set_option linter.unusedSimpArgs false
namespace Go.PE
section
variable [Univ] [UnivOk] {cx : Cx} {I I' : Facts} {s : Hand} {hp hpr : Nat → Option C} {w w' : World} {P : Program}

/-- A row in a block that is nobody's. -/
theorem rowAt (h : WInv cx I s hp w) {nid b : Nat} (hn : hp nid = none) (hfree : ∀ i c0, hp i = some c0 → blk s i c0 ≠ some b) (hown : cx.w0.heap.size ≤ b ∨ cx.hid b) {t : Shape} {xs : List (El t)} {arr : Array Value} {cap : Nat} {e : TypeId} {fr : Nat × Nat}
    (hw : But (some b) w w') (hg : w'.heap[b]? = some (.cells arr e fr)) (hth : thaw fr arr.size) (hsz : arr.size = cap * size t) (hl : xs.length ≤ cap)
    (hr : repDl I (cellsD t xs) (arr.toList.take (xs.length * size t))) (hI : ∀ o v, I b o = some v → o < xs.length * size t ∧ arr[o]? = some v) {fz : Nat} (hf : fz = 0 → ∀ o, I b o = none) (hf2 : fz ≠ 2) :
    Res cx I s hp [(nid, .row t xs fz)] (.row nid) (.slice (some ⟨b, 0, none⟩) xs.length cap) w' := by
  refine ⟨I, setF s nid (.slice (some ⟨b, 0, none⟩) xs.length cap), Facts.le_refl _, le_setF (h.unknown hn), ?_, ?_⟩
  · refine h.adopt nid _ (some b) (fun c0 h0 => by rw [hn] at h0; cases h0) (le_setF (h.unknown hn)) (fun i u hu => ?_) (fun b' hb => ?_) hw (Facts.le_refl _) (fun _ _ _ => rfl)
      (fun b' o v e hv => by
        cases e
        simp only [World.cell?, hg]
        simpa using (hI o v hv).2)
      (fun b' e i c0 h0 => by cases e; exact hfree i c0 h0) (fun b' e => by cases e; exact hown) ?_
    · by_cases hi : i = nid
      · exact .inl hi
      · rw [setF_other _ _ hi] at hu; exact .inr hu
    · cases cap with
      | zero => simp [blk] at hb
      | succ c => simp [blk] at hb; rw [hb]
    · simp only [repC]
      exact ⟨_, cap, by simp, hl, .inr ⟨b, rfl, arr, e, fr, hg, hth, hsz, hr, (fun o v hv => (hI o v hv).1), hf, (fun h2 => absurd h2 hf2)⟩⟩
  · simp only [repV]
    exact ⟨by simp, _, _, _, rfl⟩

theorem lstAt (h : WInv cx I s hp w) {nid b : Nat} (hn : hp nid = none) (hfree : ∀ i c0, hp i = some c0 → blk s i c0 ≠ some b) (hown : cx.w0.heap.size ≤ b ∨ cx.hid b) {t : Shape} {xs : List (El t)} {arr : Array Value} {cap fl : Nat} {e : TypeId} {fr : Nat × Nat}
    (hw : But (some b) w w') (hg : w'.heap[b]? = some (.cells arr e fr)) (hl : xs.length ≤ cap)
    (hr : repDl I (cellsD t xs) (arr.toList.take (xs.length * size t))) (hI : ∀ o v, I b o = some v → o < xs.length * size t ∧ arr[o]? = some v) (hf : flag fl (.slice (some ⟨b, 0, none⟩) xs.length cap)) :
    Res cx I s hp [(nid, .dead)] (.lst t xs fl) (.slice (some ⟨b, 0, none⟩) xs.length cap) w' := by
  have hle : I.le (withRow I b (arr.toList.take (xs.length * size t))) := by
    intro b' o v hv
    simp only [withRow]
    split
    · rename_i hb
      subst hb
      obtain ⟨q1, q2⟩ := hI o v hv
      rw [List.getElem?_take, if_pos q1]
      simpa using q2
    · exact hv
  refine ⟨withRow I b (arr.toList.take (xs.length * size t)), s, hle, Hand.le_refl _, ?_, ?_⟩
  · refine h.adopt nid .dead (some b) (fun c0 h0 => by rw [hn] at h0; cases h0) (Hand.le_refl _) (fun i v hv => .inr hv) (fun b hb => by simp [blk] at hb) hw hle
      (fun b' hb o => by simp only [withRow]; rw [if_neg (fun e => hb (by rw [e]))]) (fun b' o v e hv => ?_) (fun b' e i c0 h0 => by cases e; exact hfree i c0 h0)
      (fun b' e => by cases e; exact hown) trivial
    cases e
    simp only [withRow, if_true] at hv
    rw [List.getElem?_take] at hv
    split at hv
    · simp only [World.cell?, hg]
      simpa using hv
    · cases hv
  · simp only [repV, repD]
    refine ⟨⟨_, cap, rfl, hl, .inr ⟨_, 0, rfl, repDs_of_tells _ _ 0 (repDl_mono hle _ _ hr) (fun j v hj => ?_)⟩⟩, hf⟩
    simp only [withRow, if_true, Nat.zero_add]
    exact hj

/-- A row with no room at all. -/
theorem emptyRow (h : WInv cx I s hp w) {nid : Nat} (hn : hp nid = none) {t : Shape} {fz : Nat} (base : Option Addr) :
    Res cx I s hp [(nid, .row t ([] : List (El t)) fz)] (.row nid) (.slice base 0 0) w ∧ Res cx I s hp [(nid, .dead)] (.lst t [] 0) (.slice base 0 0) w := by
  constructor
  · refine ⟨I, setF s nid (.slice base 0 0), Facts.le_refl _, le_setF (h.unknown hn), ?_, ?_⟩
    · refine h.adopt nid _ none (fun c0 h0 => by rw [hn] at h0; cases h0) (le_setF (h.unknown hn)) (fun i u hu => ?_) (fun b' hb => by cases base <;> simp [blk] at hb) ⟨Nat.le_refl _, fun _ _ _ => rfl, rfl, rfl, rfl⟩ (Facts.le_refl _) (fun _ _ _ => rfl)
        (fun b' o v e hv => by cases e) (fun b' e => by cases e) (fun b' e => by cases e) ?_
      · by_cases hi : i = nid
        · exact .inl hi
        · rw [setF_other _ _ hi] at hu; exact .inr hu
      · simp only [repC]
        exact ⟨base, 0, by simp, Nat.le_refl _, .inl rfl⟩
    · simp only [repV]
      exact ⟨by simp, _, _, _, rfl⟩
  · refine ⟨I, s, Facts.le_refl _, Hand.le_refl _, ?_, ?_⟩
    · exact h.adopt nid .dead none (fun c0 h0 => by rw [hn] at h0; cases h0) (Hand.le_refl _) (fun i u hu => .inr hu) (fun b' hb => by simp [blk] at hb) ⟨Nat.le_refl _, fun _ _ _ => rfl, rfl, rfl, rfl⟩ (Facts.le_refl _) (fun _ _ _ => rfl)
        (fun b' o v e hv => by cases e) (fun b' e => by cases e) (fun b' e => by cases e) trivial
    · simp only [repV, repD]
      exact ⟨⟨base, 0, rfl, Nat.le_refl _, .inl rfl⟩, by unfold flag; trivial⟩

end
end Go.PE
