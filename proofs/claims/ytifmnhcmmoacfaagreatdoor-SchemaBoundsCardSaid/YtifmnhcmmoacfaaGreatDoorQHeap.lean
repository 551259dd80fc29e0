/-
  PE, what blocks of a call's own hold, and how that goes on when one of them changes, is new or is given up.
-/
import Derived.Test.YtifmnhcmmoacfaaGreatDoorQRep
set_option linter.unusedVariables false
set_option linter.unusedSectionVars false
namespace Go.PE

def setF {α : Type} (f : Nat → Option α) (i : Nat) (x : α) : Nat → Option α := fun j => if j = i then some x else f j
@[simp] theorem setF_same {α : Type} (f : Nat → Option α) (i : Nat) (x : α) : setF f i x i = some x := by simp [setF]
theorem setF_other {α : Type} (f : Nat → Option α) {i j : Nat} (x : α) (h : j ≠ i) : setF f i x j = f j := by simp [setF, h]

def thaw (fr : Nat × Nat) (n : Nat) : Prop := ∀ o, o < n → ¬ (fr.1 ≤ o ∧ o < fr.2)

section
variable [Univ]

/-- The block that an id's content is in. -/
def blk (s : Hand) (id : Nat) : C → Option Nat
  | .dead => none
  | .row _ _ _ => match s id with
    | some (.slice (some a) _ (_ + 1)) => some a.block
    | _ => none
  | .tmap _ _ _ => match s id with
    | some (.map (some b)) => some b
    | _ => none
  | .box _ => match s id with
    | some (.pointer (some a)) => some a.block
    | _ => none
  | .arr _ _ => match s id with
    | some (.pointer (some a)) => some a.block
    | _ => none
  | .miter _ _ _ _ => match s id with
    | some (.pointer (some a)) => some a.block
    | _ => none
  | .siter _ _ => match s id with
    | some (.pointer (some a)) => some a.block
    | _ => none

def keyVal : (k : Shape) → El k → Value
  | .int k, x => .int k x
  | .bool, x => .bool x
  | .str, x => .string ⟨List.toArray x⟩
  | _, _ => Go.undef

def repEs (I : Facts) (s : Hand) (k v : Shape) : List (El k × El v) → List MapEntry → Prop
  | [], [] => True
  | p :: r, e :: q => e.key = keyVal k p.1 ∧ repV I s (elV v p.2) e.val ∧ repEs I s k v r q
  | _, _ => False

theorem repEs_mono {I J : Facts} {s t : Hand} (h : I.le J) (g : s.le t) (k v : Shape) : (l : List (El k × El v)) → (es : List MapEntry) → repEs I s k v l es → repEs J t k v l es
  | [], [], _ => trivial
  | p :: r, e :: q, x => ⟨x.1, repV_mono h g _ _ x.2.1, repEs_mono h g k v r q x.2.2⟩
  | [], _ :: _, x => x.elim
  | _ :: _, [], x => x.elim

/-- A row's content in its block. -/
def rowIn (I : Facts) (w : World) (b : Nat) (t : Shape) (xs : List (El t)) (cap fz : Nat) : Prop :=
  ∃ arr e fr, w.heap[b]? = some (.cells arr e fr) ∧ thaw fr arr.size ∧ arr.size = cap * size t ∧
    repDl I (cellsD t xs) (arr.toList.take (xs.length * size t)) ∧ (∀ o v, I b o = some v → o < xs.length * size t) ∧
    (fz = 0 → ∀ o, I b o = none) ∧ (fz = 2 → tells I b 0 (arr.toList.take (xs.length * size t)))

/-- What an id's content stands for. -/
def repC (I : Facts) (s : Hand) (w : World) (id : Nat) : C → Prop
  | .dead => True
  | .box cells => ∃ b arr e fr, s id = some (.pointer (some ⟨b, 0, none⟩)) ∧ w.heap[b]? = some (.cells arr e fr) ∧ thaw fr arr.size ∧ (∀ o, I b o = none) ∧
      repVs I s cells arr.toList
  | .row t xs fz => ∃ base cap, s id = some (.slice base xs.length cap) ∧ xs.length ≤ cap ∧ (cap = 0 ∨ ∃ b, base = some ⟨b, 0, none⟩ ∧ rowIn I w b t xs cap fz)
  | .arr t xs => ∃ b arr e fr, s id = some (.pointer (some ⟨b, 0, none⟩)) ∧ w.heap[b]? = some (.cells arr e fr) ∧ thaw fr arr.size ∧ (∀ o, I b o = none) ∧
      repDl I (cellsD t xs) arr.toList
  | .tmap k v es => ∃ b ens clock, s id = some (.map (some b)) ∧ w.heap[b]? = some (.map ens clock) ∧ repEs I s k v es ens.toList ∧ (ens.toList.map (·.born)).Nodup ∧ ∀ e ∈ ens.toList, e.born < clock
  | .miter m since seen last => ∃ b, s id = some (.pointer (some ⟨b, 0, none⟩)) ∧ w.heap[b]? = some (.mapIter (some m) since seen last)
  | .siter t pos => ∃ b, s id = some (.pointer (some ⟨b, 0, none⟩)) ∧ w.heap[b]? = some (.stringIter ⟨t.toArray⟩ pos)

theorem blk_mono {I : Facts} {s t : Hand} {w : World} {id : Nat} {c : C} (h : repC I s w id c) (g : s.le t) : blk t id c = blk s id c := by
  cases c <;> simp only [repC, blk] at *
  case box cells => obtain ⟨b, arr, e, fr, h1, _⟩ := h; rw [g _ _ h1, h1]
  case row r xs fz => obtain ⟨base, cap, h1, _⟩ := h; rw [g _ _ h1, h1]
  case arr r xs => obtain ⟨b, arr, e, fr, h1, _⟩ := h; rw [g _ _ h1, h1]
  case tmap k v es => obtain ⟨b, ens, clock, h1, _⟩ := h; rw [g _ _ h1, h1]
  case siter r pos => obtain ⟨b, h1, _⟩ := h; rw [g _ _ h1, h1]
  case miter m since seen last => obtain ⟨b, h1, _⟩ := h; rw [g _ _ h1, h1]

theorem repC_keep {I J : Facts} {s t : Hand} {w w' : World} {id : Nat} {c : C} (h : repC I s w id c) (hI : I.le J) (g : s.le t)
    (hb : ∀ b, blk s id c = some b → w'.heap[b]? = w.heap[b]? ∧ ∀ o, J b o = I b o) : repC J t w' id c := by
  cases c <;> simp only [repC, blk] at *
  case box cells =>
    obtain ⟨b, arr, e, fr, h1, h2, h3, h4, h5⟩ := h
    simp only [h1] at hb
    obtain ⟨k1, k2⟩ := hb b rfl
    exact ⟨b, arr, e, fr, g _ _ h1, by rw [k1, h2], h3, fun o => by rw [k2, h4], repVs_mono hI g _ _ h5⟩
  case row r xs fz =>
    obtain ⟨base, cap, h1, h2, h3⟩ := h
    refine ⟨base, cap, g _ _ h1, h2, ?_⟩
    rcases h3 with h3 | ⟨b, rfl, arr, e, fr, k1, k2, k3, k4, k5, k6, k7⟩
    · exact .inl h3
    · cases cap with
      | zero => exact .inl rfl
      | succ cap =>
        simp only [h1] at hb
        obtain ⟨q1, q2⟩ := hb b rfl
        refine .inr ⟨b, rfl, arr, e, fr, by rw [q1, k1], k2, k3, repDl_mono hI _ _ k4, fun o v hv => k5 o v (by rwa [← q2]), fun hz o => by rw [q2, k6 hz], fun hz j v hj => by rw [q2]; exact k7 hz j v hj⟩
  case arr r xs =>
    obtain ⟨b, arr, e, fr, h1, h2, h3, h4, h5⟩ := h
    simp only [h1] at hb
    obtain ⟨k1, k2⟩ := hb b rfl
    exact ⟨b, arr, e, fr, g _ _ h1, by rw [k1, h2], h3, fun o => by rw [k2, h4], repDl_mono hI _ _ h5⟩
  case tmap k v es =>
    obtain ⟨b, ens, clock, h1, h2, h3⟩ := h
    simp only [h1] at hb
    obtain ⟨k1, k2⟩ := hb b rfl
    exact ⟨b, ens, clock, g _ _ h1, by rw [k1, h2], repEs_mono hI g _ _ _ _ h3.1, h3.2⟩
  case siter r pos =>
    obtain ⟨b, h1, h2⟩ := h
    simp only [h1] at hb
    obtain ⟨k1, k2⟩ := hb b rfl
    exact ⟨b, g _ _ h1, by rw [k1, h2]⟩
  case miter m since seen last =>
    obtain ⟨b, h1, h2⟩ := h
    simp only [h1] at hb
    obtain ⟨k1, k2⟩ := hb b rfl
    exact ⟨b, g _ _ h1, by rw [k1, h2]⟩

/-- A call's surroundings: the world it began in, what never changes there, which blocks were handed to it. -/
structure Cx where
  w0 : World
  I0 : Facts
  hid : Nat → Prop

structure WInv (cx : Cx) (I : Facts) (s : Hand) (hp : Nat → Option C) (w : World) : Prop where
  agree : ∀ b o v, I b o = some v → w.cell? ⟨b, o, none⟩ = some v
  cont : ∀ id c, hp id = some c → repC I s w id c
  apart : ∀ i j c d b, hp i = some c → hp j = some d → blk s i c = some b → blk s j d = some b → i = j
  dom : ∀ i v, s i = some v → (hp i).isSome = true
  own : ∀ i c b, hp i = some c → blk s i c = some b → cx.w0.heap.size ≤ b ∨ cx.hid b
  size : cx.w0.heap.size ≤ w.heap.size
  same : ∀ b, b < cx.w0.heap.size → ¬ cx.hid b → w.heap[b]? = cx.w0.heap[b]? ∧ ∀ o, I b o = cx.I0 b o
  le : cx.I0.le I
  os : w.os = cx.w0.os
  tape : w.tape = cx.w0.tape
  out : w.output = cx.w0.output

theorem cell?_of_heap {w w' : World} {a : Addr} (h : w'.heap[a.block]? = w.heap[a.block]?) : w'.cell? a = w.cell? a := by simp [World.cell?, h]

theorem lt_of_getElem? {α : Type} {xs : Array α} {i : Nat} {x : α} (h : xs[i]? = some x) : i < xs.size := (Array.getElem?_eq_some_iff.1 h).1

variable {cx : Cx} {I I' : Facts} {s s' : Hand} {hp : Nat → Option C} {w w' : World}

theorem WInv.fact_lt (h : WInv cx I s hp w) {b o : Nat} {v : Value} (hv : I b o = some v) : b < w.heap.size := by
  have := h.agree b o v hv
  simp only [World.cell?] at this
  split at this
  · rename_i c e f hb; exact lt_of_getElem? hb
  · simp at this

/-- Nothing but numbers drawn. -/
theorem WInv.of_heap (h : WInv cx I s hp w) (hh : w'.heap = w.heap) (h1 : w'.os = w.os) (h2 : w'.tape = w.tape) (h3 : w'.output = w.output) : WInv cx I s hp w' where
  agree b o v hv := by rw [cell?_of_heap (w := w) (by rw [hh])]; exact h.agree b o v hv
  cont id c hc := repC_keep (h.cont id c hc) (Facts.le_refl _) (Hand.le_refl _) fun b _ => ⟨by rw [hh], fun _ => rfl⟩
  apart := h.apart
  dom := h.dom
  own := h.own
  size := by rw [hh]; exact h.size
  same b hb hn := by rw [hh]; exact h.same b hb hn
  le := h.le
  os := by rw [h1, h.os]
  tape := by rw [h2, h.tape]
  out := by rw [h3, h.out]

/-- A content is given up. -/
theorem WInv.kill (h : WInv cx I s hp w) (id : Nat) : WInv cx I s (setF hp id .dead) w where
  agree := h.agree
  cont i c hc := by
    by_cases hi : i = id
    · subst hi; simp at hc; subst hc; simp [repC]
    · rw [setF_other _ _ hi] at hc; exact h.cont i c hc
  apart i j c d b hc hd h1 h2 := by
    by_cases hi : i = id
    · subst hi; simp at hc; subst hc; simp [blk] at h1
    · by_cases hj : j = id
      · subst hj; simp at hd; subst hd; simp [blk] at h2
      · rw [setF_other _ _ hi] at hc; rw [setF_other _ _ hj] at hd; exact h.apart i j c d b hc hd h1 h2
  dom i v hv := by
    by_cases hi : i = id
    · subst hi; simp
    · rw [setF_other _ _ hi]; exact h.dom i v hv
  own i c b hc hb := by
    by_cases hi : i = id
    · subst hi; simp at hc; subst hc; simp [blk] at hb
    · rw [setF_other _ _ hi] at hc; exact h.own i c b hc hb
  size := h.size
  same := h.same
  le := h.le
  os := h.os
  tape := h.tape
  out := h.out

/-- The blocks but one stay. -/
structure But (B : Option Nat) (w w' : World) : Prop where
  size : w.heap.size ≤ w'.heap.size
  heap : ∀ b, B ≠ some b → b < w.heap.size → w'.heap[b]? = w.heap[b]?
  os : w'.os = w.os
  tape : w'.tape = w.tape
  out : w'.output = w.output

/-- An id that owns no block is given a content, in a block that is nobody's. -/
theorem WInv.adopt (h : WInv cx I s hp w) (id : Nat) (c : C) (B : Option Nat) (hold : ∀ c0, hp id = some c0 → blk s id c0 = none)
    (hs : s.le s') (hd : ∀ i v, s' i = some v → i = id ∨ s i = some v) (hB : ∀ b, blk s' id c = some b → B = some b) (hw : But B w w')
    (hle : I.le I') (hI : ∀ b, B ≠ some b → ∀ o, I' b o = I b o)
    (hag : ∀ b o v, B = some b → I' b o = some v → w'.cell? ⟨b, o, none⟩ = some v)
    (hfree : ∀ b, B = some b → ∀ i c0, hp i = some c0 → blk s i c0 ≠ some b)
    (hown : ∀ b, B = some b → cx.w0.heap.size ≤ b ∨ cx.hid b) (hc : repC I' s' w' id c) : WInv cx I' s' (setF hp id c) w' := by
  have hblk : ∀ i c0 b, hp i = some c0 → blk s i c0 = some b → B ≠ some b := fun i c0 b h1 h2 hb => hfree b hb i c0 h1 h2
  have hlt : ∀ i c0 b, hp i = some c0 → blk s i c0 = some b → b < w.heap.size := by
    intro i c0 b h1 h2
    have hr := h.cont i c0 h1
    cases c0 <;> simp only [repC, blk] at hr h2
    case dead => simp at h2
    case box cells => obtain ⟨b', arr, e, fr, k1, k2, _⟩ := hr; simp [k1] at h2; subst h2; exact lt_of_getElem? k2
    case row r xs fz =>
      obtain ⟨base, cap, k1, k2, k3⟩ := hr
      rcases k3 with rfl | ⟨b', rfl, arr, e, fr, q, _⟩
      · simp [k1] at h2
      · cases cap with
        | zero => simp [k1] at h2
        | succ cap => simp [k1] at h2; subst h2; exact lt_of_getElem? q
    case arr r xs => obtain ⟨b', arr, e, fr, k1, k2, _⟩ := hr; simp [k1] at h2; subst h2; exact lt_of_getElem? k2
    case tmap k v es => obtain ⟨b', ens, clock, k1, k2, _⟩ := hr; simp [k1] at h2; subst h2; exact lt_of_getElem? k2
    case siter r pos => obtain ⟨b', k1, k2⟩ := hr; simp [k1] at h2; subst h2; exact lt_of_getElem? k2
    case miter m since seen last => obtain ⟨b', k1, k2⟩ := hr; simp [k1] at h2; subst h2; exact lt_of_getElem? k2
  have hkeep : ∀ i c0, i ≠ id → hp i = some c0 → repC I' s' w' i c0 ∧ blk s' i c0 = blk s i c0 := by
    intro i c0 hi h1
    refine ⟨repC_keep (h.cont i c0 h1) hle hs fun b hb => ?_, blk_mono (h.cont i c0 h1) hs⟩
    have hne := hblk i c0 b h1 hb
    exact ⟨hw.heap b hne (hlt i c0 b h1 hb), hI b hne⟩
  constructor
  case agree =>
    intro b o v hv
    by_cases hb : B = some b
    · exact hag b o v hb hv
    · rw [hI b hb] at hv
      rw [cell?_of_heap (w := w) (hw.heap b hb (h.fact_lt hv))]
      exact h.agree b o v hv
  case cont =>
    intro i c0 h1
    by_cases hi : i = id
    · subst hi; simp at h1; subst h1; exact hc
    · rw [setF_other _ _ hi] at h1; exact (hkeep i c0 hi h1).1
  case apart =>
    intro i j c1 c2 b h1 h2 k1 k2
    by_cases hi : i = id
    · by_cases hj : j = id
      · rw [hi, hj]
      · rw [setF_other _ _ hj] at h2
        rw [(hkeep j c2 hj h2).2] at k2
        subst hi; simp at h1; subst h1
        exact absurd (hB b k1) (hblk j c2 b h2 k2)
    · rw [setF_other _ _ hi] at h1
      rw [(hkeep i c1 hi h1).2] at k1
      by_cases hj : j = id
      · subst hj; simp at h2; subst h2
        exact absurd (hB b k2) (hblk i c1 b h1 k1)
      · rw [setF_other _ _ hj] at h2
        rw [(hkeep j c2 hj h2).2] at k2
        exact h.apart i j c1 c2 b h1 h2 k1 k2
  case dom =>
    intro i v hv
    by_cases hi : i = id
    · subst hi; simp
    · rw [setF_other _ _ hi]
      rcases hd i v hv with h1 | h1
      · exact absurd h1 hi
      · exact h.dom i v h1
  case own =>
    intro i c0 b h1 h2
    by_cases hi : i = id
    · subst hi; simp at h1; subst h1; exact hown b (hB b h2)
    · rw [setF_other _ _ hi] at h1
      rw [(hkeep i c0 hi h1).2] at h2
      exact h.own i c0 b h1 h2
  case size => exact Nat.le_trans h.size hw.size
  case same =>
    intro b hb hn
    have hne : B ≠ some b := by
      intro e
      rcases hown b e with h1 | h1
      · omega
      · exact hn h1
    obtain ⟨k1, k2⟩ := h.same b hb hn
    exact ⟨by rw [hw.heap b hne (Nat.lt_of_lt_of_le hb h.size), k1], fun o => by rw [hI b hne, k2]⟩
  case le => exact Facts.le_trans h.le hle
  case os => rw [hw.os, h.os]
  case tape => rw [hw.tape, h.tape]
  case out => rw [hw.out, h.out]

end
end Go.PE
