/-
  PE, calls: what it means that a function answers with something; ids under other names.
-/
import Derived.Test.YtifmnhcmmoacfaaGreatDoorQOpS
set_option linter.unusedVariables false
set_option linter.unusedSectionVars false
set_option linter.unusedSimpArgs false
namespace Go.PE

/-- What is laid into the program's variables from the start. -/
class Ground where
  G : Facts

/-- A call that returns. -/
def EndR (R : Value → World → Prop) : Ending → World → Prop
  | .returned v, w => R v w
  | .outgrown, _ => False
  | .panicked _, _ => False

/-- What the act of calling comes to. -/
def Answers (P : Program) (s : Sem Next) (w : World) (R : Value → World → Prop) : Prop :=
  (∃ f args, s.run P w = .ok (.enter f args) w ∧ Calls P f args w (EndR R)) ∨ (∃ v w', s.run P w = .ok (.value v) w' ∧ R v w')

theorem Answers.mono {P : Program} {s : Sem Next} {w : World} {R R' : Value → World → Prop} (h : Answers P s w R) (hr : ∀ v w', R v w' → R' v w') : Answers P s w R' := by
  rcases h with ⟨f, args, h1, h2⟩ | ⟨v, w', h1, h2⟩
  · exact .inl ⟨f, args, h1, h2.mono fun e w' he => by cases e <;> first | exact hr _ _ he | exact he⟩
  · exact .inr ⟨v, w', h1, hr _ _ h2⟩

def entry [UTypes] (k : Nat) : List V → List (Nat × V)
  | [] => []
  | v :: r => (k, v) :: entry (k + 1) r
def entryH [UTypes] (k : Nat) : List C → List (Nat × C)
  | [] => []
  | v :: r => (k, v) :: entryH (k + 1) r

theorem get_entryH [UTypes] : ∀ (l : List C) (k i : Nat), get (entryH k l) i = if k ≤ i then l[i - k]? else none
  | [], k, i => by simp [entryH, get]
  | c :: r, k, i => by
    simp only [entryH, get]
    by_cases h : k = i
    · subst h; simp
    · have : Nat.beq k i = false := by
        cases hb : Nat.beq k i with
        | false => rfl
        | true => exact absurd (Nat.eq_of_beq_eq_true hb) h
      rw [this, cond_false, get_entryH r (k + 1) i]
      by_cases h2 : k ≤ i
      · have e : i - k = (i - (k + 1)) + 1 := by omega
        rw [if_pos (by omega), if_pos h2, e, List.getElem?_cons_succ]
      · rw [if_neg (by omega), if_neg h2]

theorem get_entryH0 [UTypes] (l : List C) (i : Nat) : get (entryH 0 l) i = l[i]? := by rw [get_entryH]; simp

theorem get_entry [UTypes] : ∀ (l : List V) (k i : Nat), get (entry k l) i = if k ≤ i then l[i - k]? else none
  | [], k, i => by simp [entry, get]
  | c :: r, k, i => by
    simp only [entry, get]
    by_cases h : k = i
    · subst h; simp
    · have : Nat.beq k i = false := by
        cases hb : Nat.beq k i with
        | false => rfl
        | true => exact absurd (Nat.eq_of_beq_eq_true hb) h
      rw [this, cond_false, get_entry r (k + 1) i]
      by_cases h2 : k ≤ i
      · have e : i - k = (i - (k + 1)) + 1 := by omega
        rw [if_pos (by omega), if_pos h2, e, List.getElem?_cons_succ]
      · rw [if_neg (by omega), if_neg h2]

section
variable [Univ] [UnivOk] [Ground] {cx : Cx} {I I' : Facts} {s s1 s2 : Hand} {hp hpr hp1 hp2 : Nat → Option C} {w w' : World} {P : Program}

/-- A function's answer: whatever the surroundings. -/
def Spec (P : Program) (f : Nat) (args : List V) (ins : List C) (res : V) (outs news : List C) : Prop :=
  ∀ (cx : Cx) (I : Facts) (s : Hand) (w : World) (vs : List Value), Ground.G.le cx.I0 → WInv cx I s (get (entryH 0 ins)) w → repVs I s args vs →
    Answers P (callFunc f vs.toArray) w fun v w' => ∃ I' s', I.le I' ∧ s.le s' ∧ WInv cx I' s' (get (entryH 0 (outs ++ news))) w' ∧ repV I' s' res v

/-! ### Other names for ids -/
mutual
theorem ren_rep {m : List (Nat × Nat)} (hm : ∀ i j, get m i = some j → s2 j = s1 i) : (v v' : V) → ren m v = some v' → ∀ x, repV I s1 v x → repV I s2 v' x
  | .row id, v', h, x, hx => by
    simp only [ren] at h
    split at h
    · rename_i j hj; cases h; simp only [repV] at hx ⊢; rw [hm _ _ hj]; exact hx
    · cases h
  | .ptr id off, v', h, x, hx => by
    simp only [ren] at h
    split at h
    · rename_i j hj; cases h; simp only [repV] at hx ⊢; rw [hm _ _ hj]; exact hx
    · cases h
  | .eptr id sz i off, v', h, x, hx => by
    simp only [ren] at h
    split at h
    · rename_i j hj; cases h; simp only [repV] at hx ⊢; rw [hm _ _ hj]; exact hx
    · cases h
  | .map id, v', h, x, hx => by
    simp only [ren] at h
    split at h
    · rename_i j hj; cases h; simp only [repV] at hx ⊢; rw [hm _ _ hj]; exact hx
    · cases h
  | .agg cs, v', h, x, hx => by
    simp only [ren] at h
    split at h
    · rename_i y hy
      cases h
      simp only [repV] at hx ⊢
      obtain ⟨c, h1, h2⟩ := hx
      exact ⟨c, h1, rens_rep hm cs y hy _ h2⟩
    · cases h
  | .tuple cs, v', h, x, hx => by
    simp only [ren] at h
    split at h
    · rename_i y hy
      cases h
      simp only [repV] at hx ⊢
      obtain ⟨c, h1, h2⟩ := hx
      exact ⟨c, h1, rens_rep hm cs y hy _ h2⟩
    · cases h
  | .fn f a b, v', h, x, hx => by
    simp only [ren] at h
    split at h
    · rename_i y hy
      split at h
      · rename_i z hz
        cases h
        simp only [repV] at hx ⊢
        obtain ⟨p, q, h1, h2, h3⟩ := hx
        exact ⟨p, q, h1, rens_rep hm a y hy _ h2, rens_rep hm b z hz _ h3⟩
      · cases h
    · cases h
  | .iface t v, v', h, x, hx => by
    simp only [ren] at h
    split at h
    · rename_i y hy
      cases h
      simp only [repV] at hx ⊢
      obtain ⟨c, h1, h2⟩ := hx
      exact ⟨c, h1, ren_rep hm v y hy _ h2⟩
    · cases h
  | .pptr cs off, v', h, x, hx => by
    simp only [ren] at h
    split at h
    · rename_i y hy
      cases h
      simp only [repV] at hx ⊢
      obtain ⟨b, o, h1, h2⟩ := hx
      exact ⟨b, o, h1, renAt_rep hm cs y hy b o h2⟩
    · cases h
  | .undef, v', h, x, hx => by simp only [ren, Option.some.injEq] at h; subst h; simp only [repV]
  | .int k n, v', h, x, hx => by simp only [ren, Option.some.injEq] at h; subst h; exact hx
  | .bool b, v', h, x, hx => by simp only [ren, Option.some.injEq] at h; subst h; exact hx
  | .str b, v', h, x, hx => by simp only [ren, Option.some.injEq] at h; subst h; exact hx
  | .nil, v', h, x, hx => by simp only [ren, Option.some.injEq] at h; subst h; exact hx
  | .lst u xs c, v', h, x, hx => by simp only [ren, Option.some.injEq] at h; subst h; simp only [repV] at hx ⊢; exact hx
  | .arr u xs, v', h, x, hx => by simp only [ren, Option.some.injEq] at h; subst h; simp only [repV] at hx ⊢; exact hx
  | .nilptr, v', h, x, hx => by simp only [ren, Option.some.injEq] at h; subst h; exact hx
  | .nilfn, v', h, x, hx => by simp only [ren, Option.some.injEq] at h; subst h; exact hx
  | .nilmap, v', h, x, hx => by simp only [ren, Option.some.injEq] at h; subst h; exact hx
  | .niface, v', h, x, hx => by simp only [ren, Option.some.injEq] at h; subst h; exact hx
  | .err b, v', h, x, hx => by simp only [ren, Option.some.injEq] at h; subst h; simp only [repV] at hx ⊢; exact hx
  | .tb t c, v', h, x, hx => by simp only [ren, Option.some.injEq] at h; subst h; simp only [repV] at hx ⊢; exact hx.2
  | .cnd _ _ _ _, v', h, x, hx => by simp only [ren] at h; cases h
theorem rens_rep {m : List (Nat × Nat)} (hm : ∀ i j, get m i = some j → s2 j = s1 i) : (v v' : List V) → rens m v = some v' → ∀ x, repVs I s1 v x → repVs I s2 v' x
  | [], v', h, x, hx => by
    simp only [rens, Option.some.injEq] at h
    subst h
    cases x with
    | nil => simp only [repVs]
    | cons a b => simp only [repVs] at hx
  | a :: r, v', h, x, hx => by
    simp only [rens] at h
    split at h
    · rename_i y hy
      split at h
      · rename_i z hz
        cases h
        cases x with
        | nil => simp only [repVs] at hx
        | cons u q =>
          simp only [repVs] at hx ⊢
          exact ⟨ren_rep hm a y hy u hx.1, rens_rep hm r z hz q hx.2⟩
      · cases h
    · cases h
theorem renAt_rep {m : List (Nat × Nat)} (hm : ∀ i j, get m i = some j → s2 j = s1 i) : (v v' : List V) → rens m v = some v' → ∀ b o, repAt I s1 b o v → repAt I s2 b o v'
  | [], v', h, b, o, hx => by
    simp only [rens, Option.some.injEq] at h
    subst h
    simp only [repAt]
  | a :: r, v', h, b, o, hx => by
    simp only [rens] at h
    split at h
    · rename_i y hy
      split at h
      · rename_i z hz
        cases h
        simp only [repAt] at hx ⊢
        obtain ⟨⟨u, h1, h2⟩, h3⟩ := hx
        exact ⟨⟨u, h1, ren_rep hm a y hy u h2⟩, renAt_rep hm r z hz b (o + 1) h3⟩
      · cases h
    · cases h
end

theorem repEs_hand {k v : Shape} : ∀ (es : List (El k × El v)) (ens : List MapEntry), repEs I s1 k v es ens → repEs I s2 k v es ens
  | [], [], _ => trivial
  | p :: r, e :: q, h => by
    refine ⟨h.1, ?_, repEs_hand r q h.2.2⟩
    have leaf : ∀ (u : Shape) (x : El u) (y : Value), isUser u = false → repV I s1 (leafV u x) y → repV I s2 (leafV u x) y := by
      intro u x y hu hx
      cases u <;> simp only [leafV, repV] at hx ⊢ <;> first | exact hx | simp [isUser] at hu
    have leaves : ∀ (us : List Shape) (x : Els us) (ys : List Value), (∀ u ∈ us, isUser u = false) → repVs I s1 (leavesV us x) ys → repVs I s2 (leavesV us x) ys := by
      intro us
      induction us with
      | nil => intro x ys _ hx; cases ys <;> simp only [leavesV, repVs] at hx ⊢
      | cons u us ih =>
        intro x ys hu hx
        cases ys with
        | nil => simp only [leavesV, repVs] at hx
        | cons y ys =>
          simp only [leavesV, repVs] at hx ⊢
          exact ⟨leaf u x.1 y (hu u (by simp)) hx.1, ih x.2 ys (fun u' h' => hu u' (by simp [h'])) hx.2⟩
    have hh := h.2.1
    cases v with
    | user n =>
      simp only [elV, repV] at hh ⊢
      obtain ⟨cs, h1, h2⟩ := hh
      exact ⟨cs, h1, leaves _ _ _ (UnivOk.plain n) h2⟩
    | int k => exact leaf (.int k) p.2 e.val rfl hh
    | bool => exact leaf .bool p.2 e.val rfl hh
    | str => exact leaf .str p.2 e.val rfl hh
    | list u => exact leaf (.list u) p.2 e.val rfl hh
  | [], _ :: _, h => h.elim
  | _ :: _, [], h => h.elim

theorem renC_rep {m : List (Nat × Nat)} (hm : ∀ i j, get m i = some j → s2 j = s1 i) {c c' : C} (h : renC m c = some c') {i j : Nat} (hij : get m i = some j) (hc : repC I s1 w i c) : repC I s2 w j c' := by
  cases c <;> simp only [renC, Option.some.injEq] at h
  case box cells =>
    split at h
    · rename_i y hy
      cases h
      simp only [repC] at hc ⊢
      obtain ⟨b, arr, e, fr, h1, h2, h3, h4, h5⟩ := hc
      exact ⟨b, arr, e, fr, by rw [hm _ _ hij, h1], h2, h3, h4, rens_rep hm _ _ hy _ h5⟩
    · cases h
  case row t xs fz => subst h; simp only [repC] at hc ⊢; rw [hm _ _ hij]; exact hc
  case arr t xs => subst h; simp only [repC] at hc ⊢; rw [hm _ _ hij]; exact hc
  case tmap k v es =>
    subst h
    simp only [repC] at hc ⊢
    obtain ⟨b, ens, clock, h1, h2, h3⟩ := hc
    exact ⟨b, ens, clock, by rw [hm _ _ hij, h1], h2, repEs_hand _ _ h3.1, h3.2⟩
  case siter t pos => subst h; simp only [repC] at hc ⊢; rw [hm _ _ hij]; exact hc
  case miter m since seen last => subst h; simp only [repC] at hc ⊢; rw [hm _ _ hij]; exact hc
  case dead => subst h; trivial

theorem renC_blk {m : List (Nat × Nat)} {c c' : C} (h : renC m c = some c') {i j : Nat} (hij : s2 j = s1 i) : blk s2 j c' = blk s1 i c := by
  cases c <;> simp only [renC, Option.some.injEq] at h
  case box cells =>
    split at h
    · cases h; simp only [blk, hij]
    · cases h
  all_goals (subst h; simp only [blk, hij])

/-- The same under other names; ids without a name are let go. -/
theorem WInv.rename (h : WInv cx I s1 hp1 w) {m : List (Nat × Nat)} (inj : ∀ i i' j, get m i = some j → get m i' = some j → i = i')
    (hm : ∀ i j, get m i = some j → s2 j = s1 i) (hc : ∀ j c', hp2 j = some c' → ∃ i c, get m i = some j ∧ hp1 i = some c ∧ renC m c = some c')
    (hd : ∀ j v, s2 j = some v → (hp2 j).isSome = true) : WInv cx I s2 hp2 w where
  agree := h.agree
  cont j c' hj := by
    obtain ⟨i, c, h1, h2, h3⟩ := hc j c' hj
    exact renC_rep hm h3 h1 (h.cont i c h2)
  apart j j' c' d' b hj hj' hb hb' := by
    obtain ⟨i, c, h1, h2, h3⟩ := hc j c' hj
    obtain ⟨i', d, k1, k2, k3⟩ := hc j' d' hj'
    rw [renC_blk h3 (hm _ _ h1)] at hb
    rw [renC_blk k3 (hm _ _ k1)] at hb'
    have := h.apart i i' c d b h2 k2 hb hb'
    subst this
    rw [h1] at k1
    exact Option.some.inj k1
  dom := hd
  own j c' b hj hb := by
    obtain ⟨i, c, h1, h2, h3⟩ := hc j c' hj
    rw [renC_blk h3 (hm _ _ h1)] at hb
    exact h.own i c b h2 hb
  size := h.size
  same := h.same
  le := h.le
  os := h.os
  tape := h.tape
  out := h.out

end
end Go.PE
