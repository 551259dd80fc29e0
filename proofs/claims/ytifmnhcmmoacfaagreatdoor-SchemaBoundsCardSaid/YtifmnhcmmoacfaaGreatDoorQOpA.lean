/-
  PE, what the parts of an operation's evaluation stand for.
-/
import Derived.Test.YtifmnhcmmoacfaaGreatDoorQHeap
import Derived.Laws.Strings
set_option linter.unusedVariables false
set_option linter.unusedSectionVars false
namespace Go.PE

theorem und_some {P : Program} {t : TypeId} {d : TypeDesc} (h : und P t = d) (hd : d ≠ .invalid) : P.underlying t = some d := by
  unfold und at h
  cases hu : P.underlying t with
  | none => rw [hu] at h; exact absurd h.symm hd
  | some x => rw [hu] at h; rw [← h]

theorem tsz_info {P : Program} {t : TypeId} {n : Nat} (h : tsz P t n = true) : ∃ i, P.info? t = some i ∧ i.size = n ∧ P.cellsOf t = n := by
  unfold tsz at h
  cases hi : P.info? t with
  | none => simp [hi] at h
  | some i =>
    simp only [hi] at h
    have := Nat.eq_of_beq_eq_true h
    exact ⟨i, rfl, this, by simp [Program.cellsOf, hi, this]⟩

theorem run_typeInfo' {P : Program} {w : World} {t : TypeId} {i : TypeInfo} (h : P.info? t = some i) : (typeInfo t).run P w = .ok i w := by
  simp [typeInfo, h]

theorem run_sizeOf' {P : Program} {w : World} {t : TypeId} {i : TypeInfo} (h : P.info? t = some i) : (sizeOf t).run P w = .ok i.size w := by
  simp [sizeOf, run_typeInfo' h]

theorem kindEq_eq {a b : IntKind} (h : kindEq a b = true) : a = b := by
  cases a <;> cases b <;> first | rfl | (exact absurd h (by decide))

section
variable [Univ] [UnivOk] {cx : Cx} {I : Facts} {s : Hand} {hp hpr : Nat → Option C} {w : World}

theorem repD_nil (I : Facts) (t : Shape) : repD I (.list ([] : List (El t)).length (cellsD t [])) (.slice none 0 0) := by
  simp only [repD]
  exact ⟨none, 0, rfl, Nat.le_refl _, .inl rfl⟩

theorem castL_eq {t u : Shape} {xs : List (El u)} {ys : List (El t)} (h : castL t u xs = some ys) : ∃ e : u = t, ys = e ▸ xs := by
  unfold castL at h
  split at h
  · rename_i e; exact ⟨e, by simpa using h.symm⟩
  · simp at h

/-- A frozen row, as pure data. -/
theorem row_pure (h : WInv cx I s hp w) {id : Nat} {t : Shape} {xs : List (El t)} (hc : hp id = some (.row t xs 2)) {v : Value} (hv : s id = some v) :
    repD I (.list xs.length (cellsD t xs)) v := by
  have hr := h.cont id _ hc
  simp only [repC] at hr
  obtain ⟨base, cap, h1, h2, h3⟩ := hr
  rw [h1] at hv
  cases hv
  simp only [repD]
  refine ⟨base, cap, rfl, h2, ?_⟩
  rcases h3 with rfl | ⟨b, rfl, arr, e, fr, _, _, _, k4, _, _, k7⟩
  · left
    have : xs = [] := List.length_eq_zero_iff.1 (by omega)
    subst this; rfl
  · exact .inr ⟨b, 0, rfl, repDs_of_tells _ _ 0 k4 (k7 rfl)⟩

theorem listOf_rep (h : WInv cx I s hp w) (hsub : ∀ id c, hpr id = some c → hp id = some c) {t : Shape} {v : V} {xs : List (El t)} (hl : listOf hpr t v = some xs) {x : Value} (hv : repV I s v x) :
    repD I (.list xs.length (cellsD t xs)) x := by
  cases v <;> (try simp only [listOf] at hl) <;> (try (simp at hl; done))
  case nil =>
    cases hl
    simp only [repV] at hv; subst hv
    exact repD_nil I t
  case lst u ys fl =>
    obtain ⟨e, rfl⟩ := castL_eq hl
    subst e
    simp only [repV] at hv
    exact hv.1
  case row id =>
    cases hc : hpr id with
    | none => simp [hc] at hl
    | some c =>
      rw [hc] at hl
      cases c <;> (try simp only at hl) <;> (try (simp at hl; done))
      case row u ys fz =>
        match fz, hl with
        | 2, hl =>
          obtain ⟨e, rfl⟩ := castL_eq hl
          subst e
          simp only [repV] at hv
          exact row_pure h (hsub _ _ hc) hv.1
        | 0, hl => simp at hl
        | 1, hl => simp at hl
        | n + 3, hl => simp at hl

theorem inLeaf_rep (h : WInv cx I s hp w) (hsub : ∀ id c, hpr id = some c → hp id = some c) {t : Shape} {v : V} {x : El t} (hl : inLeaf hpr t v = some x) {y : Value} (hv : repV I s v y) :
    ∃ d, toD t x = [d] ∧ repD I d y := by
  cases t with
  | int k =>
    cases v <;> simp only [inLeaf] at hl <;> try (simp at hl; done)
    case int k' n =>
      cases hk : kindEq k' k with
      | false => simp [hk] at hl
      | true =>
        simp only [hk, cond_true] at hl
        cases hl
        have := kindEq_eq hk
        subst this
        exact ⟨_, rfl, by simpa only [repD, repV] using hv⟩
  | bool =>
    cases v <;> simp only [inLeaf] at hl <;> try (simp at hl; done)
    case bool b => cases hl; exact ⟨_, rfl, by simpa only [repD, repV] using hv⟩
  | str =>
    cases v <;> simp only [inLeaf] at hl <;> try (simp at hl; done)
    case str b => cases hl; exact ⟨_, rfl, by simpa only [repD, repV] using hv⟩
  | list u =>
    simp only [inLeaf] at hl
    exact ⟨_, rfl, listOf_rep h hsub hl hv⟩
  | user n => simp [inLeaf] at hl

theorem inLeaves_rep (h : WInv cx I s hp w) (hsub : ∀ id c, hpr id = some c → hp id = some c) : (ss : List Shape) → (vs : List V) → (x : Els ss) → inLeaves hpr ss vs = some x →
    (ys : List Value) → repVs I s vs ys → repDl I (leavesD ss x) ys
  | [], [], x, _, [], _ => trivial
  | t :: r, v :: vs, x, hl, y :: ys, hv => by
    simp only [inLeaves] at hl
    cases h1 : inLeaf hpr t v with
    | none => simp [h1] at hl
    | some a =>
      cases h2 : inLeaves hpr r vs with
      | none => simp [h1, h2] at hl
      | some b =>
        simp only [h1, h2] at hl
        cases hl
        simp only [repVs] at hv
        obtain ⟨d, hd, hr⟩ := inLeaf_rep h hsub h1 hv.1
        simp only [leavesD, hd, List.singleton_append]
        exact ⟨hr, inLeaves_rep h hsub r vs b h2 ys hv.2⟩
  | [], [], x, _, _ :: _, hv => by simp only [repVs] at hv
  | t :: r, v :: vs, x, hl, [], hv => by simp only [repVs] at hv
  | [], _ :: _, _, hl, _, _ => by simp [inLeaves] at hl
  | _ :: _, [], _, hl, _, _ => by simp [inLeaves] at hl

theorem uD_inn (n : Nat) (x : Els (Univ.fields n)) : Univ.uD n (Univ.inn n x) = leavesD (Univ.fields n) x := by
  rw [UnivOk.deep, UnivOk.back]
theorem toD_user_inn (n : Nat) (x : Els (Univ.fields n)) : toD (.user n) (Univ.inn n x) = leavesD (Univ.fields n) x := uD_inn n x

theorem implode_user (h : WInv cx I s hp w) (hsub : ∀ id c, hpr id = some c → hp id = some c) {n : Nat} {vs : List V} {x : El (.user n)} (hl : implode hpr (.user n) vs = some x) {ys : List Value} (hv : repVs I s vs ys) :
    repDl I (toD (.user n) x) ys := by
  have hl' : (match inLeaves hpr (Univ.fields n) vs with | some x => some (Univ.inn n x) | none => none) = some x := hl
  cases h1 : inLeaves hpr (Univ.fields n) vs with
  | none => rw [h1] at hl'; exact absurd hl' (by simp)
  | some y =>
    rw [h1] at hl'
    have e : Univ.inn n y = x := Option.some.inj hl'
    have k := inLeaves_rep h hsub _ _ _ h1 ys hv
    rw [← toD_user_inn n y] at k
    rw [← e]
    exact k

theorem implode_leaf {u : Shape} {vs : List V} {x : El u} (hu : isUser u = false) (h1 : implode hpr u vs = some x) : ∃ v, vs = [v] ∧ inLeaf hpr u v = some x := by
  cases vs with
  | nil => cases u <;> first | (simp [isUser] at hu; done) | (have h2 : none = some x := h1; cases h2)
  | cons v r => cases r with
    | nil => exact ⟨v, rfl, by cases u <;> first | (simp [isUser] at hu; done) | exact h1⟩
    | cons _ _ => cases u <;> first | (simp [isUser] at hu; done) | (have h2 : none = some x := h1; cases h2)

theorem implode_rep (h : WInv cx I s hp w) (hsub : ∀ id c, hpr id = some c → hp id = some c) {t : Shape} {vs : List V} {x : El t} (hl : implode hpr t vs = some x) {ys : List Value} (hv : repVs I s vs ys) :
    repDl I (toD t x) ys := by
  cases hu : isUser t with
  | false =>
    obtain ⟨v, rfl, h1⟩ := implode_leaf hu hl
    cases ys with
    | nil => simp only [repVs] at hv
    | cons y q =>
      cases q with
      | cons _ _ => simp only [repVs] at hv; exact hv.2.elim
      | nil =>
        simp only [repVs] at hv
        obtain ⟨d, hd, hr⟩ := inLeaf_rep h hsub h1 hv.1
        rw [hd]
        exact ⟨hr, trivial⟩
  | true =>
    cases t <;> first | (simp [isUser] at hu; done) | exact implode_user h hsub hl hv

theorem uD_out (n : Nat) (x : UTypes.UT n) : Univ.uD n x = leavesD (Univ.fields n) (Univ.out n x) := UnivOk.deep n x
theorem toD_user (n : Nat) (x : El (.user n)) : toD (.user n) x = leavesD (Univ.fields n) (Univ.out n x) := uD_out n x

theorem leafV_rep {t : Shape} (ht : isUser t = false) {x : El t} {d : D} (hd : toD t x = [d]) {y : Value} (hy : repD I d y) : repV I s (leafV t x) y := by
  cases t <;> simp only [leafV]
  case int k => cases hd; simpa only [repV, repD] using hy
  case bool => cases hd; simpa only [repV, repD] using hy
  case str => cases hd; simpa only [repV, repD] using hy
  case list u => cases hd; simp only [repV]; exact ⟨hy, by unfold flag; trivial⟩
  case user n => simp [isUser] at ht

theorem leavesV_rep : (ss : List Shape) → (∀ t ∈ ss, isUser t = false) → (x : Els ss) → (ys : List Value) → repDl I (leavesD ss x) ys → repVs I s (leavesV ss x) ys
  | [], _, _, [], _ => by simp only [leavesV, repVs]
  | [], _, _, _ :: _, h => h.elim
  | t :: r, ht, x, ys, h => by
    obtain ⟨d, hd⟩ := toD_one t (ht t (by simp)) x.1
    simp only [leavesD, hd, List.singleton_append] at h
    cases ys with
    | nil => exact h.elim
    | cons y q =>
      simp only [leavesV, repVs]
      exact ⟨leafV_rep (ht t (by simp)) hd h.1, leavesV_rep r (fun t ht' => ht t (by simp [ht'])) x.2 q h.2⟩

theorem explode_rep {t : Shape} {x : El t} {ys : List Value} (h : repDl I (toD t x) ys) : repVs I s (explode t x) ys := by
  have one : ∀ {d : D} {v : V}, repDl I [d] ys → (∀ y, repD I d y → repV I s v y) → repVs I s [v] ys := by
    intro d v h1 h2
    cases ys with
    | nil => exact h1.elim
    | cons y q => cases q with
      | nil => simp only [repVs]; exact ⟨h2 y h1.1, trivial⟩
      | cons _ _ => exact h1.2.elim
  cases t <;> simp only [explode]
  case int k => exact one h fun y hy => by simpa only [repV, repD] using hy
  case bool => exact one h fun y hy => by simpa only [repV, repD] using hy
  case str => exact one h fun y hy => by simpa only [repV, repD] using hy
  case list u => exact one h fun y hy => by simp only [repV]; exact ⟨hy, by unfold flag; trivial⟩
  case user n =>
    exact leavesV_rep _ (UnivOk.plain n) _ _ (toD_user n x ▸ h)

/-- An element's value. -/
def isEl (I : Facts) (t : Shape) (x : El t) (v : Value) : Prop :=
  match isUser t with
  | true => ∃ cs, v = .agg cs ∧ repDl I (toD t x) cs.toList
  | false => repDl I (toD t x) [v]

theorem elV_rep {t : Shape} {x : El t} {v : Value} (h : isEl I t x v) : repV I s (elV t x) v := by
  have one : ∀ {u : V}, repVs I s [u] [v] → repV I s u v := fun h => by simp only [repVs] at h; exact h.1
  cases t <;> simp only [elV]
  case int k => exact one (explode_rep (t := .int k) h)
  case bool => exact one (explode_rep (t := .bool) h)
  case str => exact one (explode_rep (t := .str) h)
  case list u => exact one (explode_rep (t := .list u) h)
  case user n =>
    simp only [isEl, isUser] at h
    obtain ⟨cs, rfl, hd⟩ := h
    simp only [repV]
    exact ⟨cs, rfl, explode_rep (t := .user n) hd⟩

theorem cellsOf_rep {v : V} {x : Value} (h : repV I s v x) (hs : scal v = true ∨ ∃ cs, v = .agg cs) (h1 : scal v = true → x.oneCell' = true) : repVs I s (PE.cellsOf v) x.cells.toList := by
  rcases hs with hs | ⟨cs, rfl⟩
  · have hc : PE.cellsOf v = [v] := by cases v <;> first | rfl | simp [scal] at hs
    have hx : x.cells = #[x] := by have := h1 hs; cases x <;> first | rfl | simp [Value.oneCell'] at this
    rw [hc, hx]
    simp only [repVs]
    exact ⟨h, trivial⟩
  · simp only [repV] at h
    obtain ⟨c, rfl, hc⟩ := h
    exact hc

theorem scal_one {v : V} {x : Value} (h : repV I s v x) (hs : scal v = true) : x.oneCell' = true := by
  cases v <;> simp only [repV] at h <;> try (simp [scal] at hs; done)
  case int => subst h; rfl
  case bool => subst h; rfl
  case str => subst h; rfl
  case nil => subst h; rfl
  case lst => obtain ⟨h, _⟩ := h; simp only [repD] at h; obtain ⟨_, _, rfl, _⟩ := h; rfl
  case row => obtain ⟨_, _, _, _, rfl⟩ := h; rfl
  case ptr => obtain ⟨_, _, rfl⟩ := h; rfl
  case eptr => obtain ⟨_, _, rfl⟩ := h; rfl
  case pptr => obtain ⟨_, _, rfl, _⟩ := h; rfl
  case nilptr => subst h; rfl
  case fn => obtain ⟨_, _, rfl, _⟩ := h; rfl
  case nilfn => subst h; rfl
  case map => obtain ⟨_, _, rfl⟩ := h; rfl
  case nilmap => subst h; rfl
  case iface => obtain ⟨_, rfl, _⟩ := h; rfl
  case niface => subst h; rfl
  case err b =>
    cases b with
    | true => obtain ⟨_, _, rfl⟩ := h.1 rfl; rfl
    | false => rw [h.2 rfl]; rfl
  case tb => rw [h.2]; rfl

end
end Go.PE
