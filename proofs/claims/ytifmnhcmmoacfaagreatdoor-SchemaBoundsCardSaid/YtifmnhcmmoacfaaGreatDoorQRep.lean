/-
  PE, what symbolic values stand for: relations between symbolic values and the model's values, over facts that never change and handles.
-/
import Derived.Test.YtifmnhcmmoacfaaGreatDoorQCore
import Derived.Orders
import Derived.Laws.Cells
import Derived.Laws.Entries
set_option linter.unusedVariables false
set_option linter.unusedSectionVars false
namespace Go.PE

abbrev Facts := Nat → Nat → Option Value
abbrev Hand := Nat → Option Value

def Facts.le (I I' : Facts) : Prop := ∀ b o v, I b o = some v → I' b o = some v
def Hand.le (s s' : Hand) : Prop := ∀ i v, s i = some v → s' i = some v
theorem Facts.le_refl (I : Facts) : I.le I := fun _ _ _ h => h
theorem Hand.le_refl (s : Hand) : s.le s := fun _ _ h => h
theorem Facts.le_trans {I J K : Facts} (h : I.le J) (h' : J.le K) : I.le K := fun b o v e => h' b o v (h b o v e)
theorem Hand.le_trans {s t u : Hand} (h : s.le t) (h' : t.le u) : s.le u := fun b v e => h' b v (h b v e)

/-! ### Deep data -/
mutual
def repD (I : Facts) : D → Value → Prop
  | .int k n, v => v = .int k n
  | .bool b, v => v = .bool b
  | .str s, v => v = .string ⟨s.toArray⟩
  | .list n cells, v => ∃ base cap, v = .slice base n cap ∧ n ≤ cap ∧ (cells = [] ∨ ∃ b o, base = some ⟨b, o, none⟩ ∧ repDs I b o cells)
def repDs (I : Facts) (b : Nat) : Nat → List D → Prop
  | _, [] => True
  | o, d :: r => (∃ v, I b o = some v ∧ repD I d v) ∧ repDs I b (o + 1) r
end

def repDl (I : Facts) : List D → List Value → Prop
  | [], [] => True
  | d :: r, v :: q => repD I d v ∧ repDl I r q
  | _, _ => False

mutual
theorem repD_mono {I J : Facts} (h : I.le J) : (d : D) → (v : Value) → repD I d v → repD J d v
  | .int _ _, _, e => e
  | .bool _, _, e => e
  | .str _, _, e => e
  | .list n cells, v, e => by
    simp only [repD] at e ⊢
    obtain ⟨base, cap, hv, hc, hx⟩ := e
    refine ⟨base, cap, hv, hc, hx.imp id ?_⟩
    rintro ⟨b, o, hb, hs⟩
    exact ⟨b, o, hb, repDs_mono h b cells o hs⟩
theorem repDs_mono {I J : Facts} (h : I.le J) (b : Nat) : (l : List D) → (o : Nat) → repDs I b o l → repDs J b o l
  | [], _, e => by simp only [repDs]
  | d :: r, o, e => by
    simp only [repDs] at e ⊢
    obtain ⟨⟨v, hv, hd⟩, hr⟩ := e
    exact ⟨⟨v, h b o v hv, repD_mono h d v hd⟩, repDs_mono h b r (o + 1) hr⟩
end

theorem repDl_mono {I J : Facts} (h : I.le J) : (l : List D) → (vs : List Value) → repDl I l vs → repDl J l vs
  | [], [], _ => trivial
  | d :: r, v :: q, e => ⟨repD_mono h d v e.1, repDl_mono h r q e.2⟩
  | [], _ :: _, e => e.elim
  | _ :: _, [], e => e.elim

theorem repDl_length {I : Facts} : (l : List D) → (vs : List Value) → repDl I l vs → l.length = vs.length
  | [], [], _ => rfl
  | d :: r, v :: q, e => by simp [repDl_length r q e.2]
  | [], _ :: _, e => e.elim
  | _ :: _, [], e => e.elim

theorem repDl_append {I : Facts} : (a : List D) → (b : List D) → (x y : List Value) → repDl I a x → repDl I b y → repDl I (a ++ b) (x ++ y)
  | [], b, [], y, _, h => h
  | d :: r, b, v :: q, y, e, h => ⟨e.1, repDl_append r b q y e.2 h⟩
  | [], _, _ :: _, _, e, _ => e.elim
  | _ :: _, _, [], _, e, _ => e.elim

theorem repDl_split {I : Facts} : (a : List D) → (b : List D) → (z : List Value) → repDl I (a ++ b) z →
    repDl I a (z.take a.length) ∧ repDl I b (z.drop a.length)
  | [], b, z, h => by simpa [repDl] using h
  | d :: r, b, [], h => h.elim
  | d :: r, b, v :: q, h => by
    obtain ⟨h1, h2⟩ := h
    have := repDl_split r b q h2
    exact ⟨⟨h1, this.1⟩, this.2⟩

/-- Facts that tell a piece of a row. -/
def tells (I : Facts) (b o : Nat) (cs : List Value) : Prop := ∀ j v, cs[j]? = some v → I b (o + j) = some v

theorem repDs_of_tells {I : Facts} {b : Nat} : (l : List D) → (cs : List Value) → (o : Nat) → repDl I l cs → tells I b o cs → repDs I b o l
  | [], [], _, _, _ => by simp only [repDs]
  | d :: r, v :: q, o, e, h => by
    simp only [repDs]
    exact ⟨⟨v, by simpa using h 0 v rfl, e.1⟩, repDs_of_tells r q (o + 1) e.2 fun j w hj => by
      have := h (j + 1) w (by simpa using hj)
      rwa [show o + (j + 1) = o + 1 + j by omega] at this⟩
  | [], _ :: _, _, e, _ => e.elim
  | _ :: _, [], _, e, _ => e.elim

theorem tells_of_repDs {I : Facts} {b : Nat} : (l : List D) → (o : Nat) → repDs I b o l → ∃ cs, repDl I l cs ∧ tells I b o cs
  | [], o, _ => ⟨[], trivial, fun j v h => by simp at h⟩
  | d :: r, o, h => by
    simp only [repDs] at h
    obtain ⟨⟨v, hv, hd⟩, hr⟩ := h
    obtain ⟨cs, h1, h2⟩ := tells_of_repDs r (o + 1) hr
    refine ⟨v :: cs, ⟨hd, h1⟩, fun j w hj => ?_⟩
    cases j with
    | zero => simp at hj; subst hj; simpa using hv
    | succ j =>
      have := h2 j w (by simpa using hj)
      rwa [show o + 1 + j = o + (j + 1) by omega] at this

/-! ### Symbolic values -/
def flag (fl : Nat) (v : Value) : Prop :=
  match fl, v with
  | 1, .slice _ n c => c = n
  | 2, .slice a _ _ => a.isSome = true
  | _, _ => True

section
variable [Univ]

def cellsD (s : Shape) (xs : List (El s)) : List D := xs.flatMap (toD s)

mutual
def repV (I : Facts) (s : Hand) : V → Value → Prop
  | .undef, _ => True
  | .int k n, v => v = .int k n
  | .bool b, v => v = .bool b
  | .str t, v => v = .string ⟨t.toArray⟩
  | .nil, v => v = .slice none 0 0
  | .lst t xs fl, v => repD I (.list xs.length (cellsD t xs)) v ∧ flag fl v
  | .arr t xs, v => ∃ cs, v = .agg cs ∧ repDl I (cellsD t xs) cs.toList
  | .row id, v => s id = some v ∧ ∃ base n c, v = .slice base n c
  | .agg vs, v => ∃ cs, v = .agg cs ∧ repVs I s vs cs.toList
  | .tuple vs, v => ∃ cs, v = .tuple cs ∧ repVs I s vs cs.toList
  | .ptr id off, v => ∃ b, s id = some (.pointer (some ⟨b, 0, none⟩)) ∧ v = .pointer (some ⟨b, off, none⟩)
  | .eptr id sz i off, v => ∃ b, (s id = some (.pointer (some ⟨b, 0, none⟩)) ∨ ∃ n c, s id = some (.slice (some ⟨b, 0, none⟩) n (c + 1))) ∧
      v = .pointer (some ⟨b, i.toNat * sz + off, none⟩)
  | .pptr cs off, v => ∃ b o, v = .pointer (some ⟨b, o + off, none⟩) ∧ repAt I s b o cs
  | .nilptr, v => v = .pointer none
  | .fn f a c, v => ∃ x y, v = .func (.func f) x y ∧ repVs I s a x.toList ∧ repVs I s c y.toList
  | .nilfn, v => v = .nilFunc
  | .map id, v => ∃ b, s id = some (.map (some b)) ∧ v = .map (some b)
  | .nilmap, v => v = .map none
  | .iface t x, v => ∃ y, v = .iface t y ∧ repV I s x y
  | .niface, v => v = .nilIface
  | .err b, v => (b = true → ∃ t y, v = .iface t y) ∧ (b = false → v = .nilIface)
  | .tb t c, v => s t = some (.bool c) ∧ v = .bool c
  | .cnd t c w x, v => s t = some (.bool c) ∧ (c = w → repV I s x v) ∧ (c ≠ w → v = Go.undef)
def repVs (I : Facts) (s : Hand) : List V → List Value → Prop
  | [], [] => True
  | x :: r, v :: q => repV I s x v ∧ repVs I s r q
  | _, _ => False
def repAt (I : Facts) (s : Hand) (b : Nat) : Nat → List V → Prop
  | _, [] => True
  | o, x :: r => (∃ v, I b o = some v ∧ repV I s x v) ∧ repAt I s b (o + 1) r
end

mutual
theorem repV_mono {I J : Facts} {s t : Hand} (h : I.le J) (g : s.le t) : (x : V) → (v : Value) → repV I s x v → repV J t x v
  | .undef, _, _ => by simp only [repV]
  | .int _ _, _, e => e
  | .bool _, _, e => e
  | .str _, _, e => e
  | .nil, _, e => e
  | .lst s xs fl, v, e => by
    simp only [repV] at e ⊢
    exact ⟨repD_mono h _ v e.1, e.2⟩
  | .arr s xs, v, e => by
    simp only [repV] at e ⊢
    obtain ⟨cs, hv, hc⟩ := e
    exact ⟨cs, hv, repDl_mono h _ _ hc⟩
  | .row id, v, e => by
    simp only [repV] at e ⊢
    exact ⟨g _ _ e.1, e.2⟩
  | .agg vs, v, e => by
    simp only [repV] at e ⊢
    obtain ⟨cs, hv, hc⟩ := e
    exact ⟨cs, hv, repVs_mono h g vs cs.toList hc⟩
  | .tuple vs, v, e => by
    simp only [repV] at e ⊢
    obtain ⟨cs, hv, hc⟩ := e
    exact ⟨cs, hv, repVs_mono h g vs cs.toList hc⟩
  | .ptr id off, v, e => by
    simp only [repV] at e ⊢
    obtain ⟨b, h1, h2⟩ := e
    exact ⟨b, g _ _ h1, h2⟩
  | .eptr id sz i off, v, e => by
    simp only [repV] at e ⊢
    obtain ⟨b, h1, h2⟩ := e
    refine ⟨b, ?_, h2⟩
    rcases h1 with h1 | ⟨n, c, h1⟩
    · exact .inl (g _ _ h1)
    · exact .inr ⟨n, c, g _ _ h1⟩
  | .pptr cs off, v, e => by
    simp only [repV] at e ⊢
    obtain ⟨b, o, hv, hc⟩ := e
    exact ⟨b, o, hv, repAt_mono h g b cs o hc⟩
  | .nilptr, _, e => e
  | .fn f a c, v, e => by
    simp only [repV] at e ⊢
    obtain ⟨x, y, hv, h1, h2⟩ := e
    exact ⟨x, y, hv, repVs_mono h g a x.toList h1, repVs_mono h g c y.toList h2⟩
  | .nilfn, _, e => e
  | .map id, v, e => by
    simp only [repV] at e ⊢
    obtain ⟨b, h1, h2⟩ := e
    exact ⟨b, g _ _ h1, h2⟩
  | .nilmap, _, e => e
  | .iface t x, v, e => by
    simp only [repV] at e ⊢
    obtain ⟨y, hv, hy⟩ := e
    exact ⟨y, hv, repV_mono h g x y hy⟩
  | .niface, _, e => e
  | .err b, v, e => by simp only [repV] at e ⊢; exact e
  | .tb t c, v, e => by
    simp only [repV] at e ⊢
    exact ⟨g _ _ e.1, e.2⟩
  | .cnd t c w x, v, e => by
    simp only [repV] at e ⊢
    exact ⟨g _ _ e.1, fun hc => repV_mono h g x v (e.2.1 hc), e.2.2⟩
theorem repVs_mono {I J : Facts} {s t : Hand} (h : I.le J) (g : s.le t) : (l : List V) → (vs : List Value) → repVs I s l vs → repVs J t l vs
  | [], [], _ => by simp only [repVs]
  | x :: r, v :: q, e => by
    simp only [repVs] at e ⊢
    exact ⟨repV_mono h g x v e.1, repVs_mono h g r q e.2⟩
  | [], _ :: _, e => by simp only [repVs] at e
  | _ :: _, [], e => by simp only [repVs] at e
theorem repAt_mono {I J : Facts} {s t : Hand} (h : I.le J) (g : s.le t) (b : Nat) : (l : List V) → (o : Nat) → repAt I s b o l → repAt J t b o l
  | [], _, _ => by simp only [repAt]
  | x :: r, o, e => by
    simp only [repAt] at e ⊢
    obtain ⟨⟨v, hv, hd⟩, hr⟩ := e
    exact ⟨⟨v, h b o v hv, repV_mono h g x v hd⟩, repAt_mono h g b r (o + 1) hr⟩
end

theorem repVs_length {I : Facts} {s : Hand} : (l : List V) → (vs : List Value) → repVs I s l vs → l.length = vs.length
  | [], [], _ => rfl
  | _ :: r, _ :: q, e => by simp only [repVs] at e; simp [repVs_length r q e.2]
  | [], _ :: _, e => by simp only [repVs] at e
  | _ :: _, [], e => by simp only [repVs] at e

theorem repVs_get {I : Facts} {s : Hand} : (l : List V) → (vs : List Value) → repVs I s l vs → ∀ (j : Nat) (x : V), l[j]? = some x → ∃ v, vs[j]? = some v ∧ repV I s x v
  | [], [], _, j, x, h => by simp at h
  | y :: r, v :: q, e, j, x, h => by
    simp only [repVs] at e
    cases j with
    | zero => simp at h; subst h; exact ⟨v, rfl, e.1⟩
    | succ j => simpa using repVs_get r q e.2 j x (by simpa using h)
  | [], _ :: _, e, _, _, _ => by simp only [repVs] at e
  | _ :: _, [], e, _, _, _ => by simp only [repVs] at e

theorem repVs_of_get {I : Facts} {s : Hand} : (l : List V) → (vs : List Value) → l.length = vs.length →
    (∀ (j : Nat) (x : V) (v : Value), l[j]? = some x → vs[j]? = some v → repV I s x v) → repVs I s l vs
  | [], [], _, _ => by simp only [repVs]
  | y :: r, v :: q, e, h => by
    simp only [repVs]
    exact ⟨h 0 y v rfl rfl, repVs_of_get r q (by simpa using e) fun j x w h1 h2 => h (j + 1) x w (by simpa using h1) (by simpa using h2)⟩
  | [], _ :: _, e, _ => by simp at e
  | _ :: _, [], e, _ => by simp at e

theorem repVs_append {I : Facts} {s : Hand} : (a b : List V) → (x y : List Value) → repVs I s a x → repVs I s b y → repVs I s (a ++ b) (x ++ y)
  | [], b, [], y, _, h => h
  | d :: r, b, v :: q, y, e, h => by
    simp only [repVs] at e
    simp only [List.cons_append, repVs]
    exact ⟨e.1, repVs_append r b q y e.2 h⟩
  | [], _, _ :: _, _, e, _ => by simp only [repVs] at e
  | _ :: _, _, [], _, e, _ => by simp only [repVs] at e

theorem repVs_take {I : Facts} {s : Hand} : (l : List V) → (vs : List Value) → (n : Nat) → repVs I s l vs → repVs I s (l.take n) (vs.take n)
  | [], [], n, _ => by simp [repVs]
  | y :: r, v :: q, 0, e => by simp [repVs]
  | y :: r, v :: q, n + 1, e => by
    simp only [repVs] at e
    simp only [List.take_succ_cons, repVs]
    exact ⟨e.1, repVs_take r q n e.2⟩
  | [], _ :: _, _, e => by simp only [repVs] at e
  | _ :: _, [], _, e => by simp only [repVs] at e

theorem repVs_drop {I : Facts} {s : Hand} : (l : List V) → (vs : List Value) → (n : Nat) → repVs I s l vs → repVs I s (l.drop n) (vs.drop n)
  | [], [], n, _ => by simp [repVs]
  | y :: r, v :: q, 0, e => by simpa using e
  | y :: r, v :: q, n + 1, e => by
    simp only [repVs] at e
    simpa using repVs_drop r q n e.2
  | [], _ :: _, _, e => by simp only [repVs] at e
  | _ :: _, [], _, e => by simp only [repVs] at e

/-! ### Shapes' laws -/
/-- A user's deep data is that of its fields; it is put together and taken apart. -/
def leavesD : (ss : List Shape) → Els ss → List D
  | [], _ => []
  | s :: r, x => toD s x.1 ++ leavesD r x.2

end

def zeroD [Univ] (ss : List Shape) : List D := ss.flatMap fun s => toD s (dflt s)

class UnivOk [Univ] : Prop where
  plain : ∀ n, ∀ s ∈ Univ.fields n, isUser s = false
  deep : ∀ n (x : UTypes.UT n), Univ.uD n x = leavesD (Univ.fields n) (Univ.out n x)
  back : ∀ n (x : Els (Univ.fields n)), Univ.out n (Univ.inn n x) = x
  zero : ∀ n, Univ.uD n (Univ.dft n) = zeroD (Univ.fields n)

section
variable [Univ] [UnivOk]

theorem toD_one : (s : Shape) → isUser s = false → (x : El s) → ∃ d, toD s x = [d]
  | .int k, _, x => ⟨_, rfl⟩
  | .bool, _, x => ⟨_, rfl⟩
  | .str, _, x => ⟨_, rfl⟩
  | .list s, _, x => ⟨_, rfl⟩
  | .user _, h, _ => by simp [isUser] at h

theorem leavesD_length : (ss : List Shape) → (∀ s ∈ ss, isUser s = false) → (x : Els ss) → (leavesD ss x).length = ss.length
  | [], _, _ => rfl
  | s :: r, h, x => by
    obtain ⟨d, hd⟩ := toD_one s (h s (by simp)) x.1
    simp [leavesD, hd, leavesD_length r (fun s hs => h s (by simp [hs])) x.2]

theorem uD_length (n : Nat) (x : UTypes.UT n) : (Univ.uD n x).length = (Univ.fields n).length := by
  rw [UnivOk.deep]
  exact leavesD_length _ (UnivOk.plain n) _

theorem toD_length (s : Shape) (x : El s) : (toD s x).length = size s := by
  cases s with
  | user n => exact uD_length n x
  | _ => rfl

theorem cellsD_length (s : Shape) (xs : List (El s)) : (cellsD s xs).length = xs.length * size s := by
  induction xs with
  | nil => simp [cellsD]
  | cons x r ih => simp only [cellsD, List.flatMap_cons, List.length_append, toD_length, List.length_cons] at *; rw [ih]; rw [Nat.add_mul]; omega

theorem cellsD_append (s : Shape) (a b : List (El s)) : cellsD s (a ++ b) = cellsD s a ++ cellsD s b := by simp [cellsD]

end
end Go.PE
