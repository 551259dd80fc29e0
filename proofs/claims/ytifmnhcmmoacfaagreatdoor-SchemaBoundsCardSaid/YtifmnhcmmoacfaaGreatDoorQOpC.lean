/-
  PE, operators: every binary and unary one.
-/
import Derived.Test.YtifmnhcmmoacfaaGreatDoorQOpB
import Derived.Laws.StructEq
set_option linter.unusedVariables false
set_option linter.unusedSectionVars false
set_option linter.unusedSimpArgs false
namespace Go.PE
section
variable [Univ] [UnivOk] {cx : Cx} {I : Facts} {s : Hand} {hp hpr : Nat → Option C} {w : World} {P : Program}

theorem run_isAgg_no {t : TypeId} {d : TypeDesc} (h : P.underlying t = some d) (hd : isAggD d = false) : (isAgg t).run P w = .ok false w := by
  cases d <;> first | (simp [isAggD] at hd; done) | (simp only [isAgg, Sem.run_bind, run_underlying h, Result.andThen_ok]; rfl)

theorem run_isAgg_yes {t : TypeId} {d : TypeDesc} (h : P.underlying t = some d) (hd : isAggD d = true) : (isAgg t).run P w = .ok true w := by
  cases d <;> first | (simp [isAggD] at hd; done) | (simp only [isAgg, Sem.run_bind, run_underlying h, Result.andThen_ok]; rfl)

theorem run_part_one {t : TypeId} {d : TypeDesc} (h : P.underlying t = some d) (hd : isAggD d = false) {xs : Array Value} {o : Nat} {v : Value} (hv : xs[o]? = some v) : (part t xs o).run P w = .ok v w := by
  simp only [part, Sem.run_bind, run_isAgg_no h hd, Result.andThen_ok, Bool.false_eq_true, if_false, hv]
  rfl

theorem eqFields_plain (d : Nat) (xs ys : Array Value) : ∀ (fs : List Field) (k : Nat) (as bs : List V) (r : Bool), plainFields P k fs as = true → cellsEq as bs = some r →
    repVs I s as (xs.toList.drop k) → repVs I s bs (ys.toList.drop k) → (Op.eqFields (d + 1) xs ys fs).run P w = .ok r w
  | [], k, as, bs, r, hl, hc, _, _ => by
    cases as with
    | cons a q => simp [plainFields] at hl
    | nil => cases bs with
      | nil => simp [cellsEq] at hc; subst hc; rfl
      | cons b q => simp [cellsEq] at hc
  | f :: fs, k, as, bs, r, hf, hc, ha, hb => by
    cases as with
    | nil => simp [plainFields] at hf
    | cons a q =>
      cases bs with
      | nil => cases a <;> simp [cellsEq] at hc
      | cons b p =>
        have hx : ∃ v, xs.toList.drop k = v :: xs.toList.drop (k + 1) := by
          cases he : xs.toList.drop k with
          | nil => rw [he] at ha; simp only [repVs] at ha
          | cons v l => refine ⟨v, ?_⟩; rw [← List.tail_drop, he]; rfl
        have hy : ∃ v, ys.toList.drop k = v :: ys.toList.drop (k + 1) := by
          cases he : ys.toList.drop k with
          | nil => rw [he] at hb; simp only [repVs] at hb
          | cons v l => refine ⟨v, ?_⟩; rw [← List.tail_drop, he]; rfl
        obtain ⟨v, ev⟩ := hx
        obtain ⟨u, eu⟩ := hy
        have gv : xs[k]? = some v := by
          have : (xs.toList.drop k)[0]? = some v := by rw [ev]; rfl
          simpa using this
        have gu : ys[k]? = some u := by
          have : (ys.toList.drop k)[0]? = some u := by rw [eu]; rfl
          simpa using this
        rw [ev] at ha
        rw [eu] at hb
        simp only [repVs] at ha hb
        simp only [plainFields, Bool.and_eq_true] at hf
        obtain ⟨⟨⟨h1, h2⟩, h3⟩, h4⟩ := hf
        have ho : f.offset = k := Nat.eq_of_beq_eq_true h1
        have hn : f.name ≠ "_" := by simpa using h2
        have rest := eqFields_plain d xs ys fs (k + 1) q p
        have step : ∀ (t : TypeDesc) (e : Bool), P.underlying f.type = some t → isAggD t = false → (Op.equalIn (d + 1) f.type v u).run P w = .ok e w →
            ∀ r', cellsEq q p = some r' → (e && r') = r → (Op.eqFields (d + 1) xs ys (f :: fs)).run P w = .ok r w := by
          intro t e ht hd he r' hr' hrr
          simp only [Op.eqFields, hn, ne_eq, not_false_eq_true, if_true, Sem.run_bind, ho, run_part_one ht hd gv, run_part_one ht hd gu, Result.andThen_ok, he]
          cases e with
          | false => simp at hrr; subst hrr; simp
          | true => simp at hrr; subst hrr; simpa using rest r' h4 hr' ha.2 hb.2
        cases a <;> cases b <;> simp only [cellsEq] at hc <;> try (simp at hc; done)
        case int.int k1 x k2 y =>
          cases hk : kindEq k1 k2 with
          | false => simp [hk] at hc
          | true =>
            have := kindEq_eq hk
            subst this
            simp only [hk, cond_true] at hc
            cases hr : cellsEq q p with
            | none => simp [hr] at hc
            | some r' =>
              simp only [hr, Option.some.injEq] at hc
              have e1 := ha.1; have e2 := hb.1
              simp only [repV] at e1 e2
              subst e1; subst e2
              cases hu : und P f.type <;> simp only [hu] at h3 <;> try (simp at h3; done)
              case int kk => exact step _ (x == y) (und_some hu (by simp)) rfl (run_equalIn_int w d _ _ _ _ _ (und_some hu (by simp))) r' hr hc
        case bool.bool x y =>
          cases hr : cellsEq q p with
          | none => simp [hr] at hc
          | some r' =>
            simp only [hr, Option.some.injEq] at hc
            have e1 := ha.1; have e2 := hb.1
            simp only [repV] at e1 e2
            subst e1; subst e2
            cases hu : und P f.type <;> simp only [hu] at h3 <;> try (simp at h3; done)
            case bool => exact step _ (x == y) (und_some hu (by simp)) rfl (run_equalIn_bool' w d _ _ _ (und_some hu (by simp))) r' hr hc
        case str.str x y =>
          cases hr : cellsEq q p with
          | none => simp [hr] at hc
          | some r' =>
            simp only [hr, Option.some.injEq] at hc
            have e1 := ha.1; have e2 := hb.1
            simp only [repV] at e1 e2
            subst e1; subst e2
            cases hu : und P f.type <;> simp only [hu] at h3 <;> try (simp at h3; done)
            case string => exact step _ (x == y) (und_some hu (by simp)) rfl (by rw [run_equalIn_string w d _ _ _ (und_some hu (by simp))]; simp) r' hr hc

theorem eqGuardType_plain {t : TypeId} {fs : Array Field} (ht : P.underlying t = some (.struct fs)) : ∀ (d : Nat), (∀ f ∈ fs.toList, P.eqGuardType (d + 1) f.type = false) → P.eqGuardType (d + 2) t = false := by
  intro d h
  simp only [Program.eqGuardType, ht]
  rw [← Array.any_toList]
  simp only [List.any_eq_false, Bool.and_eq_true, not_and]
  intro f hf _
  simpa [Program.eqGuardType] using h f hf

theorem plainFields_guard : ∀ (fs : List Field) (k : Nat) (as : List V), plainFields P k fs as = true → ∀ (d : Nat), ∀ f ∈ fs, P.eqGuardType (d + 1) f.type = false
  | [], _, _, _, _, f, hf => by simp at hf
  | g :: fs, k, as, h, d, f, hf => by
    cases as with
    | nil => simp [plainFields] at h
    | cons a q =>
      simp only [plainFields, Bool.and_eq_true] at h
      obtain ⟨⟨⟨h1, h2⟩, h3⟩, h4⟩ := h
      rcases List.mem_cons.1 hf with rfl | hf
      · cases hu : und P f.type <;> simp only [hu] at h3 <;> first
          | (simp [Program.eqGuardType, und_some hu (by simp)]; done)
          | (cases a <;> simp at h3; done)
          | (simp at h3; done)
      · exact plainFields_guard fs (k + 1) q h4 d f hf

theorem eq_struct {t : TypeId} {x y : Operand} {as bs : List V} {r : Bool} (hp : plainStruct P t as = true) (hc : cellsEq as bs = some r) {va vb : Value} (ha : repV I s (.agg as) va) (hb : repV I s (.agg bs) vb) :
    (do eqGuard .eql t x y va vb; binOp .eql t va vb).run P w = .ok (.bool r) w ∧ (do eqGuard .neq t x y va vb; binOp .neq t va vb).run P w = .ok (.bool !r) w := by
  simp only [repV] at ha hb
  obtain ⟨xs, rfl, ha⟩ := ha
  obtain ⟨ys, rfl, hb⟩ := hb
  simp only [plainStruct, Bool.and_eq_true, Bool.not_eq_true'] at hp
  obtain ⟨h0, h1⟩ := hp
  cases hu : und P t <;> simp only [hu] at h1 <;> try (simp at h1; done)
  case struct fs =>
    have ht := und_some hu (by simp)
    have hfs : P.fieldsOf t = fs := by simp [Program.fieldsOf, ht]
    have hg : P.eqGuardType P.depth t = false := by
      have hd : P.depth = (2 * (P.types.size + Made.depth)) + 2 := rfl
      rw [hd]
      exact eqGuardType_plain ht _ fun f hf => plainFields_guard _ _ _ h1 _ f hf
    have he : (Op.equalIn 10000 t (.agg xs) (.agg ys)).run P w = .ok r w := by
      rw [run_equalIn_struct w 9999 t xs ys (by rw [hfs]; exact ht) h0, hfs]
      exact eqFields_plain 9998 xs ys fs.toList 0 as bs r h1 hc (by simpa using ha) (by simpa using hb)
    constructor
    · rw [Sem.run_bind, run_eqGuard_agg w _ _ _ _ _ _ hg, Result.andThen_ok, run_eql_struct, he]; rfl
    · rw [Sem.run_bind, run_eqGuard_agg w _ _ _ _ _ _ hg, Result.andThen_ok, run_neq_struct, he]; rfl

theorem eq_slice' {t e : TypeId} (h : P.underlying t = some (.slice e)) {x y : Operand} {b : Option Addr} {n c : Nat} {r : Bool} (hr : b.isNone = r) :
    (do eqGuard .eql t x y (.slice b n c) (.slice none 0 0); binOp .eql t (.slice b n c) (.slice none 0 0)).run P w = .ok (.bool r) w ∧
    (do eqGuard .neq t x y (.slice b n c) (.slice none 0 0); binOp .neq t (.slice b n c) (.slice none 0 0)).run P w = .ok (.bool !r) w := by
  subst hr
  exact eq_slice h b n c

theorem opBin_sound {op : BinOp} {t : TypeId} {x y : Operand} {a b : V} {e : Eff} (he : opBin P op t x y a b = some e) (hc : ∀ p ∈ e.conds, p) {va vb : Value} (ha : repV I s a va) (hb : repV I s b vb) :
    e.upd = [] ∧ isLit e.v = true ∧ (do eqGuard op t x y va vb; binOp op t va vb).run P w = .ok (lit e.v) w := by
  have two : ∀ {r : Bool} {o : Option Eff}, ((do eqGuard .eql t x y va vb; binOp .eql t va vb).run P w = .ok (.bool r) w ∧ (do eqGuard .neq t x y va vb; binOp .neq t va vb).run P w = .ok (.bool !r) w) →
      ((op = .eql ∧ e = ⟨.bool r, [], []⟩) ∨ (op = .neq ∧ e = ⟨.bool !r, [], []⟩)) →
      e.upd = [] ∧ isLit e.v = true ∧ (do eqGuard op t x y va vb; binOp op t va vb).run P w = .ok (lit e.v) w := by
    rintro r o ⟨k1, k2⟩ (⟨rfl, rfl⟩ | ⟨rfl, rfl⟩)
    · exact ⟨rfl, rfl, k1⟩
    · exact ⟨rfl, rfl, k2⟩
  unfold opBin at he
  split at he
  · rename_i k n k' m
    simp only [repV] at ha hb
    subst ha; subst hb
    have hg : eqGuard op t x y (.int k n) (.int k' m) = pure () := by cases op <;> rfl
    rw [hg]
    split at he
    · cases he
      exact ⟨rfl, rfl, (shift_sound (k' := k') (hc _ (by simp)) t).1⟩
    · cases he
      exact ⟨rfl, rfl, (shift_sound (k' := k') (hc _ (by simp)) t).2⟩
    · cases hk : kindEq k k' with
      | false => simp [hk] at he
      | true =>
        have := kindEq_eq hk
        subst this
        simp only [hk, cond_true] at he
        exact opInt_sound he hc t
  · rename_i n m
    simp only [repV] at ha hb
    subst ha; subst hb
    have hg : eqGuard op t x y (.string ⟨n.toArray⟩) (.string ⟨m.toArray⟩) = pure () := by cases op <;> rfl
    rw [hg]
    exact opStr_sound he hc t
  · rename_i n m
    simp only [repV] at ha hb
    subst ha; subst hb
    split at he <;> rename_i hu <;> first
      | (cases he; exact two (o := none) (eq_bool (und_some hu (by simp)) n m) (.inl ⟨rfl, rfl⟩))
      | (cases he; exact two (o := none) (eq_bool (und_some hu (by simp)) n m) (.inr ⟨rfl, rfl⟩))
      | (cases he; done)
  · rename_i as bs
    cases hp : plainStruct P t as with
    | false => simp [hp] at he
    | true =>
      simp only [hp, cond_true] at he
      split at he
      · rename_i r hr; cases he; exact two (o := none) (eq_struct hp hr ha hb) (.inl ⟨rfl, rfl⟩)
      · rename_i r hr; cases he; exact two (o := none) (eq_struct hp hr ha hb) (.inr ⟨rfl, rfl⟩)
      · cases he
  · simp only [repV] at ha hb
    subst hb
    obtain ⟨h1, h2⟩ := ha
    simp only [repD] at h1
    obtain ⟨base, cap, rfl, _⟩ := h1
    have hn : base.isNone = false := by simp only [flag] at h2; cases base <;> simp_all
    split at he <;> rename_i hu <;> first
      | (cases he; exact two (o := none) (eq_slice' (und_some hu (by simp)) hn) (.inl ⟨rfl, rfl⟩))
      | (cases he; exact two (o := none) (eq_slice' (und_some hu (by simp)) hn) (.inr ⟨rfl, rfl⟩))
      | (cases he; done)
  · simp only [repV] at ha hb
    subst ha; subst hb
    split at he <;> rename_i hu <;> first
      | (cases he; exact two (o := none) (eq_slice (und_some hu (by simp)) none 0 0) (.inl ⟨rfl, rfl⟩))
      | (cases he; exact two (o := none) (eq_slice (und_some hu (by simp)) none 0 0) (.inr ⟨rfl, rfl⟩))
      | (cases he; done)
  · simp only [repV] at ha hb
    subst ha; subst hb
    cases hk : isConst x || isConst y with
    | false => simp [hk] at he
    | true =>
      simp only [hk, cond_true] at he
      split at he <;> rename_i hu <;> first
        | (cases he; exact two (o := none) (eq_iface (und_some hu (by simp)) true (.inl ⟨rfl, rfl, rfl, hk⟩)) (.inl ⟨rfl, rfl⟩))
        | (cases he; exact two (o := none) (eq_iface (und_some hu (by simp)) true (.inl ⟨rfl, rfl, rfl, hk⟩)) (.inr ⟨rfl, rfl⟩))
        | (cases he; done)
  · rename_i c
    simp only [repV] at ha hb
    subst ha
    cases hk : isConst x with
    | false => simp [hk] at he
    | true =>
      simp only [hk, cond_true] at he
      have hab : ∀ z, ((Value.nilIface = .nilIface ∧ vb = .nilIface ∧ (!c) = true ∧ (isConst x || isConst z) = true) ∨ (Value.nilIface = .nilIface ∧ (∃ d v, vb = .iface d v) ∧ (!c) = false) ∨ ((∃ d v, Value.nilIface = .iface d v) ∧ vb = .nilIface ∧ (!c) = false)) := by
        intro z
        cases c with
        | true => exact .inr (.inl ⟨rfl, hb.1 rfl, rfl⟩)
        | false => exact .inl ⟨rfl, hb.2 rfl, rfl, by simp [hk]⟩
      split at he <;> rename_i hu <;> first
        | (cases he; exact two (o := none) (eq_iface (und_some hu (by simp)) (!c) (hab y)) (.inl ⟨rfl, rfl⟩))
        | (cases he; exact two (o := none) (eq_iface (und_some hu (by simp)) (!c) (hab y)) (.inr ⟨rfl, by simp⟩))
        | (cases he; done)
  · rename_i c
    simp only [repV] at ha hb
    subst hb
    cases hk : isConst y with
    | false => simp [hk] at he
    | true =>
      simp only [hk, cond_true] at he
      have hab : ((va = .nilIface ∧ Value.nilIface = .nilIface ∧ (!c) = true ∧ (isConst x || isConst y) = true) ∨ (va = .nilIface ∧ (∃ d v, Value.nilIface = .iface d v) ∧ (!c) = false) ∨ ((∃ d v, va = .iface d v) ∧ Value.nilIface = .nilIface ∧ (!c) = false)) := by
        cases c with
        | true => exact .inr (.inr ⟨ha.1 rfl, rfl, rfl⟩)
        | false => exact .inl ⟨ha.2 rfl, rfl, rfl, by simp [hk]⟩
      split at he <;> rename_i hu <;> first
        | (cases he; exact two (o := none) (eq_iface (und_some hu (by simp)) (!c) hab) (.inl ⟨rfl, rfl⟩))
        | (cases he; exact two (o := none) (eq_iface (und_some hu (by simp)) (!c) hab) (.inr ⟨rfl, by simp⟩))
        | (cases he; done)
  · simp only [repV] at ha hb
    subst ha
    obtain ⟨z, rfl, _⟩ := hb
    split at he <;> rename_i hu <;> first
      | (cases he; exact two (o := none) (eq_iface (und_some hu (by simp)) false (.inr (.inl ⟨rfl, ⟨_, _, rfl⟩, rfl⟩))) (.inl ⟨rfl, rfl⟩))
      | (cases he; exact two (o := none) (eq_iface (und_some hu (by simp)) false (.inr (.inl ⟨rfl, ⟨_, _, rfl⟩, rfl⟩))) (.inr ⟨rfl, rfl⟩))
      | (cases he; done)
  · simp only [repV] at ha hb
    subst hb
    obtain ⟨z, rfl, _⟩ := ha
    split at he <;> rename_i hu <;> first
      | (cases he; exact two (o := none) (eq_iface (und_some hu (by simp)) false (.inr (.inr ⟨⟨_, _, rfl⟩, rfl, rfl⟩))) (.inl ⟨rfl, rfl⟩))
      | (cases he; exact two (o := none) (eq_iface (und_some hu (by simp)) false (.inr (.inr ⟨⟨_, _, rfl⟩, rfl, rfl⟩))) (.inr ⟨rfl, rfl⟩))
      | (cases he; done)
  · cases he

theorem opUn_sound {op : UnOp} {a : V} {e : Eff} (he : opUn op a = some e) {va : Value} (ha : repV I s a va) :
    e.upd = [] ∧ isLit e.v = true ∧ (Op.unary op va).run P w = .ok (lit e.v) w := by
  unfold opUn at he
  split at he
  all_goals first | (cases he; simp only [repV] at ha; subst ha; exact ⟨rfl, rfl, rfl⟩) | cases he

end
end Go.PE
