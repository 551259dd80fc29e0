/-
  PE, operations that change nothing: what they yield.
-/
import Derived.Test.YtifmnhcmmoacfaaGreatDoorQOpA
set_option linter.unusedVariables false
set_option linter.unusedSectionVars false
set_option linter.unusedSimpArgs false
namespace Go.PE

/-- What carrying out an operation comes to: a value and a world that R holds of, or a demand for more memory than any machine has. -/
def Out (P : Program) (o : Oper) (a : Act) (w : World) (R : Value → World → Prop) : Prop :=
  ∀ (next : Act → World → Prop) (Q : Exit → Act → World → Prop), True → (∀ v w', R v w' → next (a.put o.dst v) w') →
    (o.wp P a w next Q ∨ (o.asks P a w ∧ LetsOut Q))

theorem Out.value {P : Program} {o : Oper} {a : Act} {w w' : World} {R : Value → World → Prop} {v : Value} (h : (execOp a.eval o).run P w = .ok (.value v) w') (hr : R v w') : Out P o a w R := by
  intro next Q _ hn
  left
  unfold Oper.wp
  rw [h]
  exact hn v w' hr

theorem Out.skip {P : Program} {o : Oper} {a : Act} {w w' : World} {R : Value → World → Prop} (h : (execOp a.eval o).run P w = .ok .skip w') (hr : R Go.undef w') : Out P o a w R := by
  intro next Q _ hn
  left
  unfold Oper.wp
  rw [h]
  exact hn _ w' hr

theorem Out.mono {P : Program} {o : Oper} {a : Act} {w : World} {R R' : Value → World → Prop} (h : Out P o a w R) (hr : ∀ v w', R v w' → R' v w') : Out P o a w R' :=
  fun next Q hl hn => h next Q hl fun v w' r => hn v w' (hr v w' r)

theorem run_value {P : Program} {w w' : World} {s : Sem Value} {v : Value} (h : s.run P w = .ok v w') : (s >>= fun v => pure (Next.value v)).run P w = .ok (.value v) w' := by
  rw [Sem.run_bind, h]; rfl

theorem run_unit {P : Program} {w w' : World} {s : Sem Unit} (h : s.run P w = .ok () w') : (s >>= fun _ => pure Next.skip).run P w = .ok .skip w' := by
  rw [Sem.run_bind, h]; rfl

section
variable [Univ]

def addF : List (Nat × C) → (Nat → Option C) → Nat → Option C
  | [], hp => hp
  | (id, c) :: r, hp => setF (addF r hp) id c

/-- What an operation leaves: what is told of the heap, its value. -/
def Res (cx : Cx) (I : Facts) (s : Hand) (hp : Nat → Option C) (upd : List (Nat × C)) (x : V) (v : Value) (w' : World) : Prop :=
  ∃ I' s', I.le I' ∧ s.le s' ∧ WInv cx I' s' (addF upd hp) w' ∧ repV I' s' x v

variable [UnivOk] {cx : Cx} {I : Facts} {s : Hand} {hp hpr : Nat → Option C} {w : World} {P : Program}

theorem Res.same (h : WInv cx I s hp w) {x : V} {v : Value} (hv : repV I s x v) : Res cx I s hp [] x v w :=
  ⟨I, s, Facts.le_refl _, Hand.le_refl _, h, hv⟩

/-- An operation that yields a value and changes nothing. -/
theorem Out.pure_ (h : WInv cx I s hp w) {o : Oper} {a : Act} {x : V} {v : Value} (he : (execOp a.eval o).run P w = .ok (.value v) w) (hv : repV I s x v) : Out P o a w (Res cx I s hp [] x) :=
  Out.value he (Res.same h hv)

/-- The value of a plain symbolic value. -/
def lit : V → Value
  | .int k n => .int k n
  | .bool b => .bool b
  | .str t => .string ⟨t.toArray⟩
  | .nil => .slice none 0 0
  | .nilptr => .pointer none
  | .nilfn => .nilFunc
  | .nilmap => .map none
  | .niface => .nilIface
  | _ => Go.undef
def isLit : V → Bool
  | .int _ _ => true
  | .bool _ => true
  | .str _ => true
  | .nil => true
  | .nilptr => true
  | .nilfn => true
  | .nilmap => true
  | .niface => true
  | _ => false
theorem lit_rep {x : V} (h : isLit x = true) : repV I s x (lit x) := by
  cases x <;> first | (simp [isLit] at h; done) | simp only [repV, lit]
theorem lit_eq {x : V} (h : isLit x = true) {v : Value} (hv : repV I s x v) : v = lit x := by
  cases x <;> first | (simp [isLit] at h; done) | simpa only [repV, lit] using hv

/-! ### Numbers, strings, bools -/
theorem binOp_same (op : BinOp) (hl : op ≠ .shl) (hr : op ≠ .shr) (t : TypeId) (k : IntKind) (x y : Int) : binOp op t (.int k x) (.int k y) =
    (match op with
    | .add | .sub | .mul => Op.intArith op k x y
    | .quo | .rem => Op.intDiv op k x y
    | .and | .or | .xor | .andNot => Op.intBits op k x y
    | _ => Op.intCmp op x y) := by
  cases op <;> first | (exact absurd rfl hl) | (exact absurd rfl hr) | simp [binOp]

theorem opInt_sound {op : BinOp} {k : IntKind} {x y : Int} {e : Eff} (he : opInt op k x y = some e) (hc : ∀ p ∈ e.conds, p) (t : TypeId) :
    e.upd = [] ∧ isLit e.v = true ∧ (binOp op t (.int k x) (.int k y)).run P w = .ok (lit e.v) w := by
  cases op <;> simp only [opInt, ok1, Option.some.injEq] at he <;> try (simp at he; done)
  all_goals subst he
  all_goals refine ⟨rfl, rfl, ?_⟩
  all_goals rw [binOp_same _ (by simp) (by simp)]
  case quo =>
    have h0 : y ≠ 0 := hc _ (by simp)
    simp only [Op.intDiv, if_neg h0]; rfl
  case rem =>
    have h0 : y ≠ 0 := hc _ (by simp)
    simp only [Op.intDiv, if_neg h0]; rfl
  all_goals rfl

theorem opStr_sound {op : BinOp} {x y : List UInt8} {e : Eff} (he : opStr op x y = some e) (hc : ∀ p ∈ e.conds, p) (t : TypeId) :
    e.upd = [] ∧ isLit e.v = true ∧ (binOp op t (.string ⟨x.toArray⟩) (.string ⟨y.toArray⟩)).run P w = .ok (lit e.v) w := by
  cases op <;> simp only [opStr, ok1, Option.some.injEq] at he <;> try (simp at he; done)
  all_goals subst he
  all_goals refine ⟨rfl, rfl, ?_⟩
  case add =>
    have h0 : x.length + y.length ≤ 140737488355328 := hc _ (by simp)
    have hs : ((ByteArray.mk x.toArray).size + (ByteArray.mk y.toArray).size : Nat) = x.length + y.length := by simp [ByteArray.size]
    have : ¬ ((((ByteArray.mk x.toArray).size + (ByteArray.mk y.toArray).size : Nat) : Int) > IntKind.i64.max) := by rw [hs, IntKind.max_i64]; omega
    simp only [binOp, Op.stringOp, if_neg this, Sem.run_pure, lit]
    congr 2
  all_goals simp [binOp, Op.stringOp, lit]

theorem eqGuard_no {op : BinOp} (h1 : op ≠ .eql) (h2 : op ≠ .neq) (t : TypeId) (x y : Operand) (a b : Value) : eqGuard op t x y a b = pure () := by
  cases op <;> first | (exact absurd rfl h1) | (exact absurd rfl h2) | rfl

theorem shift_sound {k k' : IntKind} {x y : Int} (h : 0 ≤ y) (t : TypeId) :
    (binOp .shl t (.int k x) (.int k' y)).run P w = .ok (.int k (shl k x y)) w ∧ (binOp .shr t (.int k x) (.int k' y)).run P w = .ok (.int k (shr k x y)) w := by
  have : ¬ y < 0 := by omega
  constructor <;> simp only [binOp, Op.shift, if_neg this] <;> rfl

theorem und_iface {t : TypeId} {ms : Array (String × TypeId)} (h : und P t = .interface ms) : P.underlying t = some (.interface ms) := und_some h (by simp)

theorem binOp_eq_of {a b : Value} {t : TypeId} {r : Bool} (h1 : binOp .eql t a b = (Op.equal t a b >>= fun r => pure (.bool r))) (h2 : binOp .neq t a b = (Op.equal t a b >>= fun r => pure (.bool !r)))
    (h : ∀ d, (Op.equalIn (d + 1) t a b).run P w = .ok r w) : (binOp .eql t a b).run P w = .ok (.bool r) w ∧ (binOp .neq t a b).run P w = .ok (.bool !r) w := by
  have he : (Op.equal t a b).run P w = .ok r w := h 9999
  constructor
  · rw [h1, Sem.run_bind, he]; rfl
  · rw [h2, Sem.run_bind, he]; rfl

/-- Two values of an interface type, at least one of them nil, are compared. -/
theorem eq_iface {t : TypeId} {ms : Array (String × TypeId)} (h : P.underlying t = some (.interface ms)) {x y : Operand} {a b : Value} (r : Bool)
    (hab : (a = .nilIface ∧ b = .nilIface ∧ r = true ∧ (isConst x || isConst y) = true) ∨ (a = .nilIface ∧ (∃ d v, b = .iface d v) ∧ r = false) ∨ ((∃ d v, a = .iface d v) ∧ b = .nilIface ∧ r = false)) :
    (do eqGuard .eql t x y a b; binOp .eql t a b).run P w = .ok (.bool r) w ∧ (do eqGuard .neq t x y a b; binOp .neq t a b).run P w = .ok (.bool !r) w := by
  have key : eqGuard .eql t x y a b = pure () ∧ eqGuard .neq t x y a b = pure () ∧ binOp .eql t a b = (Op.equal t a b >>= fun r => pure (.bool r)) ∧ binOp .neq t a b = (Op.equal t a b >>= fun r => pure (.bool !r)) ∧
      ∀ d, (Op.equalIn (d + 1) t a b).run P w = .ok r w := by
    rcases hab with ⟨rfl, rfl, rfl, hc⟩ | ⟨rfl, ⟨d, v, rfl⟩, rfl⟩ | ⟨⟨d, v, rfl⟩, rfl, rfl⟩
    · refine ⟨?_, ?_, rfl, rfl, fun d => ?_⟩
      · cases x <;> cases y <;> first | rfl | (simp [isConst] at hc; done)
      · cases x <;> cases y <;> first | rfl | (simp [isConst] at hc; done)
      · simp only [Op.equalIn, Sem.run_bind, run_underlying h, Result.andThen_ok]; rfl
    · refine ⟨rfl, rfl, rfl, rfl, fun d => ?_⟩
      simp only [Op.equalIn, Sem.run_bind, run_underlying h, Result.andThen_ok]; rfl
    · refine ⟨rfl, rfl, rfl, rfl, fun d => ?_⟩
      simp only [Op.equalIn, Sem.run_bind, run_underlying h, Result.andThen_ok]; rfl
  obtain ⟨g1, g2, g3, g4, g5⟩ := key
  rw [g1, g2]
  exact binOp_eq_of g3 g4 g5

/-- Bools, and slices of which one is nil. -/
theorem eq_of_key {t : TypeId} {x y : Operand} {a b : Value} (r : Bool)
    (key : eqGuard .eql t x y a b = pure () ∧ eqGuard .neq t x y a b = pure () ∧ binOp .eql t a b = (Op.equal t a b >>= fun r => pure (.bool r)) ∧ binOp .neq t a b = (Op.equal t a b >>= fun r => pure (.bool !r)) ∧
      ∀ d, (Op.equalIn (d + 1) t a b).run P w = .ok r w) :
    (do eqGuard .eql t x y a b; binOp .eql t a b).run P w = .ok (.bool r) w ∧ (do eqGuard .neq t x y a b; binOp .neq t a b).run P w = .ok (.bool !r) w := by
  obtain ⟨g1, g2, g3, g4, g5⟩ := key
  rw [g1, g2]
  exact binOp_eq_of g3 g4 g5

theorem eq_bool {t : TypeId} (h : P.underlying t = some .bool) {x y : Operand} (a b : Bool) :
    (do eqGuard .eql t x y (.bool a) (.bool b); binOp .eql t (.bool a) (.bool b)).run P w = .ok (.bool (a == b)) w ∧
    (do eqGuard .neq t x y (.bool a) (.bool b); binOp .neq t (.bool a) (.bool b)).run P w = .ok (.bool !(a == b)) w :=
  eq_of_key _ ⟨rfl, rfl, rfl, rfl, fun d => by simp only [Op.equalIn, Sem.run_bind, run_underlying h, Result.andThen_ok]; rfl⟩

theorem eq_slice {t e : TypeId} (h : P.underlying t = some (.slice e)) {x y : Operand} (b : Option Addr) (n c : Nat) :
    (do eqGuard .eql t x y (.slice b n c) (.slice none 0 0); binOp .eql t (.slice b n c) (.slice none 0 0)).run P w = .ok (.bool b.isNone) w ∧
    (do eqGuard .neq t x y (.slice b n c) (.slice none 0 0); binOp .neq t (.slice b n c) (.slice none 0 0)).run P w = .ok (.bool !b.isNone) w :=
  eq_of_key _ ⟨rfl, rfl, rfl, rfl, fun d => by cases b <;> simp only [Op.equalIn, Sem.run_bind, run_underlying h, Result.andThen_ok] <;> rfl⟩

end
end Go.PE
