/-
  PE, what the parts of an operation's evaluation stand for.
-/
import Derived.Test.YtchpeafokjmmeaaGreatDoorQEa
import Derived.Laws.Strings
import Derived.ChangeKeysEq
import Derived.Laws.StructEq
import Derived.Laws.CopyRow
set_option linter.unusedVariables false
set_option linter.unusedSectionVars false
set_option linter.unusedSimpArgs false
namespace Go.PE
theorem z0t {P : Program} {t : TypeId} {d : TypeDesc} (h : und P t = d) (hd : d ≠ .invalid) : P.underlying t = some d := by
  unfold und at h
  cases hu : P.underlying t with
  | none => rw [hu] at h; exact absurd h.symm hd
  | some x => rw [hu] at h; rw [← h]
theorem z4w {P : Program} {t : TypeId} {n : Nat} (h : tsz P t n = true) : ∃ i,P.info? t = some i ∧ i.size = n ∧ P.cellsOf t = n := by
  unfold tsz at h
  cases hi : P.info? t with
  | none => simp [hi] at h
  | some i =>
    simp only [hi] at h
    have := Nat.eq_of_beq_eq_true h
    exact ⟨i,rfl,this,by simp [Program.cellsOf,hi,this]⟩
theorem zcu {P : Program} {w : World} {t : TypeId} {i : TypeInfo} (h : P.info? t = some i) : (typeInfo t).run P w = .ok i w := by
  simp [typeInfo,h]
theorem z1D {P : Program} {w : World} {t : TypeId} {i : TypeInfo} (h : P.info? t = some i) : (sizeOf t).run P w = .ok i.size w := by
  simp [sizeOf,zcu h]
theorem ziH {a b : IntKind} (h : zfD a b = true) : a = b := by
  cases a <;> cases b <;> first | rfl | (exact absurd h (by decide))
section
variable [Univ] [z2U] {cx : Cx} {I : Facts} {s : Hand} {hp hpr : Nat → Option C} {w : World}
theorem zx8 (I : Facts) (t : Shape) : repD I (.list ([] : List (El t)).length (cellsD t [])) (.slice none 0 0) := by
  simp only [repD]
  exact ⟨none,0,rfl,Nat.le_refl _,.inl rfl⟩
theorem zge {t u : Shape} {xs : List (El u)} {ys : List (El t)} (h : ztU t u xs = some ys) : ∃ e : u = t,ys = e ▸ xs := by
  unfold ztU at h
  split at h
  · rename_i e; exact ⟨e,by simpa using h.symm⟩
  · simp at h
theorem zA4 (h : WInv cx I s hp w) {id : Nat} {t : Shape} {xs : List (El t)} (hc : hp id = some (.row t xs 2)) {v : Value} (hv : s id = some v) :
    repD I (.list xs.length (cellsD t xs)) v := by
  have hr := h.cont id _ hc
  simp only [repC] at hr
  obtain ⟨base,cap,h1,h2,h3⟩ := hr
  rw [h1] at hv
  cases hv
  simp only [repD]
  refine ⟨base,cap,rfl,h2,?_⟩
  rcases h3 with rfl | ⟨b,rfl,arr,e,fr,_,_,_,k4,_,_,k7⟩
  · left
    have : xs = [] := List.length_eq_zero_iff.1 (by omega)
    subst this; rfl
  · exact .inr ⟨b,0,rfl,z3O _ _ 0 k4 (k7 rfl)⟩
theorem zn1 (h : WInv cx I s hp w) (hsub : ∀ id c,hpr id = some c → hp id = some c) {t : Shape} {v : V} {xs : List (El t)} (hl : listOf hpr t v = some xs) {x : Value} (hv : repV I s v x) :
    repD I (.list xs.length (cellsD t xs)) x := by
  cases v <;> (try simp only [listOf] at hl) <;> (try (simp at hl; done))
  case nil =>
    cases hl
    simp only [repV] at hv; subst hv
    exact zx8 I t
  case lst u ys fl =>
    obtain ⟨e,rfl⟩ := zge hl
    subst e
    simp only [repV] at hv
    exact hv.1
  case row id =>
    cases hc : hpr id with
    | none => simp [hc] at hl
    | some c =>
      rw [hc] at hl
      cases c <;> (try simp only at hl) <;> (try (simp at hl; done))
      case row u ys fz =>
        match fz,hl with
        | 2,hl =>
          obtain ⟨e,rfl⟩ := zge hl
          subst e
          simp only [repV] at hv
          exact zA4 h (hsub _ _ hc) hv.1
        | 0,hl => simp at hl
        | 1,hl => simp at hl
        | n + 3,hl => simp at hl
theorem ziL (h : WInv cx I s hp w) (hsub : ∀ id c,hpr id = some c → hp id = some c) {t : Shape} {v : V} {x : El t} (hl : zc0 hpr t v = some x) {y : Value} (hv : repV I s v y) :
    ∃ d,toD t x = [d] ∧ repD I d y := by
  cases t with
  | int k =>
    cases v <;> simp only [zc0] at hl <;> try (simp at hl; done)
    case int k' n =>
      cases hk : zfD k' k with
      | false => simp [hk] at hl
      | true =>
        simp only [hk,cond_true] at hl
        cases hl
        have := ziH hk
        subst this
        exact ⟨_,rfl,by simpa only [repD,repV] using hv⟩
  | bool =>
    cases v <;> simp only [zc0] at hl <;> try (simp at hl; done)
    case bool b => cases hl; exact ⟨_,rfl,by simpa only [repD,repV] using hv⟩
  | str =>
    cases v <;> simp only [zc0] at hl <;> try (simp at hl; done)
    case str b => cases hl; exact ⟨_,rfl,by simpa only [repD,repV] using hv⟩
  | list u =>
    simp only [zc0] at hl
    exact ⟨_,rfl,zn1 h hsub hl hv⟩
  | user n => simp [zc0] at hl
theorem zoc (h : WInv cx I s hp w) (hsub : ∀ id c,hpr id = some c → hp id = some c) : (ss : List Shape) → (vs : List V) → (x : Els ss) → zcq hpr ss vs = some x →
    (ys : List Value) → z0v I s vs ys → z1t I (zaL ss x) ys
  | [],[],x,_,[],_ => trivial
  | t :: r,v :: vs,x,hl,y :: ys,hv => by
    simp only [zcq] at hl
    cases h1 : zc0 hpr t v with
    | none => simp [h1] at hl
    | some a =>
      cases h2 : zcq hpr r vs with
      | none => simp [h1,h2] at hl
      | some b =>
        simp only [h1,h2] at hl
        cases hl
        simp only [z0v] at hv
        obtain ⟨d,hd,hr⟩ := ziL h hsub h1 hv.1
        simp only [zaL,hd,List.singleton_append]
        exact ⟨hr,zoc h hsub r vs b h2 ys hv.2⟩
  | [],[],x,_,_ :: _,hv => by simp only [z0v] at hv
  | t :: r,v :: vs,x,hl,[],hv => by simp only [z0v] at hv
  | [],_ :: _,_,hl,_,_ => by simp [zcq] at hl
  | _ :: _,[],_,hl,_,_ => by simp [zcq] at hl
theorem zDD (n : Nat) (x : Els (Univ.fields n)) : Univ.uD n (Univ.inn n x) = zaL (Univ.fields n) x := by
  rw [z2U.deep,z2U.back]
theorem zuy (n : Nat) (x : Els (Univ.fields n)) : toD (.user n) (Univ.inn n x) = zaL (Univ.fields n) x := zDD n x
theorem zuU (h : WInv cx I s hp w) (hsub : ∀ id c,hpr id = some c → hp id = some c) {n : Nat} {vs : List V} {x : El (.user n)} (hl : zbK hpr (.user n) vs = some x) {ys : List Value} (hv : z0v I s vs ys) :
    z1t I (toD (.user n) x) ys := by
  have hl' : (match zcq hpr (Univ.fields n) vs with | some x => some (Univ.inn n x) | none => none) = some x := hl
  cases h1 : zcq hpr (Univ.fields n) vs with
  | none => rw [h1] at hl'; exact absurd hl' (by simp)
  | some y =>
    rw [h1] at hl'
    have e : Univ.inn n y = x := Option.some.inj hl'
    have k := zoc h hsub _ _ _ h1 ys hv
    rw [← zuy n y] at k
    rw [← e]
    exact k
theorem zuL {u : Shape} {vs : List V} {x : El u} (hu : z3k u = false) (h1 : zbK hpr u vs = some x) : ∃ v,vs = [v] ∧ zc0 hpr u v = some x := by
  cases vs with
  | nil => cases u <;> first | (simp [z3k] at hu; done) | (have h2 : none = some x := h1; cases h2)
  | cons v r => cases r with
    | nil => exact ⟨v,rfl,by cases u <;> first | (simp [z3k] at hu; done) | exact h1⟩
    | cons _ _ => cases u <;> first | (simp [z3k] at hu; done) | (have h2 : none = some x := h1; cases h2)
theorem zdb (h : WInv cx I s hp w) (hsub : ∀ id c,hpr id = some c → hp id = some c) {t : Shape} {vs : List V} {x : El t} (hl : zbK hpr t vs = some x) {ys : List Value} (hv : z0v I s vs ys) :
    z1t I (toD t x) ys := by
  cases hu : z3k t with
  | false =>
    obtain ⟨v,rfl,h1⟩ := zuL hu hl
    cases ys with
    | nil => simp only [z0v] at hv
    | cons y q =>
      cases q with
      | cons _ _ => simp only [z0v] at hv; exact hv.2.elim
      | nil =>
        simp only [z0v] at hv
        obtain ⟨d,hd,hr⟩ := ziL h hsub h1 hv.1
        rw [hd]
        exact ⟨hr,trivial⟩
  | true =>
    cases t <;> first | (simp [z3k] at hu; done) | exact zuU h hsub hl hv
theorem zCB (n : Nat) (x : UTypes.UT n) : Univ.uD n x = zaL (Univ.fields n) (Univ.out n x) := z2U.deep n x
theorem zA3 (n : Nat) (x : El (.user n)) : toD (.user n) x = zaL (Univ.fields n) (Univ.out n x) := zCB n x
theorem zzb {t : Shape} (ht : z3k t = false) {x : El t} {d : D} (hd : toD t x = [d]) {y : Value} (hy : repD I d y) : repV I s (zun t x) y := by
  cases t <;> simp only [zun]
  case int k => cases hd; simpa only [repV,repD] using hy
  case bool => cases hd; simpa only [repV,repD] using hy
  case str => cases hd; simpa only [repV,repD] using hy
  case list u => cases hd; simp only [repV]; exact ⟨hy,by unfold flag; trivial⟩
  case user n => simp [z3k] at ht
theorem zqQ : (ss : List Shape) → (∀ t ∈ ss,z3k t = false) → (x : Els ss) → (ys : List Value) → z1t I (zaL ss x) ys → z0v I s (z8w ss x) ys
  | [],_,_,[],_ => by simp only [z8w,z0v]
  | [],_,_,_ :: _,h => h.elim
  | t :: r,ht,x,ys,h => by
    obtain ⟨d,hd⟩ := zwV t (ht t (by simp)) x.1
    simp only [zaL,hd,List.singleton_append] at h
    cases ys with
    | nil => exact h.elim
    | cons y q =>
      simp only [z8w,z0v]
      exact ⟨zzb (ht t (by simp)) hd h.1,zqQ r (fun t ht' => ht t (by simp [ht'])) x.2 q h.2⟩
theorem z5M {t : Shape} {x : El t} {ys : List Value} (h : z1t I (toD t x) ys) : z0v I s (explode t x) ys := by
  have one : ∀ {d : D} {v : V},z1t I [d] ys → (∀ y,repD I d y → repV I s v y) → z0v I s [v] ys := by
    intro d v h1 h2
    cases ys with
    | nil => exact h1.elim
    | cons y q => cases q with
      | nil => simp only [z0v]; exact ⟨h2 y h1.1,trivial⟩
      | cons _ _ => exact h1.2.elim
  cases t <;> simp only [explode]
  case int k => exact one h fun y hy => by simpa only [repV,repD] using hy
  case bool => exact one h fun y hy => by simpa only [repV,repD] using hy
  case str => exact one h fun y hy => by simpa only [repV,repD] using hy
  case list u => exact one h fun y hy => by simp only [repV]; exact ⟨hy,by unfold flag; trivial⟩
  case user n =>
    exact zqQ _ (z2U.plain n) _ _ (zA3 n x ▸ h)
def isEl (I : Facts) (t : Shape) (x : El t) (v : Value) : Prop :=
  match z3k t with
  | true => ∃ cs,v = .agg cs ∧ z1t I (toD t x) cs.toList
  | false => z1t I (toD t x) [v]
theorem zmV {t : Shape} {x : El t} {v : Value} (h : isEl I t x v) : repV I s (elV t x) v := by
  have one : ∀ {u : V},z0v I s [u] [v] → repV I s u v := fun h => by simp only [z0v] at h; exact h.1
  cases t <;> simp only [elV]
  case int k => exact one (z5M (t := .int k) h)
  case bool => exact one (z5M (t := .bool) h)
  case str => exact one (z5M (t := .str) h)
  case list u => exact one (z5M (t := .list u) h)
  case user n =>
    simp only [isEl,z3k] at h
    obtain ⟨cs,rfl,hd⟩ := h
    simp only [repV]
    exact ⟨cs,rfl,z5M (t := .user n) hd⟩
theorem zfU {v : V} {x : Value} (h : repV I s v x) (hs : scal v = true ∨ ∃ cs,v = .agg cs) (h1 : scal v = true → x.oneCell' = true) : z0v I s (PE.cellsOf v) x.cells.toList := by
  rcases hs with hs | ⟨cs,rfl⟩
  · have hc : PE.cellsOf v = [v] := by cases v <;> first | rfl | simp [scal] at hs
    have hx : x.cells = #[x] := by have := h1 hs; cases x <;> first | rfl | simp [Value.oneCell'] at this
    rw [hc,hx]
    simp only [z0v]
    exact ⟨h,trivial⟩
  · simp only [repV] at h
    obtain ⟨c,rfl,hc⟩ := h
    exact hc
theorem zp1 {v : V} {x : Value} (h : repV I s v x) (hs : scal v = true) : x.oneCell' = true := by
  cases v <;> simp only [repV] at h <;> try (simp [scal] at hs; done)
  case int => subst h; rfl
  case bool => subst h; rfl
  case str => subst h; rfl
  case nil => subst h; rfl
  case lst => obtain ⟨h,_⟩ := h; simp only [repD] at h; obtain ⟨_,_,rfl,_⟩ := h; rfl
  case row => obtain ⟨_,_,_,_,rfl⟩ := h; rfl
  case ptr => obtain ⟨_,_,rfl⟩ := h; rfl
  case eptr => obtain ⟨_,_,rfl⟩ := h; rfl
  case pptr => obtain ⟨_,_,rfl,_⟩ := h; rfl
  case nilptr => subst h; rfl
  case fn => obtain ⟨_,_,rfl,_⟩ := h; rfl
  case nilfn => subst h; rfl
  case map => obtain ⟨_,_,rfl⟩ := h; rfl
  case nilmap => subst h; rfl
  case iface => obtain ⟨_,rfl,_⟩ := h; rfl
  case niface => subst h; rfl
  case err b =>
    cases b with
    | true => obtain ⟨_,_,rfl⟩ := h.1 rfl; rfl
    | false => rw [h.2 rfl]; rfl
  case tb => rw [h.2]; rfl
end
end Go.PE
namespace Go.PE
def Out (P : Program) (o : Oper) (a : Act) (w : World) (R : Value → World → Prop) : Prop :=
  ∀ (next : Act → World → Prop) (Q : Exit → Act → World → Prop),True → (∀ v w',R v w' → next (a.put o.dst v) w') →
    (o.wp P a w next Q ∨ (o.asks P a w ∧ LetsOut Q))
theorem Out.value {P : Program} {o : Oper} {a : Act} {w w' : World} {R : Value → World → Prop} {v : Value} (h : (execOp a.eval o).run P w = .ok (.value v) w') (hr : R v w') : Out P o a w R := by
  intro next Q _ hn
  left
  unfold Oper.wp
  rw [h]
  exact hn v w' hr
theorem Out.skip {P : Program} {o : Oper} {a : Act} {w w' : World} {R : Value → World → Prop} (h : (execOp a.eval o).run P w = .ok .skip w') (hr : R Go.undef w') : Out P o a w R := by
  intro next Q _ hn
  left
  unfold Oper.wp
  rw [h]
  exact hn _ w' hr
theorem Out.mono {P : Program} {o : Oper} {a : Act} {w : World} {R R' : Value → World → Prop} (h : Out P o a w R) (hr : ∀ v w',R v w' → R' v w') : Out P o a w R' :=
  fun next Q hl hn => h next Q hl fun v w' r => hn v w' (hr v w' r)
theorem z8C {P : Program} {w w' : World} {s : Sem Value} {v : Value} (h : s.run P w = .ok v w') : (s >>= fun v => pure (Next.value v)).run P w = .ok (.value v) w' := by
  rw [Sem.run_bind,h]; rfl
theorem zzy {P : Program} {w w' : World} {s : Sem Unit} (h : s.run P w = .ok () w') : (s >>= fun _ => pure Next.skip).run P w = .ok .skip w' := by
  rw [Sem.run_bind,h]; rfl
section
variable [Univ]
def addF : List (Nat × C) → (Nat → Option C) → Nat → Option C
  | [],hp => hp
  | (id,c) :: r,hp => setF (addF r hp) id c
def Res (cx : Cx) (I : Facts) (s : Hand) (hp : Nat → Option C) (upd : List (Nat × C)) (x : V) (v : Value) (w' : World) : Prop :=
  ∃ I' s',I.le I' ∧ s.le s' ∧ WInv cx I' s' (addF upd hp) w' ∧ repV I' s' x v
variable [z2U] {cx : Cx} {I : Facts} {s : Hand} {hp hpr : Nat → Option C} {w : World} {P : Program}
theorem Res.same (h : WInv cx I s hp w) {x : V} {v : Value} (hv : repV I s x v) : Res cx I s hp [] x v w :=
  ⟨I,s,Facts.le_refl _,Hand.le_refl _,h,hv⟩
theorem Out.zEl (h : WInv cx I s hp w) {o : Oper} {a : Act} {x : V} {v : Value} (he : (execOp a.eval o).run P w = .ok (.value v) w) (hv : repV I s x v) : Out P o a w (Res cx I s hp [] x) :=
  Out.value he (Res.same h hv)
def lit : V → Value
  | .int k n => .int k n
  | .bool b => .bool b
  | .str t => .string ⟨t.toArray⟩
  | .nil => .slice none 0 0
  | .nilptr => .pointer none
  | .nilfn => .nilFunc
  | .nilmap => .map none
  | .niface => .nilIface
  | _ => Go.undef
def isLit : V → Bool
  | .int _ _ => true
  | .bool _ => true
  | .str _ => true
  | .nil => true
  | .nilptr => true
  | .nilfn => true
  | .nilmap => true
  | .niface => true
  | _ => false
theorem zyT {x : V} (h : isLit x = true) : repV I s x (lit x) := by
  cases x <;> first | (simp [isLit] at h; done) | simp only [repV,lit]
theorem zEb {x : V} (h : isLit x = true) {v : Value} (hv : repV I s x v) : v = lit x := by
  cases x <;> first | (simp [isLit] at h; done) | simpa only [repV,lit] using hv
theorem zxQ (op : BinOp) (hl : op ≠ .shl) (hr : op ≠ .shr) (t : TypeId) (k : IntKind) (x y : Int) : binOp op t (.int k x) (.int k y) =
    (match op with
    | .add | .sub | .mul => Op.intArith op k x y
    | .quo | .rem => Op.intDiv op k x y
    | .and | .or | .xor | .andNot => Op.intBits op k x y
    | _ => Op.intCmp op x y) := by
  cases op <;> first | (exact absurd rfl hl) | (exact absurd rfl hr) | simp [binOp]
theorem zwx {op : BinOp} {k : IntKind} {x y : Int} {e : Eff} (he : opInt op k x y = some e) (hc : ∀ p ∈ e.conds,p) (t : TypeId) :
    e.upd = [] ∧ isLit e.v = true ∧ (binOp op t (.int k x) (.int k y)).run P w = .ok (lit e.v) w := by
  cases op <;> simp only [opInt,ok1,Option.some.injEq] at he <;> try (simp at he; done)
  all_goals subst he
  all_goals refine ⟨rfl,rfl,?_⟩
  all_goals rw [zxQ _ (by simp) (by simp)]
  case quo =>
    have h0 : y ≠ 0 := hc _ (by simp)
    simp only [Op.intDiv,if_neg h0]; rfl
  case rem =>
    have h0 : y ≠ 0 := hc _ (by simp)
    simp only [Op.intDiv,if_neg h0]; rfl
  all_goals rfl
theorem zwA {op : BinOp} {x y : List UInt8} {e : Eff} (he : zBf op x y = some e) (hc : ∀ p ∈ e.conds,p) (t : TypeId) :
    e.upd = [] ∧ isLit e.v = true ∧ (binOp op t (.string ⟨x.toArray⟩) (.string ⟨y.toArray⟩)).run P w = .ok (lit e.v) w := by
  cases op <;> simp only [zBf,ok1,Option.some.injEq] at he <;> try (simp at he; done)
  all_goals subst he
  all_goals refine ⟨rfl,rfl,?_⟩
  case add =>
    have h0 : x.length + y.length ≤ 140737488355328 := hc _ (by simp)
    have hs : ((ByteArray.mk x.toArray).size + (ByteArray.mk y.toArray).size : Nat) = x.length + y.length := by simp [ByteArray.size]
    have : ¬ ((((ByteArray.mk x.toArray).size + (ByteArray.mk y.toArray).size : Nat) : Int) > IntKind.i64.max) := by rw [hs,IntKind.max_i64]; omega
    simp only [binOp,Op.stringOp,if_neg this,Sem.run_pure,lit]
    congr 2
  all_goals simp [binOp,Op.stringOp,lit]
theorem zCm {op : BinOp} (h1 : op ≠ .eql) (h2 : op ≠ .neq) (t : TypeId) (x y : Operand) (a b : Value) : eqGuard op t x y a b = pure () := by
  cases op <;> first | (exact absurd rfl h1) | (exact absurd rfl h2) | rfl
theorem zq2 {k k' : IntKind} {x y : Int} (h : 0 ≤ y) (t : TypeId) :
    (binOp .shl t (.int k x) (.int k' y)).run P w = .ok (.int k (shl k x y)) w ∧ (binOp .shr t (.int k x) (.int k' y)).run P w = .ok (.int k (shr k x y)) w := by
  have : ¬ y < 0 := by omega
  constructor <;> simp only [binOp,Op.shift,if_neg this] <;> rfl
theorem zDA {t : TypeId} {ms : Array (String × TypeId)} (h : und P t = .interface ms) : P.underlying t = some (.interface ms) := z0t h (by simp)
theorem zqR {a b : Value} {t : TypeId} {r : Bool} (h1 : binOp .eql t a b = (Op.equal t a b >>= fun r => pure (.bool r))) (h2 : binOp .neq t a b = (Op.equal t a b >>= fun r => pure (.bool !r)))
    (h : ∀ d,(Op.equalIn (d + 1) t a b).run P w = .ok r w) : (binOp .eql t a b).run P w = .ok (.bool r) w ∧ (binOp .neq t a b).run P w = .ok (.bool !r) w := by
  have he : (Op.equal t a b).run P w = .ok r w := h 9999
  constructor
  · rw [h1,Sem.run_bind,he]; rfl
  · rw [h2,Sem.run_bind,he]; rfl
theorem zb7 {t : TypeId} {ms : Array (String × TypeId)} (h : P.underlying t = some (.interface ms)) {x y : Operand} {a b : Value} (r : Bool)
    (hab : (a = .nilIface ∧ b = .nilIface ∧ r = true ∧ (isConst x || isConst y) = true) ∨ (a = .nilIface ∧ (∃ d v,b = .iface d v) ∧ r = false) ∨ ((∃ d v,a = .iface d v) ∧ b = .nilIface ∧ r = false)) :
    (do eqGuard .eql t x y a b; binOp .eql t a b).run P w = .ok (.bool r) w ∧ (do eqGuard .neq t x y a b; binOp .neq t a b).run P w = .ok (.bool !r) w := by
  have key : eqGuard .eql t x y a b = pure () ∧ eqGuard .neq t x y a b = pure () ∧ binOp .eql t a b = (Op.equal t a b >>= fun r => pure (.bool r)) ∧ binOp .neq t a b = (Op.equal t a b >>= fun r => pure (.bool !r)) ∧
      ∀ d,(Op.equalIn (d + 1) t a b).run P w = .ok r w := by
    rcases hab with ⟨rfl,rfl,rfl,hc⟩ | ⟨rfl,⟨d,v,rfl⟩,rfl⟩ | ⟨⟨d,v,rfl⟩,rfl,rfl⟩
    · refine ⟨?_,?_,rfl,rfl,fun d => ?_⟩
      · cases x <;> cases y <;> first | rfl | (simp [isConst] at hc; done)
      · cases x <;> cases y <;> first | rfl | (simp [isConst] at hc; done)
      · simp only [Op.equalIn,Sem.run_bind,run_underlying h,Result.andThen_ok]; rfl
    · refine ⟨rfl,rfl,rfl,rfl,fun d => ?_⟩
      simp only [Op.equalIn,Sem.run_bind,run_underlying h,Result.andThen_ok]; rfl
    · refine ⟨rfl,rfl,rfl,rfl,fun d => ?_⟩
      simp only [Op.equalIn,Sem.run_bind,run_underlying h,Result.andThen_ok]; rfl
  obtain ⟨g1,g2,g3,g4,g5⟩ := key
  rw [g1,g2]
  exact zqR g3 g4 g5
theorem zuS {t : TypeId} {x y : Operand} {a b : Value} (r : Bool)
    (key : eqGuard .eql t x y a b = pure () ∧ eqGuard .neq t x y a b = pure () ∧ binOp .eql t a b = (Op.equal t a b >>= fun r => pure (.bool r)) ∧ binOp .neq t a b = (Op.equal t a b >>= fun r => pure (.bool !r)) ∧
      ∀ d,(Op.equalIn (d + 1) t a b).run P w = .ok r w) :
    (do eqGuard .eql t x y a b; binOp .eql t a b).run P w = .ok (.bool r) w ∧ (do eqGuard .neq t x y a b; binOp .neq t a b).run P w = .ok (.bool !r) w := by
  obtain ⟨g1,g2,g3,g4,g5⟩ := key
  rw [g1,g2]
  exact zqR g3 g4 g5
theorem zyr {t : TypeId} (h : P.underlying t = some .bool) {x y : Operand} (a b : Bool) :
    (do eqGuard .eql t x y (.bool a) (.bool b); binOp .eql t (.bool a) (.bool b)).run P w = .ok (.bool (a == b)) w ∧
    (do eqGuard .neq t x y (.bool a) (.bool b); binOp .neq t (.bool a) (.bool b)).run P w = .ok (.bool !(a == b)) w :=
  zuS _ ⟨rfl,rfl,rfl,rfl,fun d => by simp only [Op.equalIn,Sem.run_bind,run_underlying h,Result.andThen_ok]; rfl⟩
theorem zui {t e : TypeId} (h : P.underlying t = some (.slice e)) {x y : Operand} (b : Option Addr) (n c : Nat) :
    (do eqGuard .eql t x y (.slice b n c) (.slice none 0 0); binOp .eql t (.slice b n c) (.slice none 0 0)).run P w = .ok (.bool b.isNone) w ∧
    (do eqGuard .neq t x y (.slice b n c) (.slice none 0 0); binOp .neq t (.slice b n c) (.slice none 0 0)).run P w = .ok (.bool !b.isNone) w :=
  zuS _ ⟨rfl,rfl,rfl,rfl,fun d => by cases b <;> simp only [Op.equalIn,Sem.run_bind,run_underlying h,Result.andThen_ok] <;> rfl⟩
end
end Go.PE
namespace Go.PE
section
variable [Univ] [z2U] {cx : Cx} {I : Facts} {s : Hand} {hp hpr : Nat → Option C} {w : World} {P : Program}
theorem zny {t : TypeId} {d : TypeDesc} (h : P.underlying t = some d) (hd : zgP d = false) : (isAgg t).run P w = .ok false w := by
  cases d <;> first | (simp [zgP] at hd; done) | (simp only [isAgg,Sem.run_bind,run_underlying h,Result.andThen_ok]; rfl)
theorem zg4 {t : TypeId} {d : TypeDesc} (h : P.underlying t = some d) (hd : zgP d = true) : (isAgg t).run P w = .ok true w := by
  cases d <;> first | (simp [zgP] at hd; done) | (simp only [isAgg,Sem.run_bind,run_underlying h,Result.andThen_ok]; rfl)
theorem z9g {t : TypeId} {d : TypeDesc} (h : P.underlying t = some d) (hd : zgP d = false) {xs : Array Value} {o : Nat} {v : Value} (hv : xs[o]? = some v) : (part t xs o).run P w = .ok v w := by
  simp only [part,Sem.run_bind,zny h hd,Result.andThen_ok,Bool.false_eq_true,if_false,hv]
  rfl
theorem zjC (d : Nat) (xs ys : Array Value) : ∀ (fs : List Field) (k : Nat) (as bs : List V) (r : Bool),z6F P k fs as = true → z9F as bs = some r →
    z0v I s as (xs.toList.drop k) → z0v I s bs (ys.toList.drop k) → (Op.eqFields (d + 1) xs ys fs).run P w = .ok r w
  | [],k,as,bs,r,hl,hc,_,_ => by
    cases as with
    | cons a q => simp [z6F] at hl
    | nil => cases bs with
      | nil => simp [z9F] at hc; subst hc; rfl
      | cons b q => simp [z9F] at hc
  | f :: fs,k,as,bs,r,hf,hc,ha,hb => by
    cases as with
    | nil => simp [z6F] at hf
    | cons a q =>
      cases bs with
      | nil => cases a <;> simp [z9F] at hc
      | cons b p =>
        have hx : ∃ v,xs.toList.drop k = v :: xs.toList.drop (k + 1) := by
          cases he : xs.toList.drop k with
          | nil => rw [he] at ha; simp only [z0v] at ha
          | cons v l => refine ⟨v,?_⟩; rw [← List.tail_drop,he]; rfl
        have hy : ∃ v,ys.toList.drop k = v :: ys.toList.drop (k + 1) := by
          cases he : ys.toList.drop k with
          | nil => rw [he] at hb; simp only [z0v] at hb
          | cons v l => refine ⟨v,?_⟩; rw [← List.tail_drop,he]; rfl
        obtain ⟨v,ev⟩ := hx
        obtain ⟨u,eu⟩ := hy
        have gv : xs[k]? = some v := by
          have : (xs.toList.drop k)[0]? = some v := by rw [ev]; rfl
          simpa using this
        have gu : ys[k]? = some u := by
          have : (ys.toList.drop k)[0]? = some u := by rw [eu]; rfl
          simpa using this
        rw [ev] at ha
        rw [eu] at hb
        simp only [z0v] at ha hb
        simp only [z6F,Bool.and_eq_true] at hf
        obtain ⟨⟨⟨h1,h2⟩,h3⟩,h4⟩ := hf
        have ho : f.offset = k := Nat.eq_of_beq_eq_true h1
        have hn : f.name ≠ "_" := by simpa using h2
        have rest := zjC d xs ys fs (k + 1) q p
        have step : ∀ (t : TypeDesc) (e : Bool),P.underlying f.type = some t → zgP t = false → (Op.equalIn (d + 1) f.type v u).run P w = .ok e w →
            ∀ r',z9F q p = some r' → (e && r') = r → (Op.eqFields (d + 1) xs ys (f :: fs)).run P w = .ok r w := by
          intro t e ht hd he r' hr' hrr
          simp only [Op.eqFields,hn,ne_eq,not_false_eq_true,if_true,Sem.run_bind,ho,z9g ht hd gv,z9g ht hd gu,Result.andThen_ok,he]
          cases e with
          | false => simp at hrr; subst hrr; simp
          | true => simp at hrr; subst hrr; simpa using rest r' h4 hr' ha.2 hb.2
        cases a <;> cases b <;> simp only [z9F] at hc <;> try (simp at hc; done)
        case int.int k1 x k2 y =>
          cases hk : zfD k1 k2 with
          | false => simp [hk] at hc
          | true =>
            have := ziH hk
            subst this
            simp only [hk,cond_true] at hc
            cases hr : z9F q p with
            | none => simp [hr] at hc
            | some r' =>
              simp only [hr,Option.some.injEq] at hc
              have e1 := ha.1; have e2 := hb.1
              simp only [repV] at e1 e2
              subst e1; subst e2
              cases hu : und P f.type <;> simp only [hu] at h3 <;> try (simp at h3; done)
              case int kk => exact step _ (x == y) (z0t hu (by simp)) rfl (run_equalIn_int w d _ _ _ _ _ (z0t hu (by simp))) r' hr hc
        case bool.bool x y =>
          cases hr : z9F q p with
          | none => simp [hr] at hc
          | some r' =>
            simp only [hr,Option.some.injEq] at hc
            have e1 := ha.1; have e2 := hb.1
            simp only [repV] at e1 e2
            subst e1; subst e2
            cases hu : und P f.type <;> simp only [hu] at h3 <;> try (simp at h3; done)
            case bool => exact step _ (x == y) (z0t hu (by simp)) rfl (run_equalIn_bool' w d _ _ _ (z0t hu (by simp))) r' hr hc
        case str.str x y =>
          cases hr : z9F q p with
          | none => simp [hr] at hc
          | some r' =>
            simp only [hr,Option.some.injEq] at hc
            have e1 := ha.1; have e2 := hb.1
            simp only [repV] at e1 e2
            subst e1; subst e2
            cases hu : und P f.type <;> simp only [hu] at h3 <;> try (simp at h3; done)
            case string => exact step _ (x == y) (z0t hu (by simp)) rfl (by rw [run_equalIn_string w d _ _ _ (z0t hu (by simp))]; simp) r' hr hc
theorem zna {t : TypeId} {fs : Array Field} (ht : P.underlying t = some (.struct fs)) : ∀ (d : Nat),(∀ f ∈ fs.toList,P.eqGuardType (d + 1) f.type = false) → P.eqGuardType (d + 2) t = false := by
  intro d h
  simp only [Program.eqGuardType,ht]
  rw [← Array.any_toList]
  simp only [List.any_eq_false,Bool.and_eq_true,not_and]
  intro f hf _
  simpa [Program.eqGuardType] using h f hf
theorem zf2 : ∀ (fs : List Field) (k : Nat) (as : List V),z6F P k fs as = true → ∀ (d : Nat),∀ f ∈ fs,P.eqGuardType (d + 1) f.type = false
  | [],_,_,_,_,f,hf => by simp at hf
  | g :: fs,k,as,h,d,f,hf => by
    cases as with
    | nil => simp [z6F] at h
    | cons a q =>
      simp only [z6F,Bool.and_eq_true] at h
      obtain ⟨⟨⟨h1,h2⟩,h3⟩,h4⟩ := h
      rcases List.mem_cons.1 hf with rfl | hf
      · cases hu : und P f.type <;> simp only [hu] at h3 <;> first
          | (simp [Program.eqGuardType,z0t hu (by simp)]; done)
          | (cases a <;> simp at h3; done)
          | (simp at h3; done)
      · exact zf2 fs (k + 1) q h4 d f hf
theorem zvN {t : TypeId} {x y : Operand} {as bs : List V} {r : Bool} (hp : zgx P t as = true) (hc : z9F as bs = some r) {va vb : Value} (ha : repV I s (.agg as) va) (hb : repV I s (.agg bs) vb) :
    (do eqGuard .eql t x y va vb; binOp .eql t va vb).run P w = .ok (.bool r) w ∧ (do eqGuard .neq t x y va vb; binOp .neq t va vb).run P w = .ok (.bool !r) w := by
  simp only [repV] at ha hb
  obtain ⟨xs,rfl,ha⟩ := ha
  obtain ⟨ys,rfl,hb⟩ := hb
  simp only [zgx,Bool.and_eq_true,Bool.not_eq_true'] at hp
  obtain ⟨h0,h1⟩ := hp
  cases hu : und P t <;> simp only [hu] at h1 <;> try (simp at h1; done)
  case struct fs =>
    have ht := z0t hu (by simp)
    have hfs : P.fieldsOf t = fs := by simp [Program.fieldsOf,ht]
    have hg : P.eqGuardType P.depth t = false := by
      have hd : P.depth = (2 * (P.types.size + Made.depth)) + 2 := rfl
      rw [hd]
      exact zna ht _ fun f hf => zf2 _ _ _ h1 _ f hf
    have he : (Op.equalIn 10000 t (.agg xs) (.agg ys)).run P w = .ok r w := by
      rw [run_equalIn_struct w 9999 t xs ys (by rw [hfs]; exact ht) h0,hfs]
      exact zjC 9998 xs ys fs.toList 0 as bs r h1 hc (by simpa using ha) (by simpa using hb)
    constructor
    · rw [Sem.run_bind,run_eqGuard_agg w _ _ _ _ _ _ hg,Result.andThen_ok,run_eql_struct,he]; rfl
    · rw [Sem.run_bind,run_eqGuard_agg w _ _ _ _ _ _ hg,Result.andThen_ok,run_neq_struct,he]; rfl
theorem zmF {I : Facts} : ∀ (a : List (List UInt8)) (l : List Value),z1t I (cellsD .str a) l → l = a.map fun x => Value.string ⟨x.toArray⟩
  | [],[],_ => rfl
  | [],_ :: _,h => h.elim
  | _ :: _,[],h => h.elim
  | x :: a,v :: l,h => by
    have h1 : repD I (.str x) v := h.1
    simp only [repD] at h1
    rw [h1,zmF a l h.2]; rfl
theorem znS (d : Nat) {e : TypeId} (he : P.underlying e = some .string) (xs ys : Array Value) : ∀ (as bs : List (List UInt8)) (j : Nat),as.length = bs.length → (∀ i x,as[i]? = some x → xs[j + i]? = some (.string ⟨x.toArray⟩)) → (∀ i x,bs[i]? = some x → ys[j + i]? = some (.string ⟨x.toArray⟩)) →
    (Op.eqItems (d + 1) e 1 xs ys (List.range' j as.length)).run P w = .ok (as == bs) w
  | [],[],j,_,_,_ => rfl
  | [],_ :: _,_,h,_,_ => by cases h
  | _ :: _,[],_,h,_,_ => by cases h
  | x :: as,y :: bs,j,h,h1,h2 => by
    have e1 := h1 0 x rfl
    have e2 := h2 0 y rfl
    rw [Nat.add_zero] at e1 e2
    have ih := znS d he xs ys as bs (j + 1) (by simpa using h) (fun i z hz => by rw [show j + 1 + i = j + (i + 1) by omega]; exact h1 (i + 1) z hz) (fun i z hz => by rw [show j + 1 + i = j + (i + 1) by omega]; exact h2 (i + 1) z hz)
    rw [List.length_cons,List.range'_succ]
    simp only [Op.eqItems,Sem.run_bind,Nat.mul_one,z9g he rfl e1,z9g he rfl e2,Result.andThen_ok,run_equalIn_string w d _ _ _ he]
    by_cases hxy : x = y
    · subst hxy
      simp [ih]
    · simp [hxy]
theorem zBS {t e : TypeId} {n : Nat} {x y : Operand} {as bs : List (List UInt8)} (ht : P.underlying t = some (.array n e)) (he : P.underlying e = some .string) (hc : P.cellsOf e = 1) (ha' : as.length = n) (hb' : bs.length = n) {va vb : Value} (ha : repV I s (.arr .str as) va) (hb : repV I s (.arr .str bs) vb) :
    (do eqGuard .eql t x y va vb; binOp .eql t va vb).run P w = .ok (.bool (as == bs)) w := by
  simp only [repV] at ha hb
  obtain ⟨xs,rfl,ha⟩ := ha
  obtain ⟨ys,rfl,hb⟩ := hb
  have hx := zmF as _ ha
  have hy := zmF bs _ hb
  have gx : ∀ i z,as[i]? = some z → xs[0 + i]? = some (.string ⟨z.toArray⟩) := fun i z hz => by
    rw [Nat.zero_add,← Array.getElem?_toList,hx,List.getElem?_map,hz]; rfl
  have gy : ∀ i z,bs[i]? = some z → ys[0 + i]? = some (.string ⟨z.toArray⟩) := fun i z hz => by
    rw [Nat.zero_add,← Array.getElem?_toList,hy,List.getElem?_map,hz]; rfl
  have hg : P.eqGuardType P.depth t = false := by
    have hd : P.depth = (2 * (P.types.size + Made.depth)) + 2 := rfl
    rw [hd]
    simp only [Program.eqGuardType,ht,he]
  obtain ⟨i,hi⟩ : ∃ i,P.info? e = some i := by
    simp only [Program.underlying] at he
    cases h : P.info? e with
    | none => simp [h] at he
    | some i => exact ⟨i,rfl⟩
  have hE : (Op.equalIn 10000 t (.agg xs) (.agg ys)).run P w = .ok (as == bs) w := by
    rw [run_equalIn_array w 9999 xs ys ht hi,hc,List.range_eq_range',← ha']
    exact znS 9998 he xs ys as bs 0 (by rw [ha',hb']) gx gy
  rw [Sem.run_bind,run_eqGuard_agg w _ _ _ _ _ _ hg,Result.andThen_ok,run_eql_struct,hE]; rfl
theorem zmg {t e : TypeId} (h : P.underlying t = some (.slice e)) {x y : Operand} {b : Option Addr} {n c : Nat} {r : Bool} (hr : b.isNone = r) :
    (do eqGuard .eql t x y (.slice b n c) (.slice none 0 0); binOp .eql t (.slice b n c) (.slice none 0 0)).run P w = .ok (.bool r) w ∧
    (do eqGuard .neq t x y (.slice b n c) (.slice none 0 0); binOp .neq t (.slice b n c) (.slice none 0 0)).run P w = .ok (.bool !r) w := by
  subst hr
  exact zui h b n c
theorem zwX {op : BinOp} {t : TypeId} {x y : Operand} {a b : V} {e : Eff} (he : zAB P op t x y a b = some e) (hc : ∀ p ∈ e.conds,p) {va vb : Value} (ha : repV I s a va) (hb : repV I s b vb) :
    e.upd = [] ∧ isLit e.v = true ∧ (do eqGuard op t x y va vb; binOp op t va vb).run P w = .ok (lit e.v) w := by
  have two : ∀ {r : Bool} {o : Option Eff},((do eqGuard .eql t x y va vb; binOp .eql t va vb).run P w = .ok (.bool r) w ∧ (do eqGuard .neq t x y va vb; binOp .neq t va vb).run P w = .ok (.bool !r) w) →
      ((op = .eql ∧ e = ⟨.bool r,[],[]⟩) ∨ (op = .neq ∧ e = ⟨.bool !r,[],[]⟩)) →
      e.upd = [] ∧ isLit e.v = true ∧ (do eqGuard op t x y va vb; binOp op t va vb).run P w = .ok (lit e.v) w := by
    rintro r o ⟨k1,k2⟩ (⟨rfl,rfl⟩ | ⟨rfl,rfl⟩)
    · exact ⟨rfl,rfl,k1⟩
    · exact ⟨rfl,rfl,k2⟩
  unfold zAB at he
  split at he
  · rename_i k n k' m
    simp only [repV] at ha hb
    subst ha; subst hb
    have hg : eqGuard op t x y (.int k n) (.int k' m) = pure () := by cases op <;> rfl
    rw [hg]
    split at he
    · cases he
      exact ⟨rfl,rfl,(zq2 (k' := k') (hc _ (by simp)) t).1⟩
    · cases he
      exact ⟨rfl,rfl,(zq2 (k' := k') (hc _ (by simp)) t).2⟩
    · cases hk : zfD k k' with
      | false => simp [hk] at he
      | true =>
        have := ziH hk
        subst this
        simp only [hk,cond_true] at he
        exact zwx he hc t
  · rename_i n m
    simp only [repV] at ha hb
    subst ha; subst hb
    have hg : eqGuard op t x y (.string ⟨n.toArray⟩) (.string ⟨m.toArray⟩) = pure () := by cases op <;> rfl
    rw [hg]
    exact zwA he hc t
  · rename_i n m
    simp only [repV] at ha hb
    subst ha; subst hb
    split at he <;> rename_i hu <;> first
      | (cases he; exact two (o := none) (zyr (z0t hu (by simp)) n m) (.inl ⟨rfl,rfl⟩))
      | (cases he; exact two (o := none) (zyr (z0t hu (by simp)) n m) (.inr ⟨rfl,rfl⟩))
      | (cases he; done)
  · rename_i as bs
    cases hp : zgx P t as with
    | false => simp [hp] at he
    | true =>
      simp only [hp,cond_true] at he
      split at he
      · rename_i r hr; cases he; exact two (o := none) (zvN hp hr ha hb) (.inl ⟨rfl,rfl⟩)
      · rename_i r hr; cases he; exact two (o := none) (zvN hp hr ha hb) (.inr ⟨rfl,rfl⟩)
      · cases he
  · rename_i as bs
    split at he
    · rename_i n e hu
      split at he
      · rename_i hu'
        cases hk : Nat.beq (P.cellsOf e) 1 with
        | false => simp [hk] at he
        | true =>
          simp only [hk,cond_true] at he
          cases he
          exact ⟨rfl,rfl,zBS (z0t hu (by simp)) (z0t hu' (by simp)) (Nat.eq_of_beq_eq_true hk) (hc _ (List.mem_cons_self ..)) (hc _ (List.mem_cons_of_mem _ (List.mem_cons_self ..))) ha hb⟩
      · cases he
    · cases he
  · simp only [repV] at ha hb
    subst hb
    obtain ⟨h1,h2⟩ := ha
    simp only [repD] at h1
    obtain ⟨base,cap,rfl,_⟩ := h1
    have hn : base.isNone = false := by simp only [flag] at h2; cases base <;> simp_all
    split at he <;> rename_i hu <;> first
      | (cases he; exact two (o := none) (zmg (z0t hu (by simp)) hn) (.inl ⟨rfl,rfl⟩))
      | (cases he; exact two (o := none) (zmg (z0t hu (by simp)) hn) (.inr ⟨rfl,rfl⟩))
      | (cases he; done)
  · simp only [repV] at ha hb
    subst hb
    obtain ⟨h1,h2⟩ := ha
    simp only [repD] at h1
    obtain ⟨base,cap,rfl,_⟩ := h1
    have hn : base.isNone = true := by simpa only [flag] using h2
    split at he <;> rename_i hu <;> first
      | (cases he; exact two (o := none) (zmg (z0t hu (by simp)) hn) (.inl ⟨rfl,rfl⟩))
      | (cases he; exact two (o := none) (zmg (z0t hu (by simp)) hn) (.inr ⟨rfl,rfl⟩))
      | (cases he; done)
  · simp only [repV] at ha hb
    subst ha; subst hb
    split at he <;> rename_i hu <;> first
      | (cases he; exact two (o := none) (zui (z0t hu (by simp)) none 0 0) (.inl ⟨rfl,rfl⟩))
      | (cases he; exact two (o := none) (zui (z0t hu (by simp)) none 0 0) (.inr ⟨rfl,rfl⟩))
      | (cases he; done)
  · simp only [repV] at ha hb
    subst ha; subst hb
    cases hk : isConst x || isConst y with
    | false => simp [hk] at he
    | true =>
      simp only [hk,cond_true] at he
      split at he <;> rename_i hu <;> first
        | (cases he; exact two (o := none) (zb7 (z0t hu (by simp)) true (.inl ⟨rfl,rfl,rfl,hk⟩)) (.inl ⟨rfl,rfl⟩))
        | (cases he; exact two (o := none) (zb7 (z0t hu (by simp)) true (.inl ⟨rfl,rfl,rfl,hk⟩)) (.inr ⟨rfl,rfl⟩))
        | (cases he; done)
  · rename_i c
    simp only [repV] at ha hb
    subst ha
    cases hk : isConst x with
    | false => simp [hk] at he
    | true =>
      simp only [hk,cond_true] at he
      have hab : ∀ z,((Value.nilIface = .nilIface ∧ vb = .nilIface ∧ (!c) = true ∧ (isConst x || isConst z) = true) ∨ (Value.nilIface = .nilIface ∧ (∃ d v,vb = .iface d v) ∧ (!c) = false) ∨ ((∃ d v,Value.nilIface = .iface d v) ∧ vb = .nilIface ∧ (!c) = false)) := by
        intro z
        cases c with
        | true => exact .inr (.inl ⟨rfl,hb.1 rfl,rfl⟩)
        | false => exact .inl ⟨rfl,hb.2 rfl,rfl,by simp [hk]⟩
      split at he <;> rename_i hu <;> first
        | (cases he; exact two (o := none) (zb7 (z0t hu (by simp)) (!c) (hab y)) (.inl ⟨rfl,rfl⟩))
        | (cases he; exact two (o := none) (zb7 (z0t hu (by simp)) (!c) (hab y)) (.inr ⟨rfl,by simp⟩))
        | (cases he; done)
  · rename_i c
    simp only [repV] at ha hb
    subst hb
    cases hk : isConst y with
    | false => simp [hk] at he
    | true =>
      simp only [hk,cond_true] at he
      have hab : ((va = .nilIface ∧ Value.nilIface = .nilIface ∧ (!c) = true ∧ (isConst x || isConst y) = true) ∨ (va = .nilIface ∧ (∃ d v,Value.nilIface = .iface d v) ∧ (!c) = false) ∨ ((∃ d v,va = .iface d v) ∧ Value.nilIface = .nilIface ∧ (!c) = false)) := by
        cases c with
        | true => exact .inr (.inr ⟨ha.1 rfl,rfl,rfl⟩)
        | false => exact .inl ⟨ha.2 rfl,rfl,rfl,by simp [hk]⟩
      split at he <;> rename_i hu <;> first
        | (cases he; exact two (o := none) (zb7 (z0t hu (by simp)) (!c) hab) (.inl ⟨rfl,rfl⟩))
        | (cases he; exact two (o := none) (zb7 (z0t hu (by simp)) (!c) hab) (.inr ⟨rfl,by simp⟩))
        | (cases he; done)
  · simp only [repV] at ha hb
    subst ha
    obtain ⟨z,rfl,_⟩ := hb
    split at he <;> rename_i hu <;> first
      | (cases he; exact two (o := none) (zb7 (z0t hu (by simp)) false (.inr (.inl ⟨rfl,⟨_,_,rfl⟩,rfl⟩))) (.inl ⟨rfl,rfl⟩))
      | (cases he; exact two (o := none) (zb7 (z0t hu (by simp)) false (.inr (.inl ⟨rfl,⟨_,_,rfl⟩,rfl⟩))) (.inr ⟨rfl,rfl⟩))
      | (cases he; done)
  · simp only [repV] at ha hb
    subst hb
    obtain ⟨z,rfl,_⟩ := ha
    split at he <;> rename_i hu <;> first
      | (cases he; exact two (o := none) (zb7 (z0t hu (by simp)) false (.inr (.inr ⟨⟨_,_,rfl⟩,rfl,rfl⟩))) (.inl ⟨rfl,rfl⟩))
      | (cases he; exact two (o := none) (zb7 (z0t hu (by simp)) false (.inr (.inr ⟨⟨_,_,rfl⟩,rfl,rfl⟩))) (.inr ⟨rfl,rfl⟩))
      | (cases he; done)
  · cases he
theorem zxV {op : UnOp} {a : V} {e : Eff} (he : opUn op a = some e) {va : Value} (ha : repV I s a va) :
    e.upd = [] ∧ isLit e.v = true ∧ (Op.unary op va).run P w = .ok (lit e.v) w := by
  unfold opUn at he
  split at he
  all_goals first | (cases he; simp only [repV] at ha; subst ha; exact ⟨rfl,rfl,rfl⟩) | cases he
end
end Go.PE
namespace Go.PE
def stands (w : World) (b o : Nat) (cs : List Value) : Prop := ∀ (j : Nat) (v : Value),cs[j]? = some v → w.cell? ⟨b,o + j,none⟩ = some v
theorem zke {w : World} {b o : Nat} {cs : List Value} (h : stands w b o cs) (k n : Nat) : stands w b (o + k) ((cs.drop k).take n) := by
  intro j v hv
  rw [List.getElem?_take] at hv
  split at hv
  · rw [List.getElem?_drop] at hv
    have := h (k + j) v hv
    rwa [← Nat.add_assoc] at this
  · cases hv
theorem zfQ {w : World} {b : Nat} {arr : Array Value} {e : TypeId} {fr : Nat × Nat} (h : w.heap[b]? = some (.cells arr e fr)) : stands w b 0 arr.toList := by
  intro j v hv
  simp only [World.cell?,h,Nat.zero_add]
  simpa using hv
theorem zk6 {w : World} {b o : Nat} {cs : List Value} (h : stands w b o cs) (n : Nat) : stands w b o (cs.take n) := by
  have := zke h 0 n
  simpa using this
theorem zwQ {P : Program} {w : World} {a : Addr} {v : Value} (h : w.cell? a = some v) : (load a).run P w = .ok v w := by simp [h]
section
variable [Univ] [z2U] {cx : Cx} {I : Facts} {s : Hand} {hp hpr : Nat → Option C} {w : World} {P : Program}
theorem zfm {t : Shape} : ∀ (xs : List (El t)) (cs : List Value) (i : Nat) (x : El t),z1t I (cellsD t xs) cs → xs[i]? = some x → z1t I (toD t x) ((cs.drop (i * size t)).take (size t))
  | [],_,_,_,_,h => by simp at h
  | y :: r,cs,0,x,h,hx => by
    simp at hx
    subst hx
    have h' : z1t I (toD t y ++ cellsD t r) cs := by simpa [cellsD] using h
    have := (z8Y _ _ _ h').1
    rw [z8e] at this
    simpa using this
  | y :: r,cs,i + 1,x,h,hx => by
    have h' : z1t I (toD t y ++ cellsD t r) cs := by simpa [cellsD] using h
    have h2 := (z8Y _ _ _ h').2
    rw [z8e] at h2
    have := zfm r _ i x h2 (by simpa using hx)
    rw [List.drop_drop] at this
    rwa [show (i + 1) * size t = size t + i * size t by rw [Nat.add_mul]; omega]
theorem zsZ {t : Shape} {xs : List (El t)} {i : Int} (h : within i xs.length) : xs[i.toNat]? = some (rdE t xs i) := by
  have : i.toNat < xs.length := by have := h.1; have := h.2; omega
  simp [rdE,List.getD,this]
theorem zt2 {α : Type} (l : List α) (o n : Nat) : takeN l o n = (l.drop o).take n := rfl
theorem zg8 (b o n : Nat) : (⟨b,o,none⟩ : Addr).add n = ⟨b,o + n,none⟩ := by
  unfold Addr.add; split <;> simp_all
theorem zk3 {t : TypeId} {cells : List V} {off : Nat} {x : V} (he : zeI P t cells off = some x) {b o : Nat} {cs : List Value} (hs : stands w b o cs) (hr : z0v I s cells cs) :
    ∃ y,(loadVar t ⟨b,o + off,none⟩).run P w = .ok y w ∧ repV I s x y := by
  have agg : ∀ d,P.underlying t = some d → zgP d = true → tsz P t (takeN cells off (zan P t)).length = true → x = .agg (takeN cells off (zan P t)) →
      ∃ y,(loadVar t ⟨b,o + off,none⟩).run P w = .ok y w ∧ repV I s x y := by
    intro d hd ha hz hx
    obtain ⟨i,hi,hsz,hc⟩ := z4w hz
    have hlen : ((cs.drop off).take (zan P t)).length = i.size := by
      have h1 := z3v _ _ (ziK _ _ (zan P t) (ziN _ _ off hr))
      rw [← h1,← zt2,hsz]
    refine ⟨.agg ((cs.drop off).take (zan P t)).toArray,?_,?_⟩
    · simp only [loadVar,Sem.run_bind,zg4 hd ha,Result.andThen_ok,if_true,z1D hi]
      rw [← hlen,run_loadCells_list w ⟨b,o + off,none⟩ ((cs.drop off).take (zan P t)) (fun j v hv => by rw [zg8]; exact zke hs off _ j v hv)]
      rfl
    · rw [hx]
      simp only [repV]
      exact ⟨_,rfl,by rw [zt2]; exact ziK _ _ _ (ziN _ _ _ hr)⟩
  have one : ∀ d,P.underlying t = some d → zgP d = false → cells[off]? = some x → ∃ y,(loadVar t ⟨b,o + off,none⟩).run P w = .ok y w ∧ repV I s x y := by
    intro d hd ha hx
    obtain ⟨y,hy,hv⟩ := zcZ _ _ hr off x hx
    refine ⟨y,?_,hv⟩
    simp only [loadVar,Sem.run_bind,zny hd ha,Result.andThen_ok,Bool.false_eq_true,if_false]
    exact zwQ (hs off y hy)
  unfold zeI at he
  split at he
  · cases he
  · rename_i hu
    cases hz : tsz P t (takeN cells off (zan P t)).length with
    | false => simp [hz] at he
    | true => simp only [hz,cond_true,Option.some.injEq] at he; exact agg _ (z0t hu (by simp)) rfl hz he.symm
  · rename_i hu
    cases hz : tsz P t (takeN cells off (zan P t)).length with
    | false => simp [hz] at he
    | true => simp only [hz,cond_true,Option.some.injEq] at he; exact agg _ (z0t hu (by simp)) rfl hz he.symm
  · rename_i h1 h2 h3
    refine one (und P t) (z0t rfl h1) ?_ he
    cases hd : und P t <;> first | rfl | exact absurd hd (h2 _) | exact absurd hd (h3 _ _)
theorem zA0 {t : TypeId} {cells : List V} {off : Nat} {x : V} (he : zeI P t cells off = some x) {cs : Array Value} (hr : z0v I s cells cs.toList) :
    ∃ y,(part t cs off).run P w = .ok y w ∧ repV I s x y := by
  have agg : ∀ d,P.underlying t = some d → zgP d = true → tsz P t (takeN cells off (zan P t)).length = true → x = .agg (takeN cells off (zan P t)) →
      ∃ y,(part t cs off).run P w = .ok y w ∧ repV I s x y := by
    intro d hd ha hz hx
    obtain ⟨i,hi,hsz,hc⟩ := z4w hz
    refine ⟨.agg (cs.extract off (off + i.size)),?_,?_⟩
    · simp only [part,Sem.run_bind,zg4 hd ha,Result.andThen_ok,if_true,z1D hi]; rfl
    · rw [hx]
      simp only [repV]
      refine ⟨_,rfl,?_⟩
      have hz' : i.size = zan P t := by simp [zan,Program.cellsOf,hi]
      rw [zt2]
      have : (cs.extract off (off + i.size)).toList = (cs.toList.drop off).take (zan P t) := by
        rw [Array.toList_extract,hz',List.extract_eq_take_drop]; congr 1; omega
      rw [this]
      exact ziK _ _ _ (ziN _ _ _ hr)
  have one : ∀ d,P.underlying t = some d → zgP d = false → cells[off]? = some x → ∃ y,(part t cs off).run P w = .ok y w ∧ repV I s x y := by
    intro d hd ha hx
    obtain ⟨y,hy,hv⟩ := zcZ _ _ hr off x hx
    exact ⟨y,z9g hd ha (by simpa using hy),hv⟩
  unfold zeI at he
  split at he
  · cases he
  · rename_i hu
    cases hz : tsz P t (takeN cells off (zan P t)).length with
    | false => simp [hz] at he
    | true => simp only [hz,cond_true,Option.some.injEq] at he; exact agg _ (z0t hu (by simp)) rfl hz he.symm
  · rename_i hu
    cases hz : tsz P t (takeN cells off (zan P t)).length with
    | false => simp [hz] at he
    | true => simp only [hz,cond_true,Option.some.injEq] at he; exact agg _ (z0t hu (by simp)) rfl hz he.symm
  · rename_i h1 h2 h3
    refine one (und P t) (z0t rfl h1) ?_ he
    cases hd : und P t <;> first | rfl | exact absurd hd (h2 _) | exact absurd hd (h3 _ _)
theorem zi4 {t : TypeId} {f o : Nat} {ft : TypeId} (h : fieldAt P t f = some (o,ft)) : ∃ fs x,P.underlying t = some (.struct fs) ∧ fs[f]? = some x ∧ x.offset = o ∧ x.type = ft := by
  unfold fieldAt at h
  split at h
  · rename_i fs hu
    split at h
    · rename_i x hx
      simp only [Option.some.injEq,Prod.mk.injEq] at h
      exact ⟨fs,x,z0t hu (by simp),hx,h.1,h.2⟩
    · cases h
  · cases h
theorem zt6 {t : TypeId} {x : V} {f : Nat} {e : Eff} (he : zwZ P t x f = some e) {v : Value} (hv : repV I s x v) :
    e.upd = [] ∧ ∃ y,(Instr.field t v f).run P w = .ok y w ∧ repV I s e.v y := by
  unfold zwZ at he
  split at he
  · rename_i off ft cs hf
    obtain ⟨fs,g,h1,h2,h3,h4⟩ := zi4 hf
    split at he
    · rename_i z hz
      simp only [ok1,Option.some.injEq] at he
      subst he
      simp only [repV] at hv
      obtain ⟨arr,rfl,hr⟩ := hv
      obtain ⟨y,hy,hr'⟩ := zA0 (P := P) (w := w) hz hr
      refine ⟨rfl,y,?_,hr'⟩
      simp only [Instr.field,Sem.run_bind,run_underlying h1,Result.andThen_ok,h2,asAgg,Sem.run_pure,h3,h4]
      exact hy
    · cases he
  · cases he
theorem zmJ {t : TypeId} {x : V} {f : Nat} {e : Eff} (he : zkB P t x f = some e) {v : Value} (hv : repV I s x v) :
    e.upd = [] ∧ ∃ y,(Instr.fieldAt t v f).run P w = .ok y w ∧ repV I s e.v y := by
  unfold zkB at he
  split at he
  · rename_i off ft hf
    obtain ⟨fs,g,h1,h2,h3,h4⟩ := zi4 hf
    cases hz : (Nat.beq (zan P ft) 0 || !(tsz P ft (zan P ft))) with
    | true => simp [hz] at he
    | false =>
      simp only [hz,cond_false] at he
      simp only [Bool.or_eq_false_iff,Bool.not_eq_false'] at hz
      obtain ⟨z1,z2⟩ := hz
      obtain ⟨i,hi,hsz,hc⟩ := z4w z2
      have hne : i.size ≠ 0 := by intro h0; rw [hsz] at h0; rw [h0] at z1; simp at z1
      have run : ∀ (b o : Nat),(Instr.fieldAt t (.pointer (some ⟨b,o,none⟩)) f).run P w = .ok (.pointer (some ⟨b,o + off,none⟩)) w := by
        intro b o
        simp only [Instr.fieldAt,Sem.run_bind,run_underlying h1,Result.andThen_ok,h2,Instr.sureAddr,Sem.run_pure,fieldPlace,h4,z1D hi,hne,if_false,h3,zg8]
      split at he
      · rename_i id o
        simp only [ok1,Option.some.injEq] at he
        subst he
        simp only [repV] at hv
        obtain ⟨b,k1,rfl⟩ := hv
        exact ⟨rfl,_,run b o,by simp only [repV]; exact ⟨b,k1,rfl⟩⟩
      · rename_i id sz i' o
        simp only [ok1,Option.some.injEq] at he
        subst he
        simp only [repV] at hv
        obtain ⟨b,k1,rfl⟩ := hv
        exact ⟨rfl,_,run b _,by simp only [repV]; exact ⟨b,k1,by rw [Nat.add_assoc]⟩⟩
      · rename_i cs o
        simp only [ok1,Option.some.injEq] at he
        subst he
        simp only [repV] at hv
        obtain ⟨b,o',rfl,k1⟩ := hv
        exact ⟨rfl,_,run b _,by simp only [repV]; exact ⟨b,o',by rw [Nat.add_assoc],k1⟩⟩
      · cases he
  · cases he
theorem zjA : ∀ (l : List V) (cs : List Value) (b o : Nat),z0v I s l cs → tells I b o cs → zkI I s b o l
  | [],[],_,_,_,_ => by simp only [zkI]
  | x :: r,v :: q,b,o,e,h => by
    simp only [z0v] at e
    simp only [zkI]
    exact ⟨⟨v,by simpa using h 0 v rfl,e.1⟩,zjA r q b (o + 1) e.2 fun j u hj => by
      have := h (j + 1) u (by simpa using hj)
      rwa [show o + (j + 1) = o + 1 + j by omega] at this⟩
  | [],_ :: _,_,_,e,_ => by simp only [z0v] at e
  | _ :: _,[],_,_,e,_ => by simp only [z0v] at e
theorem zjJ : ∀ (l : List V) (b o : Nat),zkI I s b o l → ∃ cs,z0v I s l cs ∧ tells I b o cs
  | [],b,o,_ => ⟨[],by simp only [z0v],fun j v h => by simp at h⟩
  | x :: r,b,o,h => by
    simp only [zkI] at h
    obtain ⟨⟨v,hv,hd⟩,hr⟩ := h
    obtain ⟨cs,h1,h2⟩ := zjJ r b (o + 1) hr
    refine ⟨v :: cs,by simp only [z0v]; exact ⟨hd,h1⟩,fun j u hj => ?_⟩
    cases j with
    | zero => simp at hj; subst hj; simpa using hv
    | succ j =>
      have := h2 j u (by simpa using hj)
      rwa [show o + 1 + j = o + (j + 1) by omega] at this
theorem zso {b o : Nat} {cs : List Value} (h : tells I b o cs) (k n : Nat) : tells I b (o + k) ((cs.drop k).take n) := by
  intro j v hv
  rw [List.getElem?_take] at hv
  split at hv
  · rw [List.getElem?_drop] at hv
    have := h (k + j) v hv
    rwa [← Nat.add_assoc] at this
  · cases hv
theorem zie (h : WInv cx I s hp w) {b o : Nat} {cs : List Value} (ht : tells I b o cs) : stands w b o cs := fun j v hv => h.agree _ _ _ (ht j v hv)
theorem run_indexAt_slice {t e : TypeId} {i : TypeInfo} (ht : P.underlying t = some (.slice e)) (hi : P.info? e = some i) {k : IntKind} {n : Int} {b o len cap : Nat} (h : within n len) :
    (Instr.indexAt t (.slice (some ⟨b,o,none⟩) len cap) (.int k n)).run P w = .ok (.pointer (some ⟨b,o + n.toNat * i.size,none⟩)) w := by
  simp only [Instr.indexAt,asIntOf,Sem.run_bind,Sem.run_pure,Result.andThen_ok,run_underlying ht]
  rw [if_pos h]
  simp only [Sem.run_bind,z1D hi,Result.andThen_ok,Sem.run_pure,zg8]
theorem run_indexAt_array {t e : TypeId} {i : TypeInfo} {len : Nat} (ht : P.underlying t = some (.array len e)) (hi : P.info? e = some i) {k : IntKind} {n : Int} {b o : Nat} (h : within n len) :
    (Instr.indexAt t (.pointer (some ⟨b,o,none⟩)) (.int k n)).run P w = .ok (.pointer (some ⟨b,o + n.toNat * i.size,none⟩)) w := by
  simp only [Instr.indexAt,asIntOf,Sem.run_bind,Sem.run_pure,Result.andThen_ok,run_underlying ht,Instr.sureAddr]
  rw [if_pos h]
  simp only [Sem.run_bind,z1D hi,Result.andThen_ok,Sem.run_pure,zg8]
theorem znb (h : WInv cx I s hp w) (hsub : ∀ id c,hpr id = some c → hp id = some c) {t : TypeId} {x j : V} {e : Eff} (he : zkC P hpr t x j = some e) (hc : ∀ p ∈ e.conds,p)
    {v u : Value} (hv : repV I s x v) (hu : repV I s j u) : e.upd = [] ∧ ∃ y,(Instr.indexAt t v u).run P w = .ok y w ∧ repV I s e.v y := by
  unfold zkC at he
  split at he
  · rename_i e' k i hd
    have ht := z0t hd (by simp)
    simp only [repV] at hu
    subst hu
    split at he
    · rename_i a xs fl
      cases hz : (tsz P e' (size a) && Nat.blt 0 (size a)) with
      | false => simp [hz] at he
      | true =>
        simp only [hz,cond_true,Option.some.injEq] at he
        subst he
        simp only [Bool.and_eq_true] at hz
        obtain ⟨inf,hi,hsz,_⟩ := z4w hz.1
        have hpos : 0 < size a := by simpa using hz.2
        have hw : within i xs.length := hc _ (by simp)
        simp only [repV] at hv
        obtain ⟨hv,_⟩ := hv
        simp only [repD] at hv
        obtain ⟨base,cap,rfl,_,hx⟩ := hv
        have hne : xs.length ≠ 0 := by have := hw.1; have := hw.2; omega
        rcases hx with hx | ⟨b,o,rfl,hx⟩
        · have := z0V a xs
          rw [hx] at this
          rcases Nat.mul_eq_zero.1 this.symm with h1 | h1
          · exact absurd h1 hne
          · omega
        · obtain ⟨cs,h1,h2⟩ := zbb _ _ hx
          refine ⟨rfl,_,run_indexAt_slice ht hi hw,?_⟩
          simp only [repV]
          refine ⟨b,o + i.toNat * size a,by rw [hsz]; rfl,?_⟩
          exact zjA _ _ _ _ (z5M (zfm xs cs i.toNat _ h1 (zsZ hw))) (zso h2 _ _)
    · rename_i id
      split at he
      · rename_i a xs fz hid
        cases hz : (tsz P e' (size a) && Nat.blt 0 (size a)) with
        | false => simp [hz] at he
        | true =>
          simp only [hz,cond_true,Option.some.injEq] at he
          subst he
          simp only [Bool.and_eq_true] at hz
          obtain ⟨inf,hi,hsz,_⟩ := z4w hz.1
          have hw : within i xs.length := hc _ (by simp)
          have hne : xs.length ≠ 0 := by have := hw.1; have := hw.2; omega
          simp only [repV] at hv
          have hr := h.cont id _ (hsub _ _ hid)
          simp only [repC] at hr
          obtain ⟨base,cap,k1,k2,k3⟩ := hr
          rw [k1] at hv
          have hv' := Option.some.inj hv.1
          subst hv'
          rcases k3 with rfl | ⟨b,rfl,_⟩
          · omega
          · refine ⟨rfl,_,run_indexAt_slice ht hi hw,?_⟩
            simp only [repV]
            obtain ⟨c',rfl⟩ : ∃ c',cap = c' + 1 := ⟨cap - 1,by omega⟩
            exact ⟨b,.inr ⟨_,c',k1⟩,by rw [hsz]; simp⟩
      · cases he
    · cases he
  · rename_i n e' k i hd
    have ht := z0t hd (by simp)
    simp only [repV] at hu
    subst hu
    split at he
    · rename_i id
      split at he
      · rename_i a xs hid
        cases hz : (tsz P e' (size a) && Nat.blt 0 (size a)) with
        | false => simp [hz] at he
        | true =>
          simp only [hz,cond_true,Option.some.injEq] at he
          subst he
          simp only [Bool.and_eq_true] at hz
          obtain ⟨inf,hi,hsz,_⟩ := z4w hz.1
          have hw : within i xs.length := hc _ (by simp)
          have hn : xs.length = n := hc _ (by simp)
          simp only [repV] at hv
          obtain ⟨b,k1,rfl⟩ := hv
          refine ⟨rfl,_,run_indexAt_array ht hi (by rw [hn] at hw; exact hw),?_⟩
          simp only [repV]
          exact ⟨b,.inl k1,by rw [hsz]; simp⟩
      · cases he
    · cases he
  · cases he
end
end Go.PE
namespace Go.PE
section
variable [Univ] [z2U] {cx : Cx} {I : Facts} {s : Hand} {hp hpr : Nat → Option C} {w : World} {P : Program}
theorem zrG {t : TypeId} (ht : P.underlying t = some .string) {l : List UInt8} {k : IntKind} {i : Int} (h : within i l.length) :
    (Instr.index t (.string ⟨l.toArray⟩) (.int k i)).run P w = .ok (.int .u8 (bt l i)) w := by
  have hs : (ByteArray.mk l.toArray).size = l.length := by simp [ByteArray.size]
  rw [run_index_string w t _ k i ht,dif_pos (by rw [hs]; exact h)]
  congr 2
  simp only [bt]
  congr 2
  have hlt : i.toNat < l.length := by have := h.1; have := h.2; omega
  simp [List.getD,hlt,ByteArray.getElem_eq_getElem_data]
theorem zyI {d : TypeDesc} (h : zxz d = true) : d ≠ .invalid ∧ zgP d = false := by
  cases d <;> first | (simp [zxz] at h; done) | exact ⟨by simp,rfl⟩
theorem ztR {t : TypeId} {x j : V} {e : Eff} (he : zwd P t x j = some e) (hc : ∀ p ∈ e.conds,p)
    {v u : Value} (hv : repV I s x v) (hu : repV I s j u) : e.upd = [] ∧ ∃ y,(Instr.index t v u).run P w = .ok y w ∧ repV I s e.v y := by
  unfold zwd at he
  split at he
  · rename_i l k i hd
    simp only [Option.some.injEq] at he
    subst he
    have hw : within i l.length := hc _ (by simp)
    simp only [repV] at hv hu
    subst hv; subst hu
    exact ⟨rfl,_,zrG (z0t hd (by simp)) hw,by simp only [repV]⟩
  · rename_i n e' a xs k i hd
    cases hz : (tsz P e' 1 && !(z3k a) && zxz (und P e')) with
    | false => simp [hz] at he
    | true =>
      simp only [hz,cond_true,Option.some.injEq] at he
      subst he
      simp only [Bool.and_eq_true,Bool.not_eq_true'] at hz
      obtain ⟨inf,hi,hsz,_⟩ := z4w hz.1.1
      obtain ⟨q1,q2⟩ := zyI hz.2
      have hw : within i xs.length := hc _ (by simp)
      have hn : xs.length = n := hc _ (by simp)
      simp only [repV] at hv hu
      obtain ⟨cs,rfl,hr⟩ := hv
      subst hu
      have hs1 : size a = 1 := by cases a <;> first | rfl | (simp [z3k] at hz)
      have hseg := zfm xs cs.toList i.toNat _ hr (zsZ hw)
      obtain ⟨d,hd1⟩ := zwV a hz.1.2 (rdE a xs i)
      rw [hd1,hs1] at hseg
      have hg : ∃ y,cs[i.toNat]? = some y ∧ repD I d y := by
        cases hdr : cs.toList.drop (i.toNat * 1) with
        | nil => rw [hdr] at hseg; exact hseg.elim
        | cons y r =>
          rw [hdr] at hseg
          refine ⟨y,?_,hseg.1⟩
          have : (cs.toList.drop (i.toNat * 1))[0]? = some y := by rw [hdr]; rfl
          simpa using this
      obtain ⟨y,hy,hry⟩ := hg
      refine ⟨rfl,y,?_,zmV (by unfold isEl; rw [hz.1.2]; simp only; rw [hd1]; exact ⟨hry,trivial⟩)⟩
      simp only [Instr.index,asIntOf,Sem.run_bind,Sem.run_pure,Result.andThen_ok,run_underlying (z0t hd (by simp))]
      rw [if_pos (by rw [← hn]; exact hw)]
      simp only [Sem.run_bind,z1D hi,Result.andThen_ok,hsz,Nat.mul_one]
      exact z9g (z0t rfl q1) q2 hy
  · cases he
theorem zwU {t : TypeId} {d : TypeDesc} (hd : P.underlying t = some d) (ha : zgP d = true) {b : Nat} {cs : List Value} (hz : tsz P t cs.length = true) (hs : stands w b 0 cs) :
    (loadVar t ⟨b,0,none⟩).run P w = .ok (.agg cs.toArray) w := by
  obtain ⟨i,hi,hsz,hc⟩ := z4w hz
  simp only [loadVar,Sem.run_bind,zg4 hd ha,Result.andThen_ok,if_true,z1D hi]
  rw [hsz,run_loadCells_list w ⟨b,0,none⟩ cs (fun j v hv => by rw [zg8]; exact hs j v hv)]
  rfl
theorem zv1 {a : Shape} {xs : List (El a)} {b : Nat} {cs : List Value} (hr : z1t I (cellsD a xs) cs) (hs : stands w b 0 cs) {t : TypeId} {i : Int} {off : Nat} {x : V}
    (he : zeI P t (explode a (rdE a xs i)) off = some x) (hw : within i xs.length) :
    ∃ y,(loadVar t ⟨b,i.toNat * size a + off,none⟩).run P w = .ok y w ∧ repV I s x y := by
  have h1 := zke hs (i.toNat * size a) (size a)
  have := zk3 (I := I) (s := s) (P := P) he h1 (z5M (zfm xs cs i.toNat _ hr (zsZ hw)))
  simpa using this
theorem zo2 (h : WInv cx I s hp w) (hsub : ∀ id c,hpr id = some c → hp id = some c) {t : TypeId} {x : V} {e : Eff} (he : zxm P hpr t x = some e) (hc : ∀ p ∈ e.conds,p)
    {v : Value} (hv : repV I s x v) : e.upd = [] ∧ ∃ b o y,v = .pointer (some ⟨b,o,none⟩) ∧ (loadVar t ⟨b,o,none⟩).run P w = .ok y w ∧ repV I s e.v y := by
  unfold zxm at he
  split at he
  · rename_i id off
    split at he
    · rename_i cells hid
      split at he
      · rename_i z hz
        simp only [ok1,Option.some.injEq] at he
        subst he
        have hr := h.cont id _ (hsub _ _ hid)
        simp only [repC] at hr
        obtain ⟨b,arr,e',fr,k1,k2,_,_,k5⟩ := hr
        simp only [repV] at hv
        obtain ⟨b',q1,rfl⟩ := hv
        rw [k1] at q1
        cases q1
        obtain ⟨y,hy,hr'⟩ := zk3 (P := P) hz (zfQ k2) k5
        exact ⟨rfl,b,off,y,rfl,by simpa using hy,hr'⟩
      · cases he
    · rename_i a xs hid
      split at he
      · rename_i n e' hd
        cases hz : (tsz P e' (size a) && tsz P t (n * size a)) with
        | false => simp [hz] at he
        | true =>
          simp only [hz,cond_true,Option.some.injEq] at he
          subst he
          simp only [Bool.and_eq_true] at hz
          have hn : xs.length = n := hc _ (by simp)
          have hr := h.cont id _ (hsub _ _ hid)
          simp only [repC] at hr
          obtain ⟨b,arr,e'',fr,k1,k2,_,_,k5⟩ := hr
          simp only [repV] at hv
          obtain ⟨b',q1,rfl⟩ := hv
          rw [k1] at q1
          cases q1
          have hlen : arr.toList.length = n * size a := by rw [← z1c _ _ k5,z0V,hn]
          refine ⟨rfl,b,0,_,rfl,zwU (z0t hd (by simp)) rfl (by rw [hlen]; exact hz.2) (zfQ k2),?_⟩
          simp only [repV]
          exact ⟨_,rfl,by simpa using k5⟩
      · cases he
    · cases he
  · rename_i id sz i off
    split at he
    · rename_i a xs fz hid
      cases hz : Nat.beq (size a) sz with
      | false => simp [hz] at he
      | true =>
        have hsz := Nat.eq_of_beq_eq_true hz
        simp only [hz,cond_true] at he
        split at he
        · rename_i z hz'
          simp only [Option.some.injEq] at he
          subst he
          have hw : within i xs.length := hc _ (by simp)
          have hr := h.cont id _ (hsub _ _ hid)
          simp only [repC] at hr
          obtain ⟨base,cap,k1,k2,k3⟩ := hr
          have hne : xs.length ≠ 0 := by have := hw.1; have := hw.2; omega
          rcases k3 with rfl | ⟨b,rfl,arr,e',fr,q1,q2,q3,q4,q5,q6,q7⟩
          · omega
          · simp only [repV] at hv
            obtain ⟨b',g1,rfl⟩ := hv
            have hb : b' = b := by
              rcases g1 with g1 | ⟨n,c,g1⟩
              · rw [k1] at g1; cases g1
              · rw [k1] at g1; cases g1; rfl
            subst hb
            obtain ⟨y,hy,hr'⟩ := zv1 (s := s) (P := P) q4 (zk6 (zfQ q1) _) hz' hw
            exact ⟨rfl,b',_,y,rfl,by rw [← hsz]; exact hy,hr'⟩
        · cases he
    · rename_i a xs hid
      cases hz : Nat.beq (size a) sz with
      | false => simp [hz] at he
      | true =>
        have hsz := Nat.eq_of_beq_eq_true hz
        simp only [hz,cond_true] at he
        split at he
        · rename_i z hz'
          simp only [Option.some.injEq] at he
          subst he
          have hw : within i xs.length := hc _ (by simp)
          have hr := h.cont id _ (hsub _ _ hid)
          simp only [repC] at hr
          obtain ⟨b,arr,e',fr,k1,k2,_,_,k5⟩ := hr
          simp only [repV] at hv
          obtain ⟨b',g1,rfl⟩ := hv
          have hb : b' = b := by
            rcases g1 with g1 | ⟨n,c,g1⟩
            · rw [k1] at g1; cases g1; rfl
            · rw [k1] at g1; cases g1
          subst hb
          obtain ⟨y,hy,hr'⟩ := zv1 (s := s) (P := P) k5 (zfQ k2) hz' hw
          exact ⟨rfl,b',_,y,rfl,by rw [← hsz]; exact hy,hr'⟩
        · cases he
    · cases he
  · rename_i cells off
    split at he
    · rename_i z hz
      simp only [ok1,Option.some.injEq] at he
      subst he
      simp only [repV] at hv
      obtain ⟨b,o,rfl,hr⟩ := hv
      obtain ⟨cs,k1,k2⟩ := zjJ _ _ _ hr
      obtain ⟨y,hy,hr'⟩ := zk3 (P := P) hz (zie h k2) k1
      exact ⟨rfl,b,o + off,y,rfl,hy,hr'⟩
    · cases he
  · cases he
end
end Go.PE
namespace Go.PE
theorem z6I (P : Program) (g o : Nat) (t : TypeId) (fz : Nat × Nat) : ∀ (vs : List Value) (i : Nat) (cur : Array Value) (w : World),w.heap[g]? = some (.cells cur t fz) → thaw fz cur.size → o + i + vs.length ≤ cur.size → (∀ v ∈ vs,v.oneCell' = true) →
    (storeCells ⟨g,o,none⟩ vs i).run P w = .ok () (w.setRow g (cur.toList.take (o + i) ++ vs ++ cur.toList.drop (o + i + vs.length)).toArray)
  | [],i,cur,w,hg,_,_,_ => by
    simp only [storeCells,List.append_nil,List.length_nil,Nat.add_zero,List.take_append_drop,Array.toArray_toList]
    rw [setRow_self w g cur t fz hg]
    rfl
  | v :: rest,i,cur,w,hg,hfz,hl,h1 => by
    have hi : o + i < cur.size := by simp at hl; omega
    have hadd : (⟨g,o,none⟩ : Addr).add i = ⟨g,o + i,none⟩ := by unfold Addr.add; split <;> simp_all
    have hcell : w.cell? ⟨g,o + i,none⟩ = some cur[o + i] := by simp [World.cell?,hg,hi]
    have hfro : w.frozen? ⟨g,o + i,none⟩ = false := by
      have := hfz (o + i) hi
      obtain ⟨lo,hi'⟩ := fz
      simp only [World.frozen?,hg]
      simp only at this
      cases hd : (decide (lo ≤ o + i) && decide (o + i < hi')) with
      | false => rfl
      | true => simp at hd; exact absurd hd this
    have hst : (store ((⟨g,o,none⟩ : Addr).add i) v).run P w = .ok () (w.setRow g (cur.setIfInBounds (o + i) v)) := by
      rw [hadd,run_store P w _ v _ (h1 v (by simp)),hcell]
      simp [hfro,setCell_eq_setRow w g (o + i) cur t fz v hg]
    have ih := z6I P g o t fz rest (i + 1) (cur.setIfInBounds (o + i) v) (w.setRow g (cur.setIfInBounds (o + i) v)) (setRow_heap w g cur _ t _ hg) (by simpa using hfz) (by simp at hl ⊢; omega) (fun x hx => h1 x (by simp [hx]))
    simp only [storeCells,Sem.run_bind,hst,Result.andThen_ok,ih,setRow_setRow]
    congr 3
    have e := list_seg_step cur.toList (o + i) v rest (by simp at hl ⊢; omega)
    simpa [Array.toList_setIfInBounds,Nat.add_assoc] using e
theorem zcK (w : World) (b : Nat) (cs : Array Value) : But (some b) w (w.setRow b cs) where
  size := by simp
  heap k hk _ := setRow_other w b k cs (fun e => hk (by rw [e]))
  os := rfl
  tape := rfl
  out := rfl
theorem zeO {α : Type} (f : Nat → Option α) (i : Nat) (x y : α) : setF (setF f i x) i y = setF f i y := by
  funext j; simp only [setF]; split <;> rfl
section
variable [Univ] [z2U] {cx : Cx} {I : Facts} {s : Hand} {hp hpr : Nat → Option C} {w : World} {P : Program}
theorem WInv.rewrite (h : WInv cx I s hp w) {id : Nat} {c c' : C} {b : Nat} (hid : hp id = some c) (hb : blk s id c = some b) {w' : World} (hw : But (some b) w w')
    (hblk : ∀ b',blk s id c' = some b' → b' = b) (hI : ∀ o v,I b o = some v → w'.cell? ⟨b,o,none⟩ = some v) (hc : repC I s w' id c') : WInv cx I s (setF hp id c') w' := by
  have h1 := h.kill id
  have := h1.zk1 (s' := s) (I' := I) (w' := w') id c' (some b) (fun c0 h0 => by simp at h0; subst h0; rfl) (Hand.le_refl _) (fun i v hv => .inr hv) (fun b' hb' => by rw [hblk b' hb']) hw
    (Facts.le_refl _) (fun _ _ _ => rfl) (fun b' o v e hv => by cases e; exact hI o v hv)
    (fun b' e i c0 h0 hb' => by
      cases e
      by_cases hi : i = id
      · subst hi; simp at h0; subst h0; simp [blk] at hb'
      · rw [z0O _ _ hi] at h0
        exact hi (h.apart i id c0 c b h0 hid hb' hb))
    (fun b' e => by cases e; exact h.own id c b hid hb) hc
  rwa [zeO] at this
theorem zhP {I : Facts} {s : Hand} : ∀ (cells : List V) (arr : List Value) (off : Nat) (cs : List V) (ys : List Value),z0v I s cells arr → z0v I s cs ys → off + cs.length ≤ cells.length →
    z0v I s (putN cells off cs) (arr.take off ++ ys ++ arr.drop (off + ys.length))
  | cells,arr,0,[],ys,h,hy,_ => by
    cases ys with
    | nil => simpa [putN] using h
    | cons _ _ => simp only [z0v] at hy
  | [],arr,0,c :: cs,ys,h,hy,hl => by simp at hl
  | x :: cells,arr,0,c :: cs,ys,h,hy,hl => by
    cases arr with
    | nil => simp only [z0v] at h
    | cons v arr =>
      cases ys with
      | nil => simp only [z0v] at hy
      | cons y ys =>
        simp only [z0v] at h hy
        have := zhP cells arr 0 cs ys h.2 hy.2 (by simp at hl ⊢; omega)
        simp only [putN,List.take_zero,List.nil_append,List.cons_append,Nat.zero_add,List.length_cons,List.drop_succ_cons] at this ⊢
        simp only [z0v]
        exact ⟨hy.1,this⟩
  | [],arr,n + 1,cs,ys,h,hy,hl => by simp at hl
  | x :: cells,arr,n + 1,cs,ys,h,hy,hl => by
    cases arr with
    | nil => simp only [z0v] at h
    | cons v arr =>
      simp only [z0v] at h
      have := zhP cells arr n cs ys h.2 hy (by simp at hl ⊢; omega)
      have e : n + 1 + ys.length = (n + ys.length) + 1 := by omega
      simp only [putN,List.take_succ_cons,List.cons_append,e,List.drop_succ_cons]
      simp only [z0v]
      exact ⟨h.1,this⟩
theorem zn6 {x : V} {v : Value} (hv : repV I s x v) (hs : (PE.cellsOf x).all scal = true) : z0v I s (PE.cellsOf x) v.cells.toList ∧ ∀ y ∈ v.cells.toList,y.oneCell' = true := by
  have key : z0v I s (PE.cellsOf x) v.cells.toList := by
    cases hx : scal x with
    | true => exact zfU hv (.inl hx) (fun _ => zp1 hv hx)
    | false =>
      cases x <;> first
        | (simp [PE.cellsOf,scal] at hs; done)
        | (simp [scal] at hx; done)
        | exact zfU hv (.inr ⟨_,rfl⟩) (fun h => by simp [scal] at h)
  refine ⟨key,fun y hy => ?_⟩
  obtain ⟨j,hj⟩ := List.getElem?_of_mem hy
  have hl := z3v _ _ key
  have hlt : j < (PE.cellsOf x).length := by rw [hl]; exact (List.getElem?_eq_some_iff.1 hj).1
  obtain ⟨y',h1,h2⟩ := zcZ _ _ key j _ (List.getElem?_eq_getElem hlt)
  rw [hj] at h1
  cases h1
  exact zp1 h2 (List.all_eq_true.1 hs _ (List.getElem_mem hlt))
theorem zcw {t : TypeId} {i : TypeInfo} (hi : P.info? t = some i) {v : Value} (hs : v.cells.toList.length = i.size) {b o : Nat} {e : TypeId} {fr : Nat × Nat} {cur : Array Value}
    (hg : w.heap[b]? = some (.cells cur e fr)) (ht : thaw fr cur.size) (hl : o + v.cells.toList.length ≤ cur.size) (h1 : ∀ y ∈ v.cells.toList,y.oneCell' = true) :
    (storeVar t ⟨b,o,none⟩ v).run P w = .ok () (w.setRow b (cur.toList.take o ++ v.cells.toList ++ cur.toList.drop (o + v.cells.toList.length)).toArray) := by
  have := z6I P b o e fr v.cells.toList 0 cur w hg ht (by simpa using hl) h1
  have hsz : v.cells.size = i.size := by simpa using hs
  simp only [storeVar,Sem.run_bind,z1D hi,Result.andThen_ok,hsz,ne_eq,not_true_eq_false,if_false]
  simpa using this
end
end Go.PE
namespace Go.PE
theorem zxy {I : Facts} {d : D} {v : Value} (h : repD I d v) : v.oneCell' = true := by
  cases d <;> simp only [repD] at h <;> first
    | (subst h; rfl)
    | (obtain ⟨_,_,rfl,_⟩ := h; rfl)
theorem zl1 {I : Facts} : ∀ (l : List D) (vs : List Value),z1t I l vs → ∀ y ∈ vs,y.oneCell' = true
  | [],[],_,y,h => by simp at h
  | d :: r,v :: q,e,y,h => by
    rcases List.mem_cons.1 h with rfl | h
    · exact zxy e.1
    · exact zl1 r q e.2 y h
  | [],_ :: _,e,_,_ => e.elim
  | _ :: _,[],e,_,_ => e.elim
theorem zBD {α : Type} (arr ys : List α) (a off n sz : Nat) (hy : ys.length = n) (h1 : off + n ≤ sz) (h2 : a + sz ≤ arr.length) :
    arr.take (a + off) ++ ys ++ arr.drop (a + off + n) =
      arr.take a ++ (((arr.drop a).take sz).take off ++ ys ++ ((arr.drop a).take sz).drop (off + n)) ++ arr.drop (a + sz) := by
  have e1 : arr.take (a + off) = arr.take a ++ ((arr.drop a).take sz).take off := by
    rw [List.take_add,List.take_take,Nat.min_eq_left (by omega)]
  have e2 : arr.drop (a + off + n) = ((arr.drop a).take sz).drop (off + n) ++ arr.drop (a + sz) := by
    rw [← List.drop_drop (i := sz) (j := a),List.drop_take]
    have : arr.drop (a + off + n) = (arr.drop a).drop (off + n) := by rw [List.drop_drop]; congr 1; omega
    rw [this]
    generalize arr.drop a = l
    have : l.drop sz = (l.drop (off + n)).drop (sz - (off + n)) := by rw [List.drop_drop]; congr 1; omega
    rw [this,List.take_append_drop]
  rw [e1,e2]
  simp [List.append_assoc]
theorem zzx {α : Type} (cs ys : List α) (p m : Nat) (h : p + ys.length ≤ m) (hm : m ≤ cs.length) :
    (cs.take p ++ ys ++ cs.drop (p + ys.length)).take m = cs.take p ++ ys ++ (cs.take m).drop (p + ys.length) := by
  have hl : (cs.take p ++ ys).length = p + ys.length := by simp; omega
  rw [List.take_append,List.take_of_length_le (by omega),hl,List.drop_take]
section
variable [Univ] [z2U] {cx : Cx} {I : Facts} {s : Hand} {hp hpr : Nat → Option C} {w : World} {P : Program}
theorem zpp {t : Shape} : ∀ (xs : List (El t)) (cs zs : List Value) (i : Nat) (y : El t),z1t I (cellsD t xs) cs → i < xs.length → z1t I (toD t y) zs →
    z1t I (cellsD t (xs.set i y)) (cs.take (i * size t) ++ zs ++ cs.drop (i * size t + size t))
  | [],_,_,_,_,_,h,_ => by simp at h
  | x :: r,cs,zs,0,y,h,_,hz => by
    have h' : z1t I (toD t x ++ cellsD t r) cs := by simpa [cellsD] using h
    have h2 := (z8Y _ _ _ h').2
    rw [z8e] at h2
    have : cellsD t ((x :: r).set 0 y) = toD t y ++ cellsD t r := by simp [cellsD]
    rw [this]
    simpa using z4O _ _ _ _ hz h2
  | x :: r,cs,zs,i + 1,y,h,hi,hz => by
    have h' : z1t I (toD t x ++ cellsD t r) cs := by simpa [cellsD] using h
    obtain ⟨h1,h2⟩ := z8Y _ _ _ h'
    rw [z8e] at h1 h2
    have ih := zpp r _ zs i y h2 (by simpa using hi) hz
    have : cellsD t ((x :: r).set (i + 1) y) = toD t x ++ cellsD t (r.set i y) := by simp [cellsD]
    rw [this]
    have := z4O _ _ _ _ h1 ih
    have e1 : (i + 1) * size t = size t + i * size t := by rw [Nat.add_mul]; omega
    rw [e1,List.take_add]
    rw [List.drop_drop] at this
    simpa [List.append_assoc,Nat.add_assoc] using this
theorem zeL {w : World} {b : Nat} {cur cs : Array Value} {e : TypeId} {fr : Nat × Nat} (hg : w.heap[b]? = some (.cells cur e fr)) : (w.setRow b cs).heap[b]? = some (.cells cs e fr) := setRow_heap w b cur cs e fr hg
theorem zxA {a : Shape} {xs : List (El a)} {cs ys : List Value} {i : Int} {off : Nat} {x : V} {y : El a} (h : WInv cx I s hp w) (hsub : ∀ id c,hpr id = some c → hp id = some c)
    (hr : z1t I (cellsD a xs) (cs.take (xs.length * size a))) (hw : within i xs.length) (hl : off + (PE.cellsOf x).length ≤ size a) (hy : z0v I s (PE.cellsOf x) ys)
    (hi : zbK hpr a (putN (explode a (rdE a xs i)) off (PE.cellsOf x)) = some y) (hlen : xs.length * size a ≤ cs.length) :
    z1t I (cellsD a (xs.set i.toNat y)) ((cs.take (i.toNat * size a + off) ++ ys ++ cs.drop (i.toNat * size a + off + ys.length)).take (xs.length * size a)) := by
  have hlt : i.toNat < xs.length := by have := hw.1; have := hw.2; omega
  have hmul : i.toNat * size a + size a ≤ xs.length * size a := by rw [← Nat.succ_mul]; exact Nat.mul_le_mul_right _ hlt
  have hyl := z3v _ _ hy
  have hseg := zfm xs _ i.toNat _ hr (zsZ hw)
  have hsl : (explode a (rdE a xs i)).length = size a := by
    have h1 := z3v _ _ (z5M (I := I) (s := s) hseg)
    have h2 := z1c _ _ hseg
    rw [z8e] at h2
    omega
  have hput := zhP _ _ off _ _ (z5M (I := I) (s := s) hseg) hy (by rw [hsl]; exact hl)
  have hD := zdb h hsub hi hput
  have hset := zpp xs _ _ i.toNat y hr hlt hD
  have e := zBD (cs.take (xs.length * size a)) ys (i.toNat * size a) off ys.length (size a) rfl (by omega) (by rw [List.length_take]; omega)
  rw [← e] at hset
  have e2 : (cs.take (i.toNat * size a + off) ++ ys ++ cs.drop (i.toNat * size a + off + ys.length)).take (xs.length * size a) =
      (cs.take (xs.length * size a)).take (i.toNat * size a + off) ++ ys ++ (cs.take (xs.length * size a)).drop (i.toNat * size a + off + ys.length) := by
    rw [List.take_take,Nat.min_eq_left (by omega)]
    exact zzx cs ys _ _ (by omega) hlen
  rw [e2]
  exact hset
theorem zgB {t : TypeId} {a : Addr} {u : Value} {w w' : World} (h : (storeVar t a u).run P w = .ok () w') : (Instr.storeAt t (.pointer (some a)) u).run P w = .ok () w' := by
  simp only [Instr.storeAt,Instr.sureAddr,Sem.run_bind,Sem.run_pure,Result.andThen_ok]; exact h
theorem z9s {α : Type} (cs ys : List α) (p : Nat) (h : p + ys.length ≤ cs.length) : (cs.take p ++ ys ++ cs.drop (p + ys.length)).length = cs.length := by
  simp; omega
theorem ztC (h : WInv cx I s hp w) (hsub : ∀ id c,hpr id = some c → hp id = some c) {t : TypeId} {p x : V} {e : Eff} (he : zwB P hpr t p x = some e) (hc : ∀ q ∈ e.conds,q)
    {v u : Value} (hv : repV I s p v) (hu : repV I s x u) : ∃ w',(Instr.storeAt t v u).run P w = .ok () w' ∧ Res cx I s hp e.upd e.v Go.undef w' := by
  unfold zwB at he
  split at he
  · rename_i id off
    split at he
    · rename_i cells hid
      simp only at he
      cases hz : (tsz P t (PE.cellsOf x).length && Nat.ble (off + (PE.cellsOf x).length) cells.length && (PE.cellsOf x).all scal) with
      | false => simp [hz] at he
      | true =>
        simp only [hz,cond_true,Option.some.injEq] at he
        subst he
        simp only [Bool.and_eq_true] at hz
        obtain ⟨⟨z1,z2⟩,z3⟩ := hz
        obtain ⟨i,hi,hsz,_⟩ := z4w z1
        have hle := Nat.le_of_ble_eq_true z2
        obtain ⟨hcs,hone⟩ := zn6 hu z3
        have hlen := z3v _ _ hcs
        have hr := h.cont id _ (hsub _ _ hid)
        simp only [repC] at hr
        obtain ⟨b,arr,e',fr,k1,k2,k3,k4,k5⟩ := hr
        have hal := z3v _ _ k5
        simp only [repV] at hv
        obtain ⟨b',q1,rfl⟩ := hv
        rw [k1] at q1
        cases q1
        have hrun := zcw (P := P) (w := w) (o := off) hi (by rw [← hlen,hsz]) k2 k3 (by have : arr.toList.length = arr.size := Array.length_toList; omega) hone
        refine ⟨_,zgB hrun,I,s,Facts.le_refl _,Hand.le_refl _,?_,by simp only [repV]⟩
        refine h.rewrite (hsub _ _ hid) (b := b) (by simp [blk,k1]) (zcK _ _ _) (fun b' hb' => by simp [blk,k1] at hb'; exact hb'.symm) (fun o v hI => by rw [k4] at hI; cases hI) ?_
        simp only [repC]
        refine ⟨b,_,e',fr,k1,zeL k2,?_,k4,?_⟩
        · have : (arr.toList.take off ++ u.cells.toList ++ arr.toList.drop (off + u.cells.toList.length)).toArray.size = arr.size := by
            rw [List.size_toArray,z9s _ _ _ (by omega)]; exact Array.length_toList
          rw [this]; exact k3
        · simpa using zhP _ _ off _ _ k5 hcs hle
    · rename_i a xs hid
      split at he
      · rename_i a' ys n e' hd
        split at he
        · rename_i zs hz
          obtain ⟨ee,rfl⟩ := zge hz
          subst ee
          cases hz2 : tsz P t (n * size a') with
          | false => simp [hz2] at he
          | true =>
            simp only [hz2,cond_true,Option.some.injEq] at he
            subst he
            obtain ⟨i,hi,hsz,_⟩ := z4w hz2
            have hn1 : ys.length = n := hc _ (by simp)
            have hn2 : xs.length = n := hc _ (by simp)
            simp only [repV] at hv hu
            obtain ⟨b',q1,rfl⟩ := hv
            obtain ⟨cs,rfl,hcs⟩ := hu
            have hr := h.cont id _ (hsub _ _ hid)
            simp only [repC] at hr
            obtain ⟨b,arr,e',fr,k1,k2,k3,k4,k5⟩ := hr
            rw [k1] at q1
            cases q1
            have hl1 : cs.toList.length = n * size a' := by rw [← z1c _ _ hcs,z0V,hn1]
            have hl2 : arr.toList.length = n * size a' := by rw [← z1c _ _ k5,z0V,hn2]
            have hone : ∀ y ∈ cs.toList,y.oneCell' = true := zl1 _ _ hcs
            have hrun := zcw (P := P) (w := w) (o := 0) (v := .agg cs) hi (by rw [hsz]; exact hl1) k2 k3 (by
              have h1 : arr.toList.length = arr.size := Array.length_toList
              show 0 + cs.toList.length ≤ arr.size
              omega) hone
            have hnew : arr.toList.take 0 ++ (Value.agg cs).cells.toList ++ arr.toList.drop (0 + (Value.agg cs).cells.toList.length) = cs.toList := by
              have : (Value.agg cs).cells = cs := rfl
              rw [this,List.drop_of_length_le (by omega)]
              simp
            rw [hnew] at hrun
            refine ⟨_,zgB hrun,I,s,Facts.le_refl _,Hand.le_refl _,?_,by simp only [repV]⟩
            refine h.rewrite (hsub _ _ hid) (b := b') (by simp [blk,k1]) (zcK _ _ _) (fun c' hb' => by simp [blk,k1] at hb'; exact hb'.symm) (fun o v hI => by rw [k4] at hI; cases hI) ?_
            simp only [repC]
            refine ⟨b',_,e',fr,k1,zeL k2,?_,k4,by simpa using hcs⟩
            have : cs.toList.toArray.size = arr.size := by
              have h1 : arr.toList.length = arr.size := Array.length_toList
              have h2 : cs.toList.length = cs.size := Array.length_toList
              simp; omega
            rw [this]; exact k3
        · cases he
      · cases he
    · cases he
  · rename_i id sz i off
    split at he
    · rename_i a xs hid
      cases hz : (Nat.beq (size a) sz && tsz P t (PE.cellsOf x).length && (PE.cellsOf x).all scal) with
      | false => simp [hz] at he
      | true =>
        simp only [hz,cond_true] at he
        split at he
        · rename_i y hy
          cases hz' : Nat.ble (off + (PE.cellsOf x).length) sz with
          | false => simp [hz'] at he
          | true =>
            simp only [hz',cond_true,Option.some.injEq] at he
            subst he
            simp only [Bool.and_eq_true] at hz
            obtain ⟨⟨z0,z1⟩,z3⟩ := hz
            have hsz0 := Nat.eq_of_beq_eq_true z0
            subst hsz0
            obtain ⟨inf,hi,hsz,_⟩ := z4w z1
            have hle := Nat.le_of_ble_eq_true hz'
            have hw : within i xs.length := hc _ (by simp)
            obtain ⟨hcs,hone⟩ := zn6 hu z3
            have hlen := z3v _ _ hcs
            have hr := h.cont id _ (hsub _ _ hid)
            simp only [repC] at hr
            obtain ⟨base,cap,k1,k2,k3⟩ := hr
            have hlt : i.toNat < xs.length := by have := hw.1; have := hw.2; omega
            rcases k3 with rfl | ⟨b,rfl,arr,e',fr,q1,q2,q3,q4,q5,q6,q7⟩
            · omega
            · obtain ⟨cap',rfl⟩ : ∃ c',cap = c' + 1 := ⟨cap - 1,by omega⟩
              simp only [repV] at hv
              obtain ⟨b',g1,rfl⟩ := hv
              have hb : b' = b := by
                rcases g1 with g1 | ⟨n,c,g1⟩
                · rw [k1] at g1; cases g1
                · rw [k1] at g1; cases g1; rfl
              subst hb
              have hal : arr.toList.length = arr.size := Array.length_toList
              have hmul : i.toNat * size a + size a ≤ xs.length * size a := by rw [← Nat.succ_mul]; exact Nat.mul_le_mul_right _ hlt
              have hmul2 : xs.length * size a ≤ arr.toList.length := by rw [hal,q3]; exact Nat.mul_le_mul_right _ k2
              have hrun := zcw (P := P) (w := w) (o := i.toNat * size a + off) hi (by rw [← hlen,hsz]) q1 q2.1 (by omega) hone
              refine ⟨_,zgB hrun,I,s,Facts.le_refl _,Hand.le_refl _,?_,by simp only [repV]⟩
              refine h.rewrite (hsub _ _ hid) (b := b') (by simp [blk,k1]) (zcK _ _ _) (fun c' hb' => by simp [blk,k1] at hb'; exact hb'.symm) (fun o v hI => by rw [q6 rfl] at hI; cases hI) ?_
              simp only [repC]
              refine ⟨_,cap' + 1,by rw [k1,List.length_set],by rw [List.length_set]; exact k2,.inr ⟨b',rfl,_,e',fr,zeL q1,?_,?_,?_,?_,fun _ => q6 rfl,fun h2 => by cases h2⟩⟩
              · rw [List.size_toArray,z9s _ _ _ (by omega),hal]; exact q2
              · rw [List.size_toArray,z9s _ _ _ (by omega),hal]; exact q3
              · rw [List.length_set]
                exact zxA h hsub q4 hw (by omega) hcs hy (by omega)
              · intro o v hI; rw [q6 rfl] at hI; cases hI
        · cases he
    · rename_i a xs hid
      cases hz : (Nat.beq (size a) sz && tsz P t (PE.cellsOf x).length && (PE.cellsOf x).all scal) with
      | false => simp [hz] at he
      | true =>
        simp only [hz,cond_true] at he
        split at he
        · rename_i y hy
          cases hz' : Nat.ble (off + (PE.cellsOf x).length) sz with
          | false => simp [hz'] at he
          | true =>
            simp only [hz',cond_true,Option.some.injEq] at he
            subst he
            simp only [Bool.and_eq_true] at hz
            obtain ⟨⟨z0,z1⟩,z3⟩ := hz
            have hsz0 := Nat.eq_of_beq_eq_true z0
            subst hsz0
            obtain ⟨inf,hi,hsz,_⟩ := z4w z1
            have hle := Nat.le_of_ble_eq_true hz'
            have hw : within i xs.length := hc _ (by simp)
            obtain ⟨hcs,hone⟩ := zn6 hu z3
            have hlen := z3v _ _ hcs
            have hr := h.cont id _ (hsub _ _ hid)
            simp only [repC] at hr
            obtain ⟨b,arr,e',fr,k1,k2,k3,k4,k5⟩ := hr
            have hlt : i.toNat < xs.length := by have := hw.1; have := hw.2; omega
            simp only [repV] at hv
            obtain ⟨b',g1,rfl⟩ := hv
            have hb : b' = b := by
              rcases g1 with g1 | ⟨n,c,g1⟩
              · rw [k1] at g1; cases g1; rfl
              · rw [k1] at g1; cases g1
            subst hb
            have hal : arr.toList.length = arr.size := Array.length_toList
            have hmul : i.toNat * size a + size a ≤ xs.length * size a := by rw [← Nat.succ_mul]; exact Nat.mul_le_mul_right _ hlt
            have hmul2 : xs.length * size a = arr.toList.length := by rw [← z1c _ _ k5,z0V]
            have hrun := zcw (P := P) (w := w) (o := i.toNat * size a + off) hi (by rw [← hlen,hsz]) k2 k3 (by omega) hone
            refine ⟨_,zgB hrun,I,s,Facts.le_refl _,Hand.le_refl _,?_,by simp only [repV]⟩
            refine h.rewrite (hsub _ _ hid) (b := b') (by simp [blk,k1]) (zcK _ _ _) (fun c' hb' => by simp [blk,k1] at hb'; exact hb'.symm) (fun o v hI => by rw [k4] at hI; cases hI) ?_
            simp only [repC]
            refine ⟨b',_,e',fr,k1,zeL k2,?_,k4,?_⟩
            · rw [List.size_toArray,z9s _ _ _ (by omega),hal]; exact k3
            · have := zxA (cs := arr.toList) (ys := u.cells.toList) h hsub (by rw [hmul2,List.take_length]; exact k5) hw (by omega) hcs hy (by omega)
              rw [hmul2,List.take_of_length_le (by rw [z9s _ _ _ (by omega)]; exact Nat.le_refl _)] at this
              exact this
        · cases he
    · cases he
  · cases he
end
end Go.PE
namespace Go.PE
theorem zuJ : ∀ (vs : List Value) (k off : Nat) (cells : Array Value),off + k + vs.length ≤ cells.size →
    ((vs.zipIdx k).foldl (fun (cs : Array Value) (p : Value × Nat) => cs.setIfInBounds (off + p.2) p.1) cells).toList = cells.toList.take (off + k) ++ vs ++ cells.toList.drop (off + k + vs.length)
  | [],k,off,cells,_ => by simp
  | v :: rest,k,off,cells,h => by
    have ih := zuJ rest (k + 1) off (cells.setIfInBounds (off + k) v) (by simp at h ⊢; omega)
    simp only [List.zipIdx_cons,List.foldl_cons]
    rw [ih]
    have hl : cells.toList.length = cells.size := Array.length_toList
    have e := list_seg_step cells.toList (off + k) v rest (by simp at h ⊢; omega)
    simpa [Array.toList_setIfInBounds,Nat.add_assoc] using e
theorem zqH {place : Nat → Option (Nat × Nat)} {cells : Array Value} {i off sz : Nat} {v : Value} {rest : List (Nat × Value)} (hp : place i = some (off,sz)) (hs : v.cells.size = sz) (hl : off + v.cells.size ≤ cells.size) :
    Instr.fill place cells ((i,v) :: rest) = Instr.fill place (cells.toList.take off ++ v.cells.toList ++ cells.toList.drop (off + v.cells.toList.length)).toArray rest := by
  have hc : (decide (v.cells.size ≠ sz) || decide (off + v.cells.size > cells.size)) = false := by simp [hs]; omega
  simp only [Instr.fill,hp]
  rw [if_neg (by simpa using hc)]
  congr 1
  apply Array.ext'
  have := zuJ v.cells.toList 0 off cells (by simpa using hl)
  rw [← Array.foldl_toList,Array.toList_zipIdx]
  simpa using this
section
variable [Univ] [z2U] {cx : Cx} {I I' : Facts} {s : Hand} {hp hpr : Nat → Option C} {w w' : World} {P : Program}
theorem WInv.zpC (h : WInv cx I s hp w) {i b : Nat} {c0 : C} (h1 : hp i = some c0) (h2 : blk s i c0 = some b) : b < w.heap.size := by
  have hr := h.cont i c0 h1
  cases c0 <;> simp only [repC,blk] at hr h2
  case dead => simp at h2
  case box cells => obtain ⟨b',arr,e,fr,k1,k2,_⟩ := hr; simp [k1] at h2; subst h2; exact z1s? k2
  case row r xs fz =>
    obtain ⟨base,cap,k1,k2,k3⟩ := hr
    rcases k3 with rfl | ⟨b',rfl,arr,e,fr,q,_⟩
    · simp [k1] at h2
    · cases cap with
      | zero => simp [k1] at h2
      | succ cap => simp [k1] at h2; subst h2; exact z1s? q
  case arr r xs => obtain ⟨b',arr,e,fr,k1,k2,_⟩ := hr; simp [k1] at h2; subst h2; exact z1s? k2
  case tmap k v es => obtain ⟨b',ens,clock,k1,k2,_⟩ := hr; simp [k1] at h2; subst h2; exact z1s? k2
  case siter r pos => obtain ⟨b',k1,k2⟩ := hr; simp [k1] at h2; subst h2; exact z1s? k2
  case miter m since seen last => obtain ⟨b',k1,k2⟩ := hr; simp [k1] at h2; subst h2; exact z1s? k2
theorem WInv.unknown (h : WInv cx I s hp w) {i : Nat} (hn : hp i = none) : s i = none := by
  cases hs : s i with
  | none => rfl
  | some v => have := h.dom i v hs; rw [hn] at this; simp at this
theorem z8T {s : Hand} {i : Nat} {v : Value} (h : s i = none) : s.le (setF s i v) := by
  intro j u hj
  by_cases hi : j = i
  · subst hi; rw [h] at hj; cases hj
  · rw [z0O _ _ hi]; exact hj
theorem WInv.create (h : WInv cx I s hp w) {nid : Nat} (hn : hp nid = none) (v : Value) (c : C) (hw : But (some w.heap.size) w w') (hle : I.le I')
    (hI : ∀ b,b ≠ w.heap.size → ∀ o,I' b o = I b o) (hag : ∀ o u,I' w.heap.size o = some u → w'.cell? ⟨w.heap.size,o,none⟩ = some u)
    (hB : ∀ b,blk (setF s nid v) nid c = some b → b = w.heap.size) (hc : repC I' (setF s nid v) w' nid c) : WInv cx I' (setF s nid v) (setF hp nid c) w' :=
  h.zk1 nid c (some w.heap.size) (fun c0 h0 => by rw [hn] at h0; cases h0) (z8T (h.unknown hn))
    (fun i u hu => by
      by_cases hi : i = nid
      · exact .inl hi
      · rw [z0O _ _ hi] at hu; exact .inr hu)
    (fun b hb => by rw [hB b hb]) hw hle (fun b hb o => hI b (fun e => hb (by rw [e])) o) (fun b o u e hu => by cases e; exact hag o u hu)
    (fun b e i c0 h0 hb => by cases e; have := h.zpC h0 hb; omega) (fun b e => by cases e; exact .inl h.size) hc
theorem WInv.z5j (h : WInv cx I s hp w) (o : Nat) : I w.heap.size o = none := by
  cases hv : I w.heap.size o with
  | none => rfl
  | some v => have := h.zmC hv; omega
theorem z7D (w : World) (o : Obj) : But (some w.heap.size) w (w.alloc o) where
  size := by rw [World.size_alloc]; omega
  heap b hb hlt := by simp only [World.alloc,Array.getElem?_push]; rw [if_neg (by omega)]
  os := rfl
  tape := rfl
  out := rfl
theorem alloc_at (w : World) (o : Obj) : (w.alloc o).heap[w.heap.size]? = some o := by simp [World.alloc,-World.alloc_eq]
theorem zqN (n : Nat) : thaw (0,0) n := fun o _ h => by omega
theorem zms (t : Shape) (n : Nat) : still t (0,0) n := ⟨zqN n,.inr fun h => by omega⟩
theorem zsi (v : Value) : repV I s (zvU v) v := by
  unfold zvU
  split <;> simp only [repV]
theorem zk4 : ∀ (l : List Value),z0v I s (l.map zvU) l
  | [] => by simp only [List.map_nil,z0v]
  | v :: r => by simp only [List.map_cons,z0v]; exact ⟨zsi v,zk4 r⟩
theorem zCp {t : TypeId} {v : Value} : (newVar t v).run P w = .ok ⟨w.heap.size,0,none⟩ (w.alloc (.cells v.cells t)) := rfl
theorem WInv.zAu (h : WInv cx I s hp w) {nid : Nat} (hn : hp nid = none) {cells : List V} {arr : Array Value} (hr : z0v I s cells arr.toList) (t : TypeId) :
    Res cx I s hp [(nid,.box cells)] (.ptr nid 0) (.pointer (some ⟨w.heap.size,0,none⟩)) (w.alloc (.cells arr t)) := by
  refine ⟨I,setF s nid (.pointer (some ⟨w.heap.size,0,none⟩)),Facts.le_refl _,z8T (h.unknown hn),?_,?_⟩
  · refine h.create hn _ _ (z7D _ _) (Facts.le_refl _) (fun _ _ _ => rfl) (fun o u hu => by rw [h.z5j] at hu; cases hu) (fun b hb => by simp [blk] at hb; exact hb.symm) ?_
    simp only [repC]
    exact ⟨_,arr,t,(0,0),by simp,alloc_at _ _,zqN _,h.z5j,zaP (Facts.le_refl _) (z8T (h.unknown hn)) _ _ hr⟩
  · simp only [repV]
    exact ⟨_,by simp,rfl⟩
theorem WInv.zAe (h : WInv cx I s hp w) {nid : Nat} (hn : hp nid = none) {a : Shape} {xs : List (El a)} {arr : Array Value} (hr : z1t I (cellsD a xs) arr.toList) (t : TypeId) :
    Res cx I s hp [(nid,.arr a xs)] (.ptr nid 0) (.pointer (some ⟨w.heap.size,0,none⟩)) (w.alloc (.cells arr t)) := by
  refine ⟨I,setF s nid (.pointer (some ⟨w.heap.size,0,none⟩)),Facts.le_refl _,z8T (h.unknown hn),?_,?_⟩
  · refine h.create hn _ _ (z7D _ _) (Facts.le_refl _) (fun _ _ _ => rfl) (fun o u hu => by rw [h.z5j] at hu; cases hu) (fun b hb => by simp [blk] at hb; exact hb.symm) ?_
    simp only [repC]
    exact ⟨_,arr,t,(0,0),by simp,alloc_at _ _,zqN _,h.z5j,hr⟩
  · simp only [repV]
    exact ⟨_,by simp,rfl⟩
end
end Go.PE
namespace Go.PE
section
variable [Univ] [z2U] {cx : Cx} {I I' : Facts} {s : Hand} {hp hpr : Nat → Option C} {w w' : World} {P : Program}
theorem z4A {t : TypeId} {i : TypeInfo} {z : Value} (hi : P.info? t = some i) (hz : i.zero = some z) : (zeroValue t).run P w = .ok z w := by
  simp [zeroValue,zcu hi,hz]
theorem zyz {t : Shape} {v : Value} (h : isZ t v = true) : z1t I (toD t (dflt t)) [v] := by
  cases t with
  | int k =>
    cases v <;> simp only [isZ] at h <;> try (simp at h; done)
    case int k' n =>
      simp only [Bool.and_eq_true,beq_iff_eq] at h
      have := ziH h.1
      subst this
      obtain ⟨_,rfl⟩ := h
      show z1t I [.int k 0] [.int k 0]
      exact ⟨by simp only [repD],trivial⟩
  | bool =>
    cases v <;> simp only [isZ] at h <;> try (simp at h; done)
    case bool b =>
      simp at h; subst h
      show z1t I [.bool false] [.bool false]
      exact ⟨by simp only [repD],trivial⟩
  | str =>
    cases v <;> simp only [isZ] at h <;> try (simp at h; done)
    case string t =>
      obtain ⟨⟨l⟩⟩ := t
      simp at h
      subst h
      show z1t I [.str []] [.string ⟨⟨[]⟩⟩]
      exact ⟨by simp only [repD],trivial⟩
  | list u =>
    have hv : v = .slice none 0 0 := by
      unfold isZ at h
      split at h <;> first | rfl | (cases h; done) | (rename_i h1; cases h1)
    subst hv
    exact ⟨zx8 I u,trivial⟩
  | user n => cases v <;> simp [isZ] at h
theorem zqP {t : Shape} : ∀ (cs : List Value),cs.all (isZ t) = true → z1t I (cellsD t (List.replicate cs.length (dflt t))) cs
  | [],_ => by simp [cellsD,z1t]
  | v :: r,h => by
    simp only [List.all_cons,Bool.and_eq_true] at h
    have h1 := zyz (I := I) h.1
    have h2 := zqP r h.2
    have : cellsD t (List.replicate (v :: r).length (dflt t)) = toD t (dflt t) ++ cellsD t (List.replicate r.length (dflt t)) := by simp [cellsD,List.replicate_succ]
    rw [this]
    exact z4O _ _ [v] r h1 h2
theorem zgs {x : V} {v : Value} (hv : repV I s x v) (hs : zru x = true) : z0v I s (PE.cellsOf x) v.cells.toList := by
  cases hx : scal x with
  | true => exact zfU hv (.inl hx) (fun _ => zp1 hv hx)
  | false => cases x <;> first
    | (simp [zru,hx] at hs; done)
    | exact zfU hv (.inr ⟨_,rfl⟩) (fun h => by simp [scal] at h)
theorem zwi (h : WInv cx I s hp w) {nid : Nat} (hn : hp nid = none) {x : V} {e : Eff} (he : zzQ nid x = some e) {v : Value} (hv : repV I s x v) (t : TypeId) : ∃ y w',(Instr.box t v).run P w = .ok y w' ∧ Res cx I s hp e.upd e.v y w' := by
  have run : (Instr.box t v).run P w = .ok (.pointer (some ⟨w.heap.size,0,none⟩)) (w.alloc (.cells v.cells t)) := rfl
  have box : ∀ cells,e = ⟨.ptr nid 0,[(nid,.box cells)],[]⟩ → z0v I s cells v.cells.toList → ∃ y w',(Instr.box t v).run P w = .ok y w' ∧ Res cx I s hp e.upd e.v y w' := by
    intro cells he hr
    subst he
    exact ⟨_,_,run,h.zAu hn hr t⟩
  unfold zzQ at he
  split at he
  · simp only [Option.some.injEq] at he
    subst he
    simp only [repV] at hv
    obtain ⟨cs,rfl,hr⟩ := hv
    exact ⟨_,_,run,h.zAe hn hr t⟩
  · cases hs : zru x with
    | false => simp [hs] at he
    | true =>
      simp only [hs,cond_true,Option.some.injEq] at he
      exact box _ he.symm (zgs hv hs)
theorem zuo (h : WInv cx I s hp w) {nid : Nat} (hn : hp nid = none) {t : TypeId} {e : Eff} (he : ztf P nid t = some e) :
    ∃ y w',(Instr.alloc t true (.tuple #[])).run P w = .ok y w' ∧ Res cx I s hp e.upd e.v y w' := by
  have run : ∀ {i z},P.info? t = some i → i.zero = some z → (Instr.alloc t true (.tuple #[])).run P w = .ok (.pointer (some ⟨w.heap.size,0,none⟩)) (w.alloc (.cells z.cells t)) := by
    intro i z hi hz
    simp only [Instr.alloc,Sem.run_bind,z4A hi hz,Result.andThen_ok]
    rfl
  unfold ztf at he
  split at he
  · rename_i n e' hd
    split at he
    · rename_i a ha
      cases hu : z3k a with
      | true => simp [hu] at he
      | false =>
        cases hz : zkz P t a n with
        | false => simp [hu,hz] at he
        | true =>
          simp only [hu,hz,cond_true,cond_false,Option.some.injEq] at he
          subst he
          unfold zkz at hz
          split at hz
          · rename_i i hi
            split at hz
            · rename_i cs hcs
              simp only [Bool.and_eq_true] at hz
              have hl := Nat.eq_of_beq_eq_true hz.1
              have := zqP (I := I) _ hz.2
              rw [hl] at this
              exact ⟨_,_,run hi hcs,h.zAe hn this t⟩
            · cases hz
          · cases hz
    · cases he
  · split at he
    · rename_i cs hcs
      simp only [Option.some.injEq] at he
      subst he
      unfold zeroCells at hcs
      split at hcs
      · rename_i i hi
        split at hcs
        · rename_i z hz
          simp only [Option.some.injEq] at hcs
          subst hcs
          exact ⟨_,_,run hi hz,h.zAu hn (zk4 _) t⟩
        · cases hcs
      · cases hcs
    · cases he
end
end Go.PE
namespace Go.PE
section
variable [Univ] [z2U] {cx : Cx} {I I' : Facts} {s : Hand} {hp hpr : Nat → Option C} {w w' : World} {P : Program}
def zpf (I : Facts) (s : Hand) : List (Nat × V) → List (Nat × Value) → Prop
  | [],[] => True
  | (i,x) :: r,(j,v) :: q => i = j ∧ repV I s x v ∧ zpf I s r q
  | _,_ => False
theorem zqX {t : TypeId} {fs : Array Field} (ht : P.underlying t = some (.struct fs)) : ∀ (parts : List (Nat × V)) (vs : List (Nat × Value)) (cells cs : List V) (arr : Array Value),
    zz8 P t cells parts = some cs → zpf I s parts vs → z0v I s cells arr.toList →
    ∃ arr',Instr.fill ((fs.map fun f => (f.offset,P.cellsOf f.type))[·]?) arr vs = some arr' ∧ z0v I s cs arr'.toList
  | [],[],cells,cs,arr,hf,_,hr => by
    simp only [zz8,Option.some.injEq] at hf
    subst hf
    exact ⟨arr,rfl,hr⟩
  | (i,x) :: r,(j,v) :: q,cells,cs,arr,hf,hp,hr => by
    simp only [zpf] at hp
    obtain ⟨rfl,hx,hq⟩ := hp
    simp only [zz8] at hf
    split at hf
    · rename_i off ft hfa
      cases hz : (tsz P ft (PE.cellsOf x).length && Nat.ble (off + (PE.cellsOf x).length) cells.length && zru x) with
      | false => simp [hz] at hf
      | true =>
        simp only [hz,cond_true] at hf
        simp only [Bool.and_eq_true] at hz
        obtain ⟨inf,hi,hsz,hco⟩ := z4w hz.1.1
        have hle := Nat.le_of_ble_eq_true hz.1.2
        obtain ⟨fs',g,h1,h2,h3,h4⟩ := zi4 hfa
        rw [ht] at h1
        cases h1
        have hcs := zgs hx hz.2
        have hl := z3v _ _ hcs
        have hal := z3v _ _ hr
        have hlA : arr.toList.length = arr.size := Array.length_toList
        have hlV : v.cells.toList.length = v.cells.size := Array.length_toList
        rw [zqH (off := off) (sz := (PE.cellsOf x).length) (by simp [h2,h3,h4,hco]) (by omega) (by omega)]
        refine zqX ht r q _ cs _ hf hq ?_
        simpa using zhP _ _ off _ _ hr hcs hle
    · cases hf
  | [],_ :: _,_,_,_,_,hp,_ => hp.elim
  | _ :: _,[],_,_,_,_,hp,_ => hp.elim
theorem zia : ∀ (fs : List Field),fs.all (fun f => (P.info? f.type).isSome) = true →
    (fs.mapM fun f => (do pure (f.offset,← sizeOf f.type) : Sem (Nat × Nat))).run P w = .ok (fs.map fun f => (f.offset,P.cellsOf f.type)) w
  | [],_ => rfl
  | f :: r,h => by
    simp only [List.all_cons,Bool.and_eq_true] at h
    obtain ⟨i,hi⟩ := Option.isSome_iff_exists.1 h.1
    have hc : P.cellsOf f.type = i.size := by simp [Program.cellsOf,hi]
    simp only [List.mapM_cons,Sem.run_bind,z1D hi,Result.andThen_ok,Sem.run_pure,zia r h.2,List.map_cons,hc]
theorem zrh {a : Shape} (ha : z3k a = false) (h : WInv cx I s hp w) (hsub : ∀ id c,hpr id = some c → hp id = some c) : ∀ (parts : List (Nat × V)) (vs : List (Nat × Value)) (xs ys : List (El a)) (arr : Array Value),
    zyq hpr a xs parts = some ys → zpf I s parts vs → z1t I (cellsD a xs) arr.toList →
    ∃ arr',Instr.fill (fun i => some (i * 1,1)) arr vs = some arr' ∧ z1t I (cellsD a ys) arr'.toList
  | [],[],xs,ys,arr,hf,_,hr => by
    simp only [zyq,Option.some.injEq] at hf
    subst hf
    exact ⟨arr,rfl,hr⟩
  | (i,x) :: r,(j,v) :: q,xs,ys,arr,hf,hp,hr => by
    simp only [zpf] at hp
    obtain ⟨rfl,hx,hq⟩ := hp
    simp only [zyq] at hf
    split at hf
    · rename_i y hy
      cases hz : Nat.blt i xs.length with
      | false => simp [hz] at hf
      | true =>
        simp only [hz,cond_true] at hf
        have hlt : i < xs.length := by simpa [Nat.blt_eq] using hz
        obtain ⟨d,hd,hrd⟩ := ziL h hsub hy hx
        have hs1 : size a = 1 := by cases a <;> first | rfl | (simp [z3k] at ha)
        have hv1 : v.cells = #[v] := by have := zxy hrd; cases v <;> first | rfl | (simp [Value.oneCell'] at this)
        have hlen := z1c _ _ hr
        rw [z0V,hs1] at hlen
        have hlA : arr.toList.length = arr.size := Array.length_toList
        rw [zqH (off := i * 1) (sz := 1) rfl (by simp [hv1]) (by rw [hv1]; simp; omega)]
        refine zrh ha h hsub r q _ ys _ hf hq ?_
        have := zpp xs arr.toList [v] i y hr hlt (by rw [hd]; exact ⟨hrd,trivial⟩)
        rw [hs1] at this
        simpa [hv1] using this
    · cases hf
  | [],_ :: _,_,_,_,_,hp,_ => hp.elim
  | _ :: _,[],_,_,_,_,hp,_ => hp.elim
theorem zsW (h : WInv cx I s hp w) (hsub : ∀ id c,hpr id = some c → hp id = some c) {t : TypeId} {parts : List (Nat × V)} {e : Eff} (he : zwl P hpr t parts = some e)
    {vs : Array (Nat × Value)} (hp' : zpf I s parts vs.toList) :
    e.upd = [] ∧ ∃ y,(Instr.build t vs).run P w = .ok y w ∧ repV I s e.v y := by
  unfold zwl at he
  split at he
  · rename_i n e' hd
    have ht := z0t hd (by simp)
    split at he
    · rename_i a ha
      cases hu : z3k a with
      | true => simp [hu] at he
      | false =>
        cases hz : (zkz P t a n && tsz P e' 1) with
        | false => simp [hu,hz] at he
        | true =>
          simp only [hu,hz,cond_true,cond_false] at he
          split at he
          · rename_i xs hxs
            simp only [ok1,Option.some.injEq] at he
            subst he
            simp only [Bool.and_eq_true] at hz
            obtain ⟨z1,z2⟩ := hz
            obtain ⟨ie,hie,hse,_⟩ := z4w z2
            unfold zkz at z1
            split at z1
            · rename_i i hi
              split at z1
              · rename_i cs hcs
                simp only [Bool.and_eq_true] at z1
                have hl := Nat.eq_of_beq_eq_true z1.1
                have hz0 := zqP (I := I) _ z1.2
                rw [hl] at hz0
                obtain ⟨arr',g1,g2⟩ := zrh hu h hsub parts vs.toList _ xs cs hxs hp' hz0
                refine ⟨rfl,.agg arr',?_,by simp only [repV]; exact ⟨_,rfl,g2⟩⟩
                have hc : (Value.agg cs).cells = cs := rfl
                simp only [Instr.build,Sem.run_bind,z4A hi hcs,Result.andThen_ok,run_underlying ht,z1D hie,hse,hc,g1,Sem.run_pure]
              · cases z1
            · cases z1
          · cases he
    · cases he
  · rename_i fs hd
    have ht := z0t hd (by simp)
    cases hall : fs.toList.all (fun f => (P.info? f.type).isSome) with
    | false => simp [hall] at he
    | true =>
      simp only [hall,cond_true] at he
      split at he
      · rename_i cs hcs
        split at he
        · rename_i cs' hf
          simp only [ok1,Option.some.injEq] at he
          subst he
          unfold zeroCells at hcs
          split at hcs
          · rename_i i hi
            split at hcs
            · rename_i z hz
              simp only [Option.some.injEq] at hcs
              subst hcs
              obtain ⟨arr',g1,g2⟩ := zqX ht parts vs.toList _ cs' z.cells hf hp' (zk4 _)
              refine ⟨rfl,.agg arr',?_,by simp only [repV]; exact ⟨_,rfl,g2⟩⟩
              have hm : (fs.mapM fun f => (do pure (f.offset,← sizeOf f.type) : Sem (Nat × Nat))).run P w = .ok (fs.map fun f => (f.offset,P.cellsOf f.type)) w := by
                rw [Array.mapM_eq_mapM_toList,Sem.run_map,zia _ hall,Result.andThen_ok]
                congr 1
                apply Array.ext'
                simp
              simp only [Instr.build,Sem.run_bind,z4A hi hz,Result.andThen_ok,run_underlying ht,hm,g1,Sem.run_pure]
            · cases hcs
          · cases hcs
        · cases he
      · cases he
  · cases he
end
end Go.PE
