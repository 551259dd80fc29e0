/-
  PE, regions: in the text's order, and in any order that the edges allow.
-/
import Derived.Test.YtifmnhcmmoacfaaGreatDoorQStep
set_option linter.unusedVariables false
set_option linter.unusedSectionVars false
set_option linter.unusedSimpArgs false
namespace Go.PE

theorem get_addAll [Univ] : ∀ (l h : List (Nat × C)), get (addAll l h) = addF l (get h)
  | [], h => rfl
  | (i, c) :: r, h => by
    funext j
    simp only [addAll, get, addF, setF]
    by_cases e : i = j
    · subst e; rw [natBeq_self]; simp
    · rw [natBeq_ne e, cond_false, if_neg (Ne.symm e), get_addAll r h]

theorem addF_congr [Univ] : ∀ (l : List (Nat × C)) (f g : Nat → Option C) (id : Nat), f id = g id → addF l f id = addF l g id
  | [], f, g, id, h => h
  | (i, c) :: r, f, g, id, h => by
    simp only [addF, setF]
    split
    · rfl
    · exact addF_congr r f g id h

theorem addF_mem [Univ] : ∀ (l : List (Nat × C)) (f g : Nat → Option C) (id : Nat), id ∈ keys l → addF l f id = addF l g id
  | [], f, g, id, h => by simp [keys] at h
  | (i, c) :: r, f, g, id, h => by
    simp only [addF, setF]
    split
    · rfl
    · rename_i hne
      simp only [keys, List.map_cons, List.mem_cons] at h
      exact addF_mem r f g id (h.resolve_left hne)

theorem addF_skip [Univ] : ∀ (l : List (Nat × C)) (hp : Nat → Option C) (id : Nat), id ∉ keys l → addF l hp id = hp id
  | [], hp, id, _ => rfl
  | (i, c) :: r, hp, id, h => by
    simp only [keys, List.map_cons, List.mem_cons, not_or] at h
    simp only [addF]
    rw [setF_other _ _ h.1]
    exact addF_skip r hp id h.2

theorem getV_setD [Univ] (tm : List (Nat × V)) (d : Option Nat) (v : V) (t : Nat) : getV (setD tm d v) t = if d = some t then v else getV tm t := by
  cases d with
  | none => rfl
  | some e =>
    simp only [setD, getV, get]
    by_cases h : e = t
    · subst h; rw [natBeq_self]; simp
    · rw [natBeq_ne h, cond_false, if_neg (fun q => h (Option.some.inj q))]

section
variable [Univ]

/-- The state behind those operations that are listed. -/
def foldL (L : Nat → Bool) : List Oper → List SR → Nat → St → St
  | o :: os, r :: rs, i, st => foldL L os rs (i + 1) (bif L i then r.app o st else st)
  | _, _, _, st => st

theorem foldL_hp {L M : Nat → Bool} {id : Nat} : ∀ (os : List Oper) (rs : List SR) (i : Nat) (st st' : St), (∀ (j : Nat) (r : SR), rs[j]? = some r → id ∈ keys r.upd → L (i + j) = M (i + j)) → get st.hp id = get st'.hp id →
    get (foldL L os rs i st).hp id = get (foldL M os rs i st').hp id
  | o :: os, r :: rs, i, st, st', h, he => by
    simp only [foldL]
    refine foldL_hp os rs (i + 1) _ _ (fun j r' hj hk => by have := h (j + 1) r' (by simpa using hj) hk; rwa [show i + (j + 1) = i + 1 + j by omega] at this) ?_
    by_cases hk : id ∈ keys r.upd
    · have e := h 0 r rfl hk
      rw [Nat.add_zero] at e
      rw [e]
      cases M i with
      | false => exact he
      | true =>
        simp only [cond_true, SR.app, get_addAll]
        exact addF_congr _ _ _ _ he
    · have q : ∀ (b : Bool) (s : St), get (bif b then r.app o s else s).hp id = get s.hp id := by
        intro b s
        cases b with
        | false => rfl
        | true => simp only [cond_true, SR.app, get_addAll]; exact addF_skip _ _ _ hk
      rw [q, q, he]
  | [], _, i, st, st', h, he => by simpa [foldL] using he
  | _ :: _, [], i, st, st', h, he => by simpa [foldL] using he

theorem foldL_tm {L M : Nat → Bool} {t : Nat} : ∀ (os : List Oper) (rs : List SR) (i : Nat) (st st' : St), (∀ (j : Nat) (o : Oper), os[j]? = some o → o.dst = some t → L (i + j) = M (i + j)) → getV st.tm t = getV st'.tm t →
    getV (foldL L os rs i st).tm t = getV (foldL M os rs i st').tm t
  | o :: os, r :: rs, i, st, st', h, he => by
    simp only [foldL]
    refine foldL_tm os rs (i + 1) _ _ (fun j r' hj hk => by have := h (j + 1) r' (by simpa using hj) hk; rwa [show i + (j + 1) = i + 1 + j by omega] at this) ?_
    by_cases hk : o.dst = some t
    · have e := h 0 o rfl hk
      rw [Nat.add_zero] at e
      rw [e]
      cases M i with
      | false => exact he
      | true =>
        simp only [cond_true, SR.app, getV_setD, if_pos hk]
    · have q : ∀ (b : Bool) (s : St), getV (bif b then r.app o s else s).tm t = getV s.tm t := by
        intro b s
        cases b with
        | false => rfl
        | true => simp only [cond_true, SR.app, getV_setD, if_neg hk]
      rw [q, q, he]
  | [], _, i, st, st', h, he => by simpa [foldL] using he
  | _ :: _, [], i, st, st', h, he => by simpa [foldL] using he

theorem foldL_none {L : Nat → Bool} : ∀ (os : List Oper) (rs : List SR) (i : Nat) (st : St), (∀ j, L (i + j) = false) → foldL L os rs i st = st
  | o :: os, r :: rs, i, st, h => by
    simp only [foldL]
    have := h 0
    rw [Nat.add_zero] at this
    rw [this, cond_false]
    exact foldL_none os rs (i + 1) st fun j => by have := h (j + 1); rwa [show i + (j + 1) = i + 1 + j by omega] at this
  | [], _, _, _, _ => by simp [foldL]
  | _ :: _, [], _, _, _ => by simp [foldL]

theorem foldL_congr {L M : Nat → Bool} : ∀ (os : List Oper) (rs : List SR) (i : Nat) (st : St), (∀ j, j < os.length → L (i + j) = M (i + j)) → foldL L os rs i st = foldL M os rs i st
  | o :: os, r :: rs, i, st, h => by
    simp only [foldL]
    have := h 0 (by simp)
    rw [Nat.add_zero] at this
    rw [this]
    exact foldL_congr os rs (i + 1) _ fun j hj => by have := h (j + 1) (by simpa using hj); rwa [show i + (j + 1) = i + 1 + j by omega] at this
  | [], _, _, _, _ => by simp [foldL]
  | _ :: _, [], _, _, _ => by simp [foldL]

/-- The last listed writer. -/
theorem foldL_last_hp {L : Nat → Bool} {id : Nat} : ∀ (os : List Oper) (rs : List SR) (k n : Nat) (st : St) (o : Oper) (r : SR), os[n]? = some o → rs[n]? = some r → L (k + n) = true → id ∈ keys r.upd →
    (∀ (m : Nat) (r' : SR), n < m → rs[m]? = some r' → id ∈ keys r'.upd → L (k + m) = false) → get (foldL L os rs k st).hp id = addF r.upd (fun _ => none) id
  | o' :: os, r' :: rs, k, 0, st, o, r, ho, hr, hL, hid, h => by
    simp at ho hr
    subst ho; subst hr
    rw [Nat.add_zero] at hL
    simp only [foldL, hL, cond_true]
    have : get (foldL L os rs (k + 1) (r'.app o' st)).hp id = get (foldL (fun _ => false) os rs (k + 1) (r'.app o' st)).hp id :=
      foldL_hp os rs (k + 1) _ _ (fun j q hj hk => by have := h (j + 1) q (by omega) (by simpa using hj) hk; rwa [show k + (j + 1) = k + 1 + j by omega] at this) rfl
    rw [this, foldL_none _ _ _ _ (fun _ => rfl)]
    simp only [SR.app, get_addAll]
    exact addF_mem _ _ _ _ hid
  | o' :: os, r' :: rs, k, n + 1, st, o, r, ho, hr, hL, hid, h => by
    simp only [foldL]
    refine foldL_last_hp os rs (k + 1) n _ o r (by simpa using ho) (by simpa using hr) (by rwa [show k + 1 + n = k + (n + 1) by omega]) hid (fun m q hm hq hk => ?_)
    have := h (m + 1) q (by omega) (by simpa using hq) hk
    rwa [show k + (m + 1) = k + 1 + m by omega] at this
  | [], _, _, _, _, _, _, ho, _, _, _, _ => by simp at ho
  | _ :: _, [], _, _, _, _, _, _, hr, _, _, _ => by simp at hr

theorem foldL_last_tm {L : Nat → Bool} {t : Nat} : ∀ (os : List Oper) (rs : List SR) (k n : Nat) (st : St) (o : Oper) (r : SR), os[n]? = some o → rs[n]? = some r → L (k + n) = true → o.dst = some t →
    (∀ (m : Nat) (o' : Oper), n < m → os[m]? = some o' → o'.dst = some t → L (k + m) = false) → getV (foldL L os rs k st).tm t = r.v
  | o' :: os, r' :: rs, k, 0, st, o, r, ho, hr, hL, hid, h => by
    simp at ho hr
    subst ho; subst hr
    rw [Nat.add_zero] at hL
    simp only [foldL, hL, cond_true]
    have : getV (foldL L os rs (k + 1) (r'.app o' st)).tm t = getV (foldL (fun _ => false) os rs (k + 1) (r'.app o' st)).tm t :=
      foldL_tm os rs (k + 1) _ _ (fun j q hj hk => by have := h (j + 1) q (by omega) (by simpa using hj) hk; rwa [show k + (j + 1) = k + 1 + j by omega] at this) rfl
    rw [this, foldL_none _ _ _ _ (fun _ => rfl)]
    simp only [SR.app, getV_setD, if_pos hid]
  | o' :: os, r' :: rs, k, n + 1, st, o, r, ho, hr, hL, hid, h => by
    simp only [foldL]
    refine foldL_last_tm os rs (k + 1) n _ o r (by simpa using ho) (by simpa using hr) (by rwa [show k + 1 + n = k + (n + 1) by omega]) hid (fun m q hm hq hk => ?_)
    have := h (m + 1) q (by omega) (by simpa using hq) hk
    rwa [show k + (m + 1) = k + 1 + m by omega] at this
  | [], _, _, _, _, _, _, ho, _, _, _, _ => by simp at ho
  | _ :: _, [], _, _, _, _, _, _, hr, _, _, _ => by simp at hr

theorem runsTo_all {P : Program} {SP : Nat → List V → List C → V → List C → List C → Prop} {nt rid : Nat} {ops : List Oper} {d : RD} : ∀ (rest : List Oper) (i : Nat) (st : St) (rs : List SR) (st' : St), RunsTo P SP nt rid ops d rest i st rs st' →
    rs.length = rest.length ∧ foldL (fun _ => true) rest rs i st = st' ∧ ∀ (j : Nat) (o : Oper) (r : SR), rest[j]? = some o → rs[j]? = some r → StepOk P SP nt rid ops d o (i + j) (foldL (fun k => decide (k < i + j)) rest rs i st) r
  | [], i, st, [], st', h => ⟨rfl, by simp only [RunsTo] at h; simpa [foldL] using h, fun j o r ho => by simp at ho⟩
  | o :: rest, i, st, r :: rs, st', h => by
    obtain ⟨h1, h2⟩ := h
    obtain ⟨k1, k2, k3⟩ := runsTo_all rest (i + 1) _ rs st' h2
    refine ⟨by simp [k1], by simpa [foldL] using k2, fun j o' r' ho hr => ?_⟩
    cases j with
    | zero =>
      simp at ho hr
      subst ho; subst hr
      rw [foldL_none _ _ _ _ (fun j => by simp)]
      exact h1
    | succ j =>
      have := k3 j o' r' (by simpa using ho) (by simpa using hr)
      rw [show i + 1 + j = i + (j + 1) by omega] at this
      simp only [foldL]
      have hlt : decide (i < i + (j + 1)) = true := by simp
      rw [hlt, cond_true]
      exact this
  | [], _, _, _ :: _, _, h => h.elim
  | _ :: _, _, _, [], _, h => h.elim

theorem StepOk.feet {P : Program} {SP : Nat → List V → List C → V → List C → List C → Prop} {nt rid : Nat} {ops : List Oper} {d : RD} {o : Oper} {i : Nat} {st : St} {r : SR} (h : StepOk P SP nt rid ops d o i st r) :
    r.foot.i = i ∧ r.foot.wr = keys r.upd ∧ (∀ id ∈ keys r.upd, id ∈ r.foot.acc) ∧ r.foot.rd = slotsOf ops o ∧ r.foot.wt = o.dst.toList ∧ dstOk nt o.dst = true := by
  cases h with
  | soft hd _ _ _ _ => exact ⟨rfl, rfl, fun id hid => by simp [hid], rfl, rfl, hd⟩
  | run hd _ _ _ _ => exact ⟨rfl, rfl, fun id hid => by simp [hid], rfl, rfl, hd⟩
  | no hd _ => exact ⟨rfl, rfl, fun id hid => by simp [keys] at hid, rfl, rfl, hd⟩

/-! ### What must come before what -/
def conflict (f g : Foot) : Bool := meets f.wr g.acc || meets g.wr f.acc || meets f.wt g.rd || meets g.wt f.rd

theorem meets_iff : ∀ (a b : List Nat), meets a b = true ↔ ∃ x, x ∈ a ∧ x ∈ b
  | [], b => by simp [meets]
  | x :: r, b => by
    simp only [meets, Bool.or_eq_true, any_beq, meets_iff r b]
    constructor
    · rintro (h | ⟨y, h1, h2⟩)
      · exact ⟨x, by simp, h⟩
      · exact ⟨y, by simp [h1], h2⟩
    · rintro ⟨y, h1, h2⟩
      rcases List.mem_cons.1 h1 with rfl | h1
      · exact .inl h2
      · exact .inr ⟨y, h1, h2⟩

theorem orderedWith_spec {bf : List Nat} {g : Foot} : ∀ (l : List Foot), orderedWith bf g l = true → ∀ f ∈ l, conflict f g = true → Nat.testBit (bf.getD g.i 0) f.i = true
  | [], _, f, hf, _ => by simp at hf
  | x :: r, h, f, hf, hc => by
    simp only [orderedWith, Bool.and_eq_true] at h
    rcases List.mem_cons.1 hf with rfl | hf
    · have h1 := h.1
      unfold conflict at hc
      rw [hc] at h1
      simpa using h1
    · exact orderedWith_spec r h.2 f hf hc

theorem ordered_spec {bf : List Nat} : ∀ (l : List Foot), ordered bf l = true → l.Pairwise fun g f => conflict f g = true → Nat.testBit (bf.getD g.i 0) f.i = true
  | [], _ => List.Pairwise.nil
  | g :: r, h => by
    simp only [ordered, Bool.and_eq_true] at h
    exact List.Pairwise.cons (fun f hf => orderedWith_spec r h.1 f hf) (ordered_spec r h.2)

theorem edgeBits_spec {acc : List Nat} {i : Nat} : ∀ (es : List Edge), (edgeBits acc es).testBit i = true → ∃ e ∈ es, Region.binds .any e = true ∧ (i = e.on ∨ (acc.getD e.on 0).testBit i = true)
  | [], h => by simp [edgeBits] at h
  | e :: r, h => by
    have rest : (edgeBits acc r).testBit i = true → ∃ e' ∈ e :: r, Region.binds .any e' = true ∧ (i = e'.on ∨ (acc.getD e'.on 0).testBit i = true) := by
      intro hr
      obtain ⟨e', h1, h2⟩ := edgeBits_spec r hr
      exact ⟨e', by simp [h1], h2⟩
    have main : Region.binds .any e = true → (Nat.lor (Nat.lor (2 ^ e.on) (acc.getD e.on 0)) (edgeBits acc r)).testBit i = true → ∃ e' ∈ e :: r, Region.binds .any e' = true ∧ (i = e'.on ∨ (acc.getD e'.on 0).testBit i = true) := by
      intro hb hh
      have hh' : ((2 ^ e.on ||| acc.getD e.on 0) ||| edgeBits acc r).testBit i = true := hh
      rw [Nat.testBit_or, Nat.testBit_or, Bool.or_eq_true, Bool.or_eq_true] at hh'
      rcases hh' with (q | q) | q
      · rw [Nat.testBit_two_pow] at q
        exact ⟨e, by simp, hb, .inl (by have := of_decide_eq_true q; exact this.symm)⟩
      · exact ⟨e, by simp, hb, .inr q⟩
      · exact rest q
    unfold edgeBits at h
    split at h
    · exact rest h
    · exact rest h
    · rename_i h1 h2
      refine main ?_ h
      unfold Region.binds
      split
      · rename_i row hg; exact absurd hg (h1 row)
      · rename_i row hg; exact absurd hg (h2 row)
      · rfl

theorem befores_spec : ∀ (r : List Oper) (acc : List Nat), (∃ t, befores r acc = acc ++ t) ∧ ∀ (j : Nat) (o : Oper), r[j]? = some o → (befores r acc).getD (acc.length + j) 0 = edgeBits ((befores r acc).take (acc.length + j)) o.after.toList
  | [], acc => ⟨⟨[], by simp [befores]⟩, fun j o h => by simp at h⟩
  | x :: r, acc => by
    obtain ⟨⟨t, h1⟩, h2⟩ := befores_spec r (acc ++ [edgeBits acc x.after.toList])
    refine ⟨⟨edgeBits acc x.after.toList :: t, by simp only [befores]; rw [h1]; simp⟩, fun j o h => ?_⟩
    simp only [befores]
    cases j with
    | zero =>
      simp at h
      subst h
      rw [h1]
      simp
    | succ j =>
      have := h2 j o (by simpa using h)
      rw [List.length_append, List.length_singleton] at this
      rw [show acc.length + (j + 1) = acc.length + 1 + j by omega]
      exact this

theorem edgesLow_spec : ∀ (os : List Oper) (i : Nat), edgesLow os i = true → ∀ (j : Nat) (o : Oper), os[j]? = some o → ∀ e ∈ o.after.toList, Region.binds .any e = true → e.on < i + j
  | [], i, _, j, o, h, _, _, _ => by simp at h
  | x :: r, i, hl, j, o, h, e, he, hb => by
    simp only [edgesLow, Bool.and_eq_true, List.all_eq_true] at hl
    cases j with
    | zero =>
      simp at h
      subst h
      have := hl.1 e he
      unfold Region.binds at hb
      split at this
      · rename_i row hg; rw [hg] at hb; cases hb
      · rename_i row hg; rw [hg] at hb; cases hb
      · have := by simpa [Nat.blt_eq] using this
        omega
    | succ j =>
      have := edgesLow_spec r (i + 1) hl.2 j o (by simpa using h) e he hb
      omega

def closed (os : List Oper) (L : Nat → Bool) : Prop := ∀ (j : Nat) (o : Oper), L j = true → os[j]? = some o → ∀ e ∈ o.after.toList, Region.binds .any e = true → L e.on = true

/-- Whatever must come before an operation whose edges are satisfied has been listed. -/
theorem before_listed {os : List Oper} {L : Nat → Bool} (hlow : edgesLow os 0 = true) (hcl : closed os L) : ∀ (j i : Nat), ((befores os []).getD j 0).testBit i = true →
    (∀ (o : Oper), os[j]? = some o → ∀ e ∈ o.after.toList, Region.binds .any e = true → L e.on = true) → L i = true := by
  intro j
  induction j using Nat.strongRecOn with
  | ind j ih =>
    intro i hb hL
    obtain ⟨⟨t, ht⟩, hs⟩ := befores_spec os []
    cases ho : os[j]? with
    | none =>
      have hlen : ∀ (r : List Oper) (acc : List Nat), (befores r acc).length = acc.length + r.length := by
        intro r
        induction r with
        | nil => intro acc; simp [befores]
        | cons x r ih => intro acc; simp only [befores]; rw [ih]; simp; omega
      have hle := List.getElem?_eq_none_iff.1 ho
      have : (befores os []).getD j 0 = 0 := by
        rw [List.getD_eq_getElem?_getD, List.getElem?_eq_none (by rw [hlen]; simpa using hle)]; rfl
      rw [this] at hb
      simp at hb
    | some o =>
      have := hs j o ho
      simp only [List.length_nil, Nat.zero_add] at this
      rw [this] at hb
      obtain ⟨e, he, hbind, hcase⟩ := edgeBits_spec _ hb
      have hon := hL o ho e he hbind
      have hlt := edgesLow_spec os 0 hlow j o ho e he hbind
      rw [Nat.zero_add] at hlt
      rcases hcase with rfl | hcase
      · exact hon
      · refine ih e.on hlt i ?_ (fun o' ho' => hcl e.on o' hon ho')
        have e1 : ((befores os []).take j).getD e.on 0 = (befores os []).getD e.on 0 := by
          rw [List.getD_eq_getElem?_getD, List.getD_eq_getElem?_getD, List.getElem?_take, if_pos hlt]
        rwa [e1] at hcase

end
end Go.PE
