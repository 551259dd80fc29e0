/-
  PE, regions: a step that is told is a step that is run, in whatever order.
-/
import Derived.Test.YtifmnhcmmoacfaaGreatDoorQRegion
set_option linter.unusedVariables false
set_option linter.unusedSectionVars false
set_option linter.unusedSimpArgs false
namespace Go.PE
section
variable [Univ] [UnivOk] [Ground] {cx : Cx} {I I' : Facts} {s s' : Hand} {hp hpr hpL : Nat → Option C} {w w' : World} {P : Program}

theorem newIds_spec {hp : List (Nat × C)} {lo : Nat} : ∀ (l : List Nat), newIds hp lo l = true → ∀ id ∈ l, (lo ≤ id → id < lo + 100 → get hp id = none) ∧ (¬ (lo ≤ id ∧ id < lo + 100) → (get hp id).isSome = true)
  | [], _, id, h => by simp at h
  | i :: r, h, id, hid => by
    simp only [newIds, Bool.and_eq_true] at h
    rcases List.mem_cons.1 hid with rfl | hid
    · have h1 := h.1
      cases hb : (Nat.ble lo id && Nat.blt id (lo + 100)) with
      | true =>
        rw [hb, cond_true] at h1
        refine ⟨fun _ _ => by simpa using h1, fun hn => ?_⟩
        simp only [Bool.and_eq_true] at hb
        exact absurd ⟨Nat.le_of_ble_eq_true hb.1, by simpa [Nat.blt_eq] using hb.2⟩ hn
      | false =>
        rw [hb, cond_false] at h1
        refine ⟨fun q1 q2 => ?_, fun _ => h1⟩
        have : (Nat.ble lo id && Nat.blt id (lo + 100)) = true := by
          simp only [Bool.and_eq_true]
          exact ⟨Nat.ble_eq_true_of_le q1, by simpa [Nat.blt_eq] using q2⟩
        rw [this] at hb; cases hb
    · exact newIds_spec r h.2 id hid

theorem only_sub {acc : List Nat} {hp : Nat → Option C} {hpL : Nat → Option C} (h : ∀ id ∈ acc, hpL id = hp id) : ∀ id c, only acc hp id = some c → hpL id = some c := by
  intro id c hc
  unfold only at hc
  cases ha : acc.any (Nat.beq id) with
  | false => rw [ha] at hc; cases hc
  | true =>
    rw [ha, cond_true] at hc
    rw [h id (any_beq.1 ha)]; exact hc

/-- What the caller of a step is told. -/
def StepK (cx : Cx) (I : Facts) (s : Hand) (hpL : Nat → Option C) (o : Oper) (r : SR) (a : Act) (K : Act → World → Prop) : Prop :=
  ∀ v w' I' s', I.le I' → s.le s' → WInv cx I' s' (addF r.upd hpL) w' → repV I' s' r.v v → K (a.put o.dst v) w'

theorem step_sound (hG : Ground.G.le cx.I0) (h : WInv cx I s hpL w) {nt rid i : Nat} {ops : Array Oper} {d : RD} {o : Oper} {st : St} {r : SR} (hok : StepOk P (Spec P) nt rid ops.toList d o i st r) (hi : ops[i]? = some o)
    (hc : ∀ p ∈ r.conds, p) {a : Act} (htm : ∀ t ∈ slotsOf ops.toList o, SlotRep I s st.tm a.tmps t) (hacc : ∀ id ∈ r.foot.acc, hpL id = get st.hp id) {K : Act → World → Prop} {Q : Exit → Act → World → Prop} (hl : True)
    (hK : StepK cx I s hpL o r a K) : wpOp P ops Q i K a w := by
  have hop : ∀ t, Operand.tmp t ∈ o.op.operands.toList → SlotRep I s st.tm a.tmps t := fun t ht => htm t (slot_operand ht)
  have wanted : Region.wanted o (yielded ops a.tmps) = true → (o.wp P a w K Q ∨ (o.asks P a w ∧ LetsOut Q)) → wpOp P ops Q i K a w := by
    intro h1 h2
    unfold wpOp
    simp only [hi, h1, if_true]
    exact h2
  have unwanted : Region.wanted o (yielded ops a.tmps) = false → K (a.put o.dst Go.undef) w → wpOp P ops Q i K a w := by
    intro h1 h2
    unfold wpOp
    simp only [hi, h1, Bool.false_eq_true, if_false]
    exact h2
  -- the last touch
  have touch : ∀ {e0 : Eff} {v : V} {upd : List (Nat × C)} {conds : List Prop}, finish (nidOf rid i) i d e0 = some ⟨v, upd, conds⟩ → (∀ p ∈ conds, p) → (∀ id ∈ keys upd, hpL id = get st.hp id) → newIds st.hp (nidOf rid i) (keys upd) = true →
      (∀ p ∈ e0.conds, p) ∧ (∀ id ∈ keys e0.upd, id ∈ keys upd) ∧ ∀ u w', Res cx I s hpL e0.upd e0.v u w' → Res cx I s hpL upd v u w' := by
    intro e0 v upd conds hf hcs hup hnew
    rcases finish_cases hf with ⟨c, q1, rfl, rfl, rfl, q2⟩ | ⟨rfl, q1, q2⟩
    · refine ⟨hcs, fun id hid => by simp [keys] at hid ⊢; exact .inr hid, fun u w' hr => ?_⟩
      obtain ⟨I', s', r1, r2, r3, r4⟩ := hr
      have hnone : addF e0.upd hpL (nidOf rid i + 50) = none := by
        rw [addF_none _ _ _ q2, hup _ (by simp [keys])]
        exact (newIds_spec _ hnew (nidOf rid i + 50) (by simp [keys])).1 (by omega) (by omega)
      obtain ⟨n1, n2⟩ := r3.name hnone (.bool c)
      refine ⟨I', _, r1, Hand.le_trans r2 n2, n1, ?_⟩
      rw [q1] at r4
      simp only [repV] at r4 ⊢
      exact ⟨by simp, r4⟩
    · refine ⟨fun p hp => hcs p (q1 p hp), fun id hid => hid, fun u w' hr => ?_⟩
      obtain ⟨I', s', r1, r2, r3, r4⟩ := hr
      exact ⟨I', s', r1, r2, r3, q2 hcs I' s' u r4⟩
  cases hok with
  | no hd hr =>
    refine unwanted (runs_wanted hr htm) (hK _ w I s (Facts.le_refl _) (Hand.le_refl _) h ?_)
    simp only [repV]
    exact ⟨#[], rfl, by simp only [repVs]⟩
  | run hd hr he hf hn =>
    rename_i e0 v upd conds
    obtain ⟨t1, t2, t3⟩ := touch hf hc (fun id hid => hacc id (by simp [hid])) hn
    have hout := eff_sound (P := P) (a := a) (o := o) hG h (only_sub fun id hid => hacc id (by simp at hid ⊢; rcases hid with q | q <;> simp [q])) he t1
      (fun id hid q1 q2 => by
        rw [hacc id (by simp [t2 id hid])]
        exact (newIds_spec _ hn id (t2 id hid)).1 q1 q2)
      (fun x hx => evO_rep fun t e => hop t (e ▸ hx))
    refine wanted (runs_wanted hr htm) (hout K Q hl fun u w' hu => ?_)
    obtain ⟨I', s', r1, r2, r3, r4⟩ := t3 u w' hu
    exact hK u w' I' s' r1 r2 r3 r4
  | soft hd hg hs hf hn =>
    rename_i fl g v0 v upd conds
    obtain ⟨t1, t2, t3⟩ := touch hf hc (fun id hid => hacc id (by simp [hid])) hn
    have hsub := only_sub (acc := ments (opVals st.tm o)) (hp := get st.hp) (hpL := hpL) fun id hid => hacc id (by simp [hid])
    -- the tests hold, or not
    have key : (Region.wanted o (yielded ops a.tmps) = holds g) ∧ (holds g = true → ∀ q ∈ g, s q.1 = some (.bool q.2.1)) ∧
        ∀ (I' : Facts) (s' : Hand) (v : V) (y : Value), I.le I' → s.le s' → (holds g = true → repV I' s' v y) → (holds g = false → y = Go.undef) → repV I' s' (under g v) y := by
      rcases hg with ⟨rfl, hg⟩ | ⟨rfl, hr⟩
      · unfold tests at hg
        cases hgu : o.guard with
        | none =>
          rw [hgu] at hg
          cases hg
          exact ⟨by simp [Region.wanted, hgu, holds], fun _ q hq => by simp at hq, fun I' s' v y _ _ h1 _ => h1 rfl⟩
        | some gw =>
          obtain ⟨j, want⟩ := gw
          rw [hgu] at hg
          simp only at hg
          split at hg
          · rename_i o' hj
            split at hg
            · rename_i dd hdd
              split at hg
              · rename_i t c hcore
                cases hg
                have hsr := htm dd (slot_guard hgu hj hdd)
                unfold SlotRep at hsr
                obtain ⟨c1, c2, _⟩ := chain_known _ _ hsr hcore
                have hh : holds (chain (getV st.tm dd) ++ [(t, c, want)]) = (holds (chain (getV st.tm dd)) && (c == want)) := by simp [holds]
                refine ⟨?_, ?_, ?_⟩
                · rw [hh]
                  unfold Region.wanted
                  rw [hgu]
                  simp only
                  rw [yielded_eq hj hdd]
                  cases hb : holds (chain (getV st.tm dd)) with
                  | true =>
                    rw [(c1 hb).1]
                    cases c <;> cases want <;> rfl
                  | false =>
                    rw [c2 hb]
                    rfl
                · intro hy q hq
                  rw [hh, Bool.and_eq_true] at hy
                  obtain ⟨_, k2, k3⟩ := c1 hy.1
                  simp only [List.mem_append, List.mem_singleton] at hq
                  rcases hq with hq | rfl
                  · exact k3 q hq
                  · exact k2
                · intro I' s' v y hI hs' h1 h2
                  obtain ⟨_, _, c3⟩ := chain_known _ _ (repV_mono hI hs' _ _ hsr) hcore
                  exact c3 want v y (fun q => h1 (by rw [hh]; exact q)) (fun q => h2 (by rw [hh]; exact q))
              · cases hg
            · cases hg
          · cases hg
      · exact ⟨by rw [runs_wanted hr htm]; rfl, fun _ q hq => by simp at hq, fun I' s' v y _ _ h1 _ => h1 rfl⟩
    obtain ⟨k1, k2, k3⟩ := key
    cases hh : holds g with
    | true =>
      have hout := softEff_sound (P := P) (a := a) (o := o) hG h hsub hs hh (k2 hh) hop
      refine wanted (by rw [k1, hh]) (hout K Q hl fun u w' hu => ?_)
      obtain ⟨I', s', r1, r2, r3, r4⟩ := t3 u w' hu
      exact hK u w' I' s' r1 r2 r3 (k3 I' s' v u r1 r2 (fun _ => r4) (fun q => by rw [hh] at q; cases q))
    | false =>
      have hnames : ∃ s', s.le s' ∧ WInv cx I s' (addF upd hpL) w := by
        rcases finish_cases hf with ⟨c, q1, _, rfl, _, q2⟩ | ⟨rfl, _, _⟩
        · have hnone : hpL (nidOf rid i + 50) = none := by
            rw [hacc _ (by simp [keys])]
            exact (newIds_spec _ hn (nidOf rid i + 50) (by simp [keys])).1 (by omega) (by omega)
          obtain ⟨n1, n2⟩ := h.name hnone (.bool c)
          exact ⟨_, n2, n1⟩
        · exact ⟨s, Hand.le_refl _, h⟩
      obtain ⟨s', n1, n2⟩ := hnames
      refine unwanted (by rw [k1, hh]) (hK _ w I s' (Facts.le_refl _) n1 n2 ?_)
      exact k3 I s' v _ (Facts.le_refl _) n1 (fun q => by rw [hh] at q; cases q) (fun _ => rfl)

end
end Go.PE
