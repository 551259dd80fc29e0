/-
  PE, regions: soundness, in the text's order and in any order.
-/
import Derived.Test.YtifmnhcmmoacfaaGreatDoorQOrder
set_option linter.unusedVariables false
set_option linter.unusedSectionVars false
set_option linter.unusedSimpArgs false
namespace Go.PE
section
variable [Univ] [UnivOk] [Ground] {cx : Cx} {I I' Iin : Facts} {s s' sin : Hand} {hp hpr hpL : Nat → Option C} {w w' : World} {P : Program}

/-- The frame's slots and the world are as a state tells. -/
structure At (cx : Cx) (Iin : Facts) (sin : Hand) (nt : Nat) (st : St) (a : Act) (w : World) : Prop where
  ex : ∃ I s, Iin.le I ∧ sin.le s ∧ WInv cx I s (get st.hp) w ∧ ∀ t, SlotRep I s st.tm a.tmps t
  size : nt ≤ a.tmps.size
  defers : a.defers = []

theorem put_size (a : Act) (d : Option Nat) (v : Value) : (a.put d v).tmps.size = a.tmps.size := by
  cases d <;> simp [Act.put]

theorem put_defers (a : Act) (d : Option Nat) (v : Value) : (a.put d v).defers = a.defers := by
  cases d <;> rfl

theorem put_get (a : Act) {nt : Nat} {d : Option Nat} (hd : dstOk nt d = true) (hs : nt ≤ a.tmps.size) (v : Value) (t : Nat) : (a.put d v).tmps.getD t Go.undef = if d = some t then v else a.tmps.getD t Go.undef := by
  cases d with
  | none => simp [Act.put]
  | some e =>
    have : e < nt := by simpa [dstOk, Nat.blt_eq] using hd
    by_cases h : e = t
    · subst h
      rw [if_pos rfl]
      simp only [Act.put, Array.getD_eq_getD_getElem?]
      rw [Array.getElem?_setIfInBounds_self_of_lt (by omega)]
      rfl
    · rw [if_neg (fun q => h (Option.some.inj q))]
      simp only [Act.put, Array.getD_eq_getD_getElem?]
      rw [Array.getElem?_setIfInBounds_ne h]

theorem text_sound (hG : Ground.G.le cx.I0) {nt rid : Nat} {ops : Array Oper} {d : RD} {Q : Exit → Act → World → Prop} (hl : True) : ∀ (rest : List Oper) (i : Nat) (st : St) (rs : List SR) (st' : St),
    RunsTo P (Spec P) nt rid ops.toList d rest i st rs st' → (∀ (j : Nat) (o : Oper), rest[j]? = some o → ops[i + j]? = some o) → (∀ r ∈ rs, ∀ p ∈ r.conds, p) → (∀ a w, At cx Iin sin nt st' a w → Q .normal a w) →
    ∀ a w, At cx Iin sin nt st a w → wpOps P ops Q (List.range' i rest.length) a w
  | [], i, st, [], st', h, _, _, hQ, a, w, hat => by
    simp only [RunsTo] at h
    subst h
    exact hQ a w hat
  | o :: rest, i, st, r :: rs, st', h, ho, hc, hQ, a, w, hat => by
    obtain ⟨h1, h2⟩ := h
    obtain ⟨⟨I, s, e1, e2, e3, e4⟩, a1, a2⟩ := hat
    rw [List.length_cons, List.range'_succ, wpOps_cons]
    have hd := h1.feet.2.2.2.2.2
    refine step_sound hG e3 h1 (by simpa using ho 0 o rfl) (hc r (by simp)) (fun t _ => e4 t) (fun _ _ => rfl) hl ?_
    intro v w' I' s' g1 g2 g3 g4
    refine text_sound hG hl rest (i + 1) _ rs st' h2 (fun j o' hj => by rw [show i + 1 + j = i + (j + 1) by omega]; exact ho (j + 1) o' (by simpa using hj)) (fun r' hr' => hc r' (by simp [hr'])) hQ _ _ ⟨⟨I', s', Facts.le_trans e1 g1, Hand.le_trans e2 g2, ?_, ?_⟩, by rw [put_size]; exact a1, by rw [put_defers]; exact a2⟩
    · simp only [SR.app]
      rw [get_addAll]; exact g3
    · intro t
      unfold SlotRep
      rw [put_get a hd a1]
      simp only [SR.app, getV_setD]
      split
      · exact g4
      · exact repV_mono g1 g2 _ _ (e4 t)
  | [], _, _, _ :: _, _, h, _, _, _, _, _, _ => h.elim
  | _ :: _, _, _, [], _, h, _, _, _, _, _, _ => h.elim

def unl (l : List Bool) : Nat := l.countP (fun b => !b)

theorem unl_set : ∀ (l : List Bool) (i : Nat), l[i]? = some false → unl (l.set i true) + 1 = unl l
  | [], i, h => by simp at h
  | b :: r, 0, h => by simp at h; subst h; simp [unl]
  | b :: r, i + 1, h => by
    have := unl_set r i (by simpa using h)
    unfold unl at this ⊢
    cases b
    · simp only [List.set_cons_succ, List.countP_cons, Bool.not_false, if_true]; omega
    · simp only [List.set_cons_succ, List.countP_cons, Bool.not_true]; simpa using this

theorem unl_pos : ∀ (l : List Bool) (i : Nat), l[i]? = some false → 0 < unl l := fun l i h => by have := unl_set l i h; omega

def lst (listed : Array Bool) : Nat → Bool := fun i => listed.getD i false

theorem lst_set (listed : Array Bool) {i : Nat} (hi : i < listed.size) (j : Nat) : lst (listed.setIfInBounds i true) j = (if j = i then true else lst listed j) := by
  unfold lst
  by_cases h : j = i
  · subst h; simp [hi]
  · rw [if_neg h]; simp only [Array.getD_eq_getD_getElem?]; rw [Array.getElem?_setIfInBounds_ne (Ne.symm h)]

theorem lst_replicate (n j : Nat) : lst (Array.replicate n false) j = false := by
  unfold lst
  rw [Array.getD_eq_getD_getElem?, Array.getElem?_replicate]
  split <;> rfl

theorem any_sound (hG : Ground.G.le cx.I0) {nt rid : Nat} {ops : Array Oper} {d : RD} {Q : Exit → Act → World → Prop} (hl : True) {st0 st' : St} {rs : List SR}
    (hrun : RunsTo P (Spec P) nt rid ops.toList d ops.toList 0 st0 rs st') (hord : ordered (befores ops.toList []) (rs.map SR.foot).reverse = true) (hlow : edgesLow ops.toList 0 = true) (hc : ∀ r ∈ rs, ∀ p ∈ r.conds, p)
    (hQ : ∀ a w, At cx Iin sin nt st' a w → Q .normal a w) : ∀ (fuel : Nat) (listed : Array Bool) (a : Act) (w : World), listed.size = ops.size → closed ops.toList (lst listed) → unl listed.toList ≤ fuel →
    At cx Iin sin nt (foldL (lst listed) ops.toList rs 0 st0) a w → wpAny P .any ops Q fuel listed a w := by
  obtain ⟨hlen, hall, hstep⟩ := runsTo_all _ _ _ _ _ hrun
  have hlt : ∀ (j : Nat) (o : Oper), ops.toList[j]? = some o → j < ops.size := fun j o h => by have := (List.getElem?_eq_some_iff.1 h).1; simpa using this
  -- what conflicts is ordered
  have hfeet : ∀ (i j : Nat) (f g : SR), i < j → rs[i]? = some f → rs[j]? = some g → conflict f.foot g.foot = true → ((befores ops.toList []).getD j 0).testBit i = true := by
    intro i j f g hij hf hg hconf
    have hp := List.pairwise_reverse.1 (ordered_spec _ hord)
    have hli : i < rs.length := (List.getElem?_eq_some_iff.1 hf).1
    have hlj : j < rs.length := (List.getElem?_eq_some_iff.1 hg).1
    have := List.pairwise_iff_getElem.1 hp i j (by simpa using hli) (by simpa using hlj) hij
    have ef : (rs.map SR.foot)[i]'(by simpa using hli) = f.foot := by
      rw [List.getElem_map]; congr 1; exact (List.getElem?_eq_some_iff.1 hf).2
    have eg : (rs.map SR.foot)[j]'(by simpa using hlj) = g.foot := by
      rw [List.getElem_map]; congr 1; exact (List.getElem?_eq_some_iff.1 hg).2
    rw [ef, eg] at this
    have h1 := this hconf
    have hoi : ∃ o, ops.toList[i]? = some o := ⟨_, List.getElem?_eq_getElem (by omega)⟩
    have hoj : ∃ o, ops.toList[j]? = some o := ⟨_, List.getElem?_eq_getElem (by omega)⟩
    obtain ⟨oi, hoi⟩ := hoi
    obtain ⟨oj, hoj⟩ := hoj
    rw [(hstep i oi f hoi hf).feet.1, (hstep j oj g hoj hg).feet.1] at h1
    simpa using h1
  -- the order as it is told at an operation that is due
  have agree : ∀ (listed : Array Bool) (i : Nat) (oi : Oper) (ri : SR), closed ops.toList (lst listed) → lst listed i = false → ops.toList[i]? = some oi → rs[i]? = some ri → (∀ e ∈ oi.after.toList, Region.binds .any e = true → lst listed e.on = true) →
      ∀ (j : Nat) (rj : SR), rs[j]? = some rj → conflict ri.foot rj.foot = true → conflict rj.foot ri.foot = true → lst listed j = decide (j < i) := by
    intro listed i oi ri hcl hni hoi hri hedge j rj hrj hc1 hc2
    rcases Nat.lt_trichotomy j i with h | h | h
    · rw [decide_eq_true h]
      refine before_listed hlow hcl i j (hfeet j i rj ri h hrj hri hc2) (fun o ho => ?_)
      rw [hoi] at ho
      cases ho
      exact hedge
    · subst h; rw [hni]; simp
    · rw [decide_eq_false (by omega)]
      cases hj : lst listed j with
      | false => rfl
      | true =>
        have := before_listed hlow hcl j i (hfeet i j ri rj h hri hrj hc1) (fun o ho => hcl j o hj ho)
        rw [hni] at this; cases this
  intro fuel
  -- nothing is due any more: all is listed
  have done : ∀ (listed : Array Bool) (a : Act) (w : World), listed.size = ops.size → At cx Iin sin nt (foldL (lst listed) ops.toList rs 0 st0) a w → Region.ready .any ops listed = [] → Q .normal a w := by
    intro listed a w hsz hat hnil
    have alll : ∀ j, j < ops.size → lst listed j = true := by
      intro j
      induction j using Nat.strongRecOn with
      | ind j ih =>
        intro hj
        cases hlj : lst listed j with
        | true => rfl
        | false =>
          have hoj : ops[j]? = some ops[j] := Array.getElem?_eq_getElem hj
          have hm : j ∈ Region.ready .any ops listed := by
            rw [mem_ready]
            refine ⟨?_, _, hoj, fun e he hb => ?_⟩
            · unfold lst at hlj
              rw [Array.getD_eq_getD_getElem?, Array.getElem?_eq_getElem (by omega)] at hlj ⊢
              simpa using hlj
            · have hlow' := edgesLow_spec _ 0 hlow j ops[j] (by rw [Array.getElem?_toList]; exact hoj) e (by simpa using he) hb
              rw [Nat.zero_add] at hlow'
              exact ih e.on hlow' (by omega)
          rw [hnil] at hm
          simp at hm
    have := foldL_congr (L := lst listed) (M := fun _ => true) ops.toList rs 0 st0 (fun j hj => by rw [Nat.zero_add]; exact alll j (by simpa using hj))
    rw [this, hall] at hat
    exact hQ a w hat
  induction fuel with
  | zero =>
    intro listed a w hsz hcl hun hat
    have hnil : Region.ready .any ops listed = [] := by
      rw [List.eq_nil_iff_forall_not_mem]
      intro j hj
      rw [mem_ready] at hj
      obtain ⟨h0, o, ho, _⟩ := hj
      have hjl : j < listed.size := by rw [hsz]; exact hlt j o (by simpa using ho)
      have : listed.toList[j]? = some false := by
        rw [Array.getD_eq_getD_getElem?, Array.getElem?_eq_getElem hjl] at h0
        rw [Array.getElem?_toList, Array.getElem?_eq_getElem hjl]
        simpa using h0
      have := unl_pos _ _ this
      omega
    exact ⟨hnil, done listed a w hsz hat hnil⟩
  | succ fuel ih =>
    intro listed a w hsz hcl hun hat
    refine ⟨fun hnil => done listed a w hsz hat hnil, fun i hi => ?_⟩
    rw [mem_ready] at hi
    obtain ⟨h0, oi, hoi, hedge⟩ := hi
    have hoi' : ops.toList[i]? = some oi := by simpa using hoi
    have hil : i < listed.size := by rw [hsz]; exact hlt i oi hoi'
    have hni : lst listed i = false := by
      unfold lst
      rw [Array.getD_eq_getD_getElem?, Array.getElem?_eq_getElem hil] at h0 ⊢
      simpa using h0
    have hget : listed.toList[i]? = some false := by
      rw [Array.getD_eq_getD_getElem?, Array.getElem?_eq_getElem hil] at h0
      rw [Array.getElem?_toList, Array.getElem?_eq_getElem hil]
      simpa using h0
    have hedge' : ∀ e ∈ oi.after.toList, Region.binds .any e = true → lst listed e.on = true := fun e he hb => hedge e (by simpa using he) hb
    have hri : ∃ ri, rs[i]? = some ri := ⟨_, List.getElem?_eq_getElem (by rw [hlen]; have := hlt i oi hoi'; simpa using this)⟩
    obtain ⟨ri, hri⟩ := hri
    have hag := agree listed i oi ri hcl hni hoi' hri hedge'
    have hstepi := hstep i oi ri hoi' hri
    rw [Nat.zero_add] at hstepi
    obtain ⟨ft1, ft2, ft3, ft4, ft5, ft6⟩ := hstepi.feet
    have confHp : ∀ (j : Nat) (rj : SR) (id : Nat), rs[j]? = some rj → id ∈ keys rj.upd → id ∈ ri.foot.acc → conflict ri.foot rj.foot = true ∧ conflict rj.foot ri.foot = true := by
      intro j rj id hrj hk hid
      have hoj : ∃ o, ops.toList[j]? = some o := ⟨_, List.getElem?_eq_getElem (by have := (List.getElem?_eq_some_iff.1 hrj).1; omega)⟩
      obtain ⟨oj, hoj⟩ := hoj
      have fj := (hstep j oj rj hoj hrj).feet
      have : meets rj.foot.wr ri.foot.acc = true := (meets_iff _ _).2 ⟨id, by rw [fj.2.1]; exact hk, hid⟩
      unfold conflict
      simp [this]
    have confTm : ∀ (j : Nat) (oj : Oper) (t : Nat), ops.toList[j]? = some oj → oj.dst = some t → t ∈ ri.foot.rd → ∃ rj, rs[j]? = some rj ∧ conflict ri.foot rj.foot = true ∧ conflict rj.foot ri.foot = true := by
      intro j oj t hoj hd ht
      have hrj : ∃ r, rs[j]? = some r := ⟨_, List.getElem?_eq_getElem (by have := (List.getElem?_eq_some_iff.1 hoj).1; omega)⟩
      obtain ⟨rj, hrj⟩ := hrj
      have fj := (hstep j oj rj hoj hrj).feet
      have : meets rj.foot.wt ri.foot.rd = true := (meets_iff _ _).2 ⟨t, by rw [fj.2.2.2.2.1, hd]; simp, ht⟩
      refine ⟨rj, hrj, ?_⟩
      unfold conflict
      simp [this]
    -- what it looks at is as it is told
    have hhp : ∀ id ∈ ri.foot.acc, get (foldL (lst listed) ops.toList rs 0 st0).hp id = get (foldL (fun k => decide (k < i)) ops.toList rs 0 st0).hp id := by
      intro id hid
      refine foldL_hp _ _ _ _ _ (fun j rj hrj hk => ?_) rfl
      rw [Nat.zero_add]
      obtain ⟨c1, c2⟩ := confHp j rj id hrj hk hid
      exact hag j rj hrj c1 c2
    have htm : ∀ t ∈ slotsOf ops.toList oi, getV (foldL (lst listed) ops.toList rs 0 st0).tm t = getV (foldL (fun k => decide (k < i)) ops.toList rs 0 st0).tm t := by
      intro t ht
      refine foldL_tm _ _ _ _ _ (fun j oj hoj hd => ?_) rfl
      rw [Nat.zero_add]
      obtain ⟨rj, hrj, c1, c2⟩ := confTm j oj t hoj hd (by rw [ft4]; exact ht)
      exact hag j rj hrj c1 c2
    obtain ⟨⟨I, s, e1, e2, e3, e4⟩, a1, a2⟩ := hat
    refine step_sound hG e3 hstepi hoi (hc ri (List.mem_of_getElem? hri)) (fun t ht => by unfold SlotRep; rw [← htm t ht]; exact e4 t) hhp hl ?_
    intro v w' I' s' g1 g2 g3 g4
    have hlst := lst_set listed hil
    have hcl' : closed ops.toList (lst (listed.setIfInBounds i true)) := by
      intro j o hj ho e he hb
      rw [hlst] at hj ⊢
      split
      · rfl
      · split at hj
        · rename_i hji
          subst hji
          rw [hoi'] at ho
          cases ho
          exact hedge' e he hb
        · exact hcl j o hj ho e he hb
    refine ih _ _ _ (by simpa using hsz) hcl' ?_ ⟨⟨I', s', Facts.le_trans e1 g1, Hand.le_trans e2 g2, ?_, ?_⟩, by rw [put_size]; exact a1, by rw [put_defers]; exact a2⟩
    · rw [Array.toList_setIfInBounds]
      have := unl_set _ _ hget
      omega
    · have : get (foldL (lst (listed.setIfInBounds i true)) ops.toList rs 0 st0).hp = addF ri.upd (get (foldL (lst listed) ops.toList rs 0 st0).hp) := by
        funext id
        by_cases hk : id ∈ keys ri.upd
        · rw [foldL_last_hp ops.toList rs 0 i st0 oi ri hoi' hri (by rw [Nat.zero_add, hlst, if_pos rfl]) hk (fun m r' hm hr' hk' => ?_)]
          · exact addF_mem _ _ _ _ hk
          · rw [Nat.zero_add, hlst, if_neg (by omega)]
            obtain ⟨c1, c2⟩ := confHp m r' id hr' hk' (ft3 id hk)
            rw [hag m r' hr' c1 c2]
            exact decide_eq_false (by omega)
        · rw [addF_skip _ _ _ hk]
          refine foldL_hp _ _ _ _ _ (fun j rj hrj hk' => ?_) rfl
          rw [Nat.zero_add, hlst]
          split
          · rename_i hji
            subst hji
            rw [hri] at hrj
            cases hrj
            exact absurd hk' hk
          · rfl
      rw [this]
      exact g3
    · intro t
      unfold SlotRep
      rw [put_get a ft6 a1]
      by_cases hd : oi.dst = some t
      · rw [if_pos hd, foldL_last_tm ops.toList rs 0 i st0 oi ri hoi' hri (by rw [Nat.zero_add, hlst, if_pos rfl]) hd (fun m o' hm ho' hd' => ?_)]
        · exact g4
        · rw [Nat.zero_add, hlst, if_neg (by omega)]
          obtain ⟨rj, hrj, c1, c2⟩ := confTm m o' t ho' hd' (by rw [ft4]; exact slot_dst hd)
          rw [hag m rj hrj c1 c2]
          exact decide_eq_false (by omega)
      · rw [if_neg hd]
        have : getV (foldL (lst (listed.setIfInBounds i true)) ops.toList rs 0 st0).tm t = getV (foldL (lst listed) ops.toList rs 0 st0).tm t := by
          refine foldL_tm _ _ _ _ _ (fun j oj hoj hd' => ?_) rfl
          rw [Nat.zero_add, hlst]
          split
          · rename_i hji
            subst hji
            rw [hoi'] at hoj
            cases hoj
            exact absurd hd' hd
          · rfl
        rw [this]
        exact repV_mono g1 g2 _ _ (e4 t)

/-- A region. -/
theorem region_sound (hm : P.follows .mixedOrders = true) (hG : Ground.G.le cx.I0) {nt rid : Nat} {ops : Array Oper} {draw : Bool} {d : RD} {st st' : St} {cs : List Prop} (he : regionEff P (Spec P) nt rid ops draw d st = some (st', cs)) (hc : ∀ p ∈ cs, p)
    {Q : Exit → Act → World → Prop} (hl : True) (hQ : ∀ a w, At cx Iin sin nt st' a w → Q .normal a w) {a : Act} {w : World} (hat : At cx Iin sin nt st a w) : (Code.region rid ops draw).wp P Q a w := by
  unfold regionEff at he
  split at he
  · rename_i st1 cs1 fs hr
    obtain ⟨rs, h1, h2, h3⟩ := runOps_to _ _ _ _ _ _ _ _ hr
    rw [List.nil_append] at h2
    rw [List.append_nil] at h3
    subst h2; subst h3
    have hconds : cs = rs.flatMap SR.conds → ∀ r ∈ rs, ∀ p ∈ r.conds, p := fun e r hr p hp => hc p (by rw [e]; exact List.mem_flatMap.2 ⟨r, hr, hp⟩)
    cases draw with
    | false =>
      simp only [cond_false, Option.some.injEq, Prod.mk.injEq] at he
      obtain ⟨rfl, rfl⟩ := he
      have := text_sound (Iin := Iin) (sin := sin) hG hl ops.toList 0 st rs st1 h1 (fun j o hj => by simpa using hj) (hconds rfl) hQ a w hat
      rw [Array.length_toList, ← List.range_eq_range'] at this
      exact wp_region this
    | true =>
      rw [cond_true] at he
      cases hz : (ordered (befores ops.toList []) (rs.map SR.foot).reverse && edgesLow ops.toList 0) with
      | false => rw [hz] at he; cases he
      | true =>
        rw [hz, cond_true] at he
        simp only [Option.some.injEq, Prod.mk.injEq] at he
        obtain ⟨rfl, rfl⟩ := he
        simp only [Bool.and_eq_true] at hz
        refine wp_region_any hm ?_
        refine any_sound (Iin := Iin) (sin := sin) hG hl h1 hz.1 hz.2 (hconds rfl) hQ ops.size _ a _ (by simp) ?_ ?_ ?_
        · intro j o hj
          rw [lst_replicate] at hj; cases hj
        · unfold unl
          have := List.countP_le_length (p := fun b => !b) (l := (Array.replicate ops.size false).toList)
          simpa using this
        · have : foldL (lst (Array.replicate ops.size false)) ops.toList rs 0 st = st := foldL_none _ _ _ _ (fun j => lst_replicate _ _)
          rw [this]
          obtain ⟨⟨I, s, e1, e2, e3, e4⟩, a1, a2⟩ := hat
          exact ⟨⟨I, s, e1, e2, e3.of_heap rfl rfl rfl rfl, e4⟩, a1, a2⟩
  · cases he

end
end Go.PE
