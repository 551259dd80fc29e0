/-
  PE, whole functions: what is executed on paper is what the machine comes to.
-/
import Derived.Test.YtifmnhcmmoacfaaGreatDoorQAny
import Derived.Scope
set_option linter.unusedVariables false
set_option linter.unusedSectionVars false
set_option linter.unusedSimpArgs false
namespace Go.PE

def bodyOf (f : Func) : Code := match f.body with
  | some c => c
  | none => .skip
def resOf (P : Program) (f : Nat) : List ResultVar := match P.funcs[f]? with
  | some fn => fn.results.toList
  | none => []
def ntOf (P : Program) (f : Nat) : Nat := match P.funcs[f]? with
  | some fn => fn.ntmps
  | none => 0

theorem conj_split : ∀ (l : List Prop) (q : Prop), conj l q → (∀ p ∈ l, p) ∧ q
  | [], q, h => ⟨fun p hp => by simp at hp, h⟩
  | p :: r, q, h => by
    obtain ⟨h1, h2⟩ := conj_split r q h.2
    refine ⟨fun x hx => ?_, h2⟩
    rcases List.mem_cons.1 hx with rfl | hx
    · exact h.1
    · exact h1 x hx

section
variable [Univ] [UnivOk] [Ground] {cx : Cx} {I I' J Iin : Facts} {s s' t sin : Hand} {hp hpr hpL : Nat → Option C} {w w' : World} {P : Program}

/-- A row is shared from now on: its cells are facts. -/
theorem WInv.freeze (h : WInv cx I s hp w) {id : Nat} {t : Shape} {xs : List (El t)} {fz : Nat} (hid : hp id = some (.row t xs fz)) : ∃ I', I.le I' ∧ WInv cx I' s (setF hp id (.row t xs 2)) w := by
  have hr := h.cont id _ hid
  simp only [repC] at hr
  obtain ⟨base, cap, k1, k2, k3⟩ := hr
  rcases Nat.eq_zero_or_pos cap with hc0 | hcp
  · subst hc0
    refine ⟨I, Facts.le_refl _, ?_⟩
    have := (h.kill id).adopt (s' := s) (I' := I) (w' := w) id (.row t xs 2) none (fun c0 h0 => by simp at h0; subst h0; rfl) (Hand.le_refl _) (fun i v hv => .inr hv) (fun b hb => by cases base <;> simp [blk, k1] at hb) ⟨Nat.le_refl _, fun _ _ _ => rfl, rfl, rfl, rfl⟩
      (Facts.le_refl _) (fun _ _ _ => rfl) (fun b' o v e hv => by cases e) (fun b' e => by cases e) (fun b' e => by cases e) (by simp only [repC]; exact ⟨base, 0, k1, k2, .inl rfl⟩)
    rwa [setF_setF] at this
  · rcases k3 with hc0 | ⟨b, rfl, arr, e, fr, q1, q2, q3, q4, q5, q6, q7⟩
    · omega
    · have hblk : blk s id (.row t xs fz) = some b := by
        obtain ⟨c', rfl⟩ : ∃ c', cap = c' + 1 := ⟨cap - 1, by omega⟩
        simp [blk, k1]
      have hle : I.le (withRow I b (arr.toList.take (xs.length * PE.size t))) := by
        intro b' o v hv
        simp only [withRow]
        split
        · rename_i hb
          subst hb
          have := h.agree _ _ _ hv
          simp only [World.cell?, q1] at this
          rw [List.getElem?_take, if_pos (q5 o v hv)]
          simpa using this
        · exact hv
      refine ⟨withRow I b (arr.toList.take (xs.length * PE.size t)), hle, ?_⟩
      have := (h.kill id).adopt (s' := s) (I' := withRow I b (arr.toList.take (xs.length * PE.size t))) (w' := w) id (.row t xs 2) (some b) (fun c0 h0 => by simp at h0; subst h0; rfl) (Hand.le_refl _) (fun i v hv => .inr hv)
        (fun b' hb => by
          obtain ⟨c', rfl⟩ : ∃ c', cap = c' + 1 := ⟨cap - 1, by omega⟩
          simp [blk, k1] at hb; rw [hb]) ⟨Nat.le_refl _, fun _ _ _ => rfl, rfl, rfl, rfl⟩ hle
        (fun b' hb o => by simp only [withRow]; rw [if_neg (fun e => hb (by rw [e]))])
        (fun b' o v e hv => by
          cases e
          simp only [withRow, if_true] at hv
          rw [List.getElem?_take] at hv
          split at hv
          · simp only [World.cell?, q1]; simpa using hv
          · cases hv)
        (fun b' e i c0 h0 hb => by
          cases e
          by_cases hi : i = id
          · subst hi; simp at h0; subst h0; simp [blk] at hb
          · rw [setF_other _ _ hi] at h0
            exact hi (h.apart i id c0 _ b h0 hid hb hblk))
        (fun b' e => by cases e; exact h.own id _ b hid hblk)
        (by
          simp only [repC]
          refine ⟨_, cap, k1, k2, .inr ⟨b, rfl, arr, e, fr, q1, q2, q3, repDl_mono hle _ _ q4, fun o v hv => ?_, fun hz => (by cases hz), fun _ j v hj => ?_⟩⟩
          · simp only [withRow, if_true] at hv
            have := (List.getElem?_eq_some_iff.1 hv).1
            rw [List.length_take] at this
            omega
          · simp only [withRow, if_true, Nat.zero_add]
            exact hj)
      rwa [setF_setF] at this

theorem get_cons {id : Nat} {c : C} {hp : List (Nat × C)} : get ((id, c) :: hp) = setF (get hp) id c := by
  funext j
  simp only [get, setF]
  by_cases e : id = j
  · subst e; rw [natBeq_self]; simp
  · rw [natBeq_ne e, cond_false, if_neg (Ne.symm e)]

theorem fzs_sound : ∀ (l : List Nat) (hp hp' : List (Nat × C)) (I : Facts), WInv cx I s (get hp) w → fzs hp l = some hp' → ∃ I', I.le I' ∧ WInv cx I' s (get hp') w
  | [], hp, hp', I, h, e => by simp only [fzs, Option.some.injEq] at e; subst e; exact ⟨I, Facts.le_refl _, h⟩
  | id :: r, hp, hp', I, h, e => by
    simp only [fzs] at e
    split at e
    · rename_i u xs fz hid
      obtain ⟨I', h1, h2⟩ := h.freeze hid
      rw [← get_cons] at h2
      obtain ⟨I'', h3, h4⟩ := fzs_sound r _ hp' I' h2 e
      exact ⟨I'', Facts.le_trans h1 h3, h4⟩
    · cases e

/-- Facts, handles and slots behind a change of how a state is told. -/
def Told (cx : Cx) (I : Facts) (s : Hand) (st : St) (tmps : Array Value) (w : World) : Prop :=
  ∃ I' s', I.le I' ∧ s.le s' ∧ WInv cx I' s' (get st.hp) w ∧ ∀ t, SlotRep I' s' st.tm tmps t

theorem getV_cons (tm : List (Nat × V)) (d : Nat) (v : V) (t : Nat) : getV ((d, v) :: tm) t = if d = t then v else getV tm t := by
  simp only [getV, get]
  by_cases h : d = t
  · subst h; rw [natBeq_self]; simp
  · rw [natBeq_ne h, cond_false, if_neg h]

theorem box_put {I : Facts} {s : Hand} : ∀ (cs : List V) (vs : List Value) (i : Nat) (x : V), repVs I s cs vs → (∀ v, vs[i]? = some v → repV I s x v) → repVs I s (cs.set i x) vs
  | [], [], i, x, h, _ => by simpa using h
  | c :: r, v :: q, 0, x, h, hx => by
    simp only [repVs] at h
    simp only [List.set_cons_zero, repVs]
    exact ⟨hx v rfl, h.2⟩
  | c :: r, v :: q, i + 1, x, h, hx => by
    simp only [repVs] at h
    simp only [List.set_cons_succ, repVs]
    exact ⟨h.1, box_put r q i x h.2 fun u hu => hx u (by simpa using hu)⟩
  | [], _ :: _, _, _, h, _ => by simp only [repVs] at h
  | _ :: _, [], _, _, h, _ => by simp only [repVs] at h

/-- A box is told otherwise. -/
theorem WInv.retell (h : WInv cx I s hp w) {id : Nat} {cs cs' : List V} (hid : hp id = some (.box cs)) (hr : ∀ vs, repVs I s cs vs → repVs I s cs' vs) : WInv cx I s (setF hp id (.box cs')) w := by
  have hc := h.cont id _ hid
  simp only [repC] at hc
  obtain ⟨b, arr, e, fr, k1, k2, k3, k4, k5⟩ := hc
  refine h.rewrite hid (b := b) (by simp [blk, k1]) ⟨Nat.le_refl _, fun _ _ _ => rfl, rfl, rfl, rfl⟩ (fun b' hb' => by simp [blk, k1] at hb'; exact hb'.symm) (fun o v hI => by rw [k4] at hI; cases hI) ?_
  simp only [repC]
  exact ⟨b, arr, e, fr, k1, k2, k3, k4, hr _ k5⟩

theorem normV_rep (h : WInv cx I s hp w) {u : Shape} {v v' : V} (hn : normV hp u v = some v') {x : Value} (hx : repV I s v x) : repV I s v' x := by
  unfold normV at hn
  cases hw : wholeOf u v with
  | false => rw [hw] at hn; cases hn
  | true =>
    rw [hw, cond_true] at hn
    split at hn
    · rename_i e he
      cases hn
      exact elV_rep (whole_el h (fun _ _ q => q) hw he hx)
    · cases hn

theorem coSt_sound {st st' : St} {c : Co} (he : coSt st c = some st') {tmps : Array Value} (h : WInv cx I s (get st.hp) w) (hs : ∀ t, SlotRep I s st.tm tmps t) : Told cx I s st' tmps w := by
  have slots : ∀ {I' s'} (I1 : I.le I') (s1 : s.le s') (d : Nat) (v : V), (∀ x, SlotRep I s st.tm tmps d → x = tmps.getD d Go.undef → repV I' s' v x) → ∀ t, SlotRep I' s' ((d, v) :: st.tm) tmps t := by
    intro I' s' I1 s1 d v hv t
    unfold SlotRep
    rw [getV_cons]
    split
    · rename_i e
      subst e
      exact hv _ (hs d) rfl
    · exact repV_mono I1 s1 _ _ (hs t)
  cases c with
  | fz id =>
    simp only [coSt] at he
    split at he
    · rename_i hp' hf
      cases he
      obtain ⟨I', h1, h2⟩ := fzs_sound [id] _ _ _ h hf
      exact ⟨I', s, h1, Hand.le_refl _, h2, fun t => repV_mono h1 (Hand.le_refl _) _ _ (hs t)⟩
    · cases he
  | nilRow t u id =>
    simp only [coSt] at he
    split at he
    · rename_i hv hid
      cases he
      obtain ⟨I', s', r1, r2, r3, r4⟩ := (emptyRow h (t := u) (fz := 0) hid none).1
      refine ⟨I', s', r1, r2, ?_, slots r1 r2 t _ fun x hx e => ?_⟩
      · rw [get_cons]; exact r3
      · unfold SlotRep at hx
        rw [hv] at hx
        simp only [repV] at hx
        rw [e, hx]
        exact r4
    · cases he
  | mvRow t id =>
    simp only [coSt] at he
    split at he
    · rename_i old hv
      split at he
      · rename_i c hold hid
        cases he
        have hx := hs t
        unfold SlotRep at hx
        rw [hv] at hx
        simp only [repV] at hx
        obtain ⟨hx1, hx2⟩ := hx
        have hne : id ≠ old := by rintro rfl; rw [hid] at hold; cases hold
        have hk := h.kill old
        have hc := h.cont old c hold
        let m : List (Nat × Nat) := [(old, id)]
        have hm : get m old = some id := by simp only [m, get, natBeq_self, cond_true]
        let s' := setF s id (tmps.getD t Go.undef)
        have hss : s.le s' := le_setF (h.unknown hid)
        have hso : s' id = s old := by simp only [s', setF_same]; rw [hx1]
        have hblk : blk s' id c = blk s old c := by
          cases c <;> simp only [blk, hso]
        have hkeep : repC I s' w old c := repC_keep hc (Facts.le_refl _) hss fun b _ => ⟨rfl, fun _ => rfl⟩
        have hcc : repC I s' w id c := by
          have hso' : s' old = s old := hss old _ hx1 |> fun q => by rw [q, hx1]
          cases c <;> simp only [repC] at hkeep ⊢
          all_goals (rw [hso', ← hso] at hkeep; exact hkeep)
        refine ⟨I, s', Facts.le_refl _, hss, ?_, slots (Facts.le_refl _) hss t _ fun x _ e => ?_⟩
        · rw [get_cons, get_cons]
          refine hk.adopt id c (blk s' id c) (fun c0 h0 => by rw [setF_other _ _ hne, hid] at h0; cases h0) hss (fun i v hi => by
              by_cases hh : i = id
              · exact .inl hh
              · simp only [s'] at hi; rw [setF_other _ _ hh] at hi; exact .inr hi) (fun b hb => hb) ⟨Nat.le_refl _, fun _ _ _ => rfl, rfl, rfl, rfl⟩ (Facts.le_refl _) (fun _ _ _ => rfl)
            (fun b o v _ hv => h.agree b o v hv) (fun b hb i c0 h0 hb0 => ?_) (fun b hb => ?_) hcc
          · by_cases hi : i = old
            · subst hi; simp at h0; subst h0; simp [blk] at hb0
            · rw [setF_other _ _ hi] at h0
              rw [hblk] at hb
              exact hi (h.apart i old c0 c b h0 hold hb0 hb)
          · rw [hblk] at hb
            exact h.own old c b hold hb
        · simp only [repV, s', setF_same]
          exact ⟨by rw [e], by rw [e]; exact hx2⟩
      · cases he
    · cases he
  | norm t u =>
    simp only [coSt] at he
    split at he
    · rename_i v hv
      cases he
      refine ⟨I, s, Facts.le_refl _, Hand.le_refl _, h, slots (Facts.le_refl _) (Hand.le_refl _) t v fun x hx e => ?_⟩
      rw [e]
      exact normV_rep h hv hx
    · cases he
  | bNilRow b i u id =>
    simp only [coSt] at he
    split at he
    · rename_i cs hb hid
      split at he
      · rename_i hi
        cases he
        obtain ⟨I', s', r1, r2, r3, r4⟩ := (emptyRow h (t := u) (fz := 0) hid none).1
        have hne : b ≠ id := by rintro rfl; rw [hid] at hb; cases hb
        have r3' : WInv cx I' s' (setF (get st.hp) id (.row u [] 0)) w := r3
        refine ⟨I', s', r1, r2, ?_, fun t => repV_mono r1 r2 _ _ (hs t)⟩
        have := r3'.retell (id := b) (cs := cs) (cs' := cs.set i (.row id)) (by rw [setF_other _ _ hne]; exact hb) (fun vs hvs => box_put cs vs i _ hvs fun v hv => by
          obtain ⟨y, k1, k2⟩ := repVs_get _ _ hvs i _ hi
          rw [hv] at k1
          cases k1
          simp only [repV] at k2
          rw [k2]
          exact r4)
        rw [get_cons, get_cons]
        have e : setF (setF (get st.hp) b (C.box (cs.set i (.row id)))) id (.row u [] 0) = setF (setF (get st.hp) id (.row u [] 0)) b (C.box (cs.set i (.row id))) := by
          funext j
          simp only [setF]
          by_cases h1 : j = id
          · subst h1; rw [if_pos rfl, if_neg (Ne.symm hne), if_pos rfl]
          · rw [if_neg h1, if_neg h1]
        rw [e]
        exact this
      · cases he
    · cases he
  | bNorm b n =>
    simp only [coSt] at he
    split at he
    · rename_i cs hb
      split at he
      · rename_i x hx
        cases he
        refine ⟨I, s, Facts.le_refl _, Hand.le_refl _, ?_, hs⟩
        rw [get_cons]
        exact h.retell hb fun vs hvs => explode_rep (implode_rep h (fun _ _ q => q) hx hvs)
      · cases he
    · cases he
  | bNormC b i u =>
    simp only [coSt] at he
    split at he
    · rename_i cs hb
      split at he
      · rename_i v hv
        cases hu : isUser u with
        | true => rw [hu] at he; cases he
        | false =>
          rw [hu, cond_false] at he
          split at he
          · rename_i x hx
            cases he
            refine ⟨I, s, Facts.le_refl _, Hand.le_refl _, ?_, hs⟩
            rw [get_cons]
            refine h.retell hb fun vs hvs => box_put cs vs i _ hvs fun y hy => ?_
            obtain ⟨y', k1, k2⟩ := repVs_get _ _ hvs i _ hv
            rw [hy] at k1
            cases k1
            have hD := implode_rep h (fun _ _ q => q) hx (ys := [y]) (by simp only [repVs]; exact ⟨k2, trivial⟩)
            exact elV_rep (by unfold isEl; rw [hu]; exact hD)
          · cases he
      · cases he
    · cases he

theorem cos_sound : ∀ (l : List Co) (st st' : St) (I : Facts) (s : Hand), cos st l = some st' → ∀ {tmps : Array Value}, WInv cx I s (get st.hp) w → (∀ t, SlotRep I s st.tm tmps t) → Told cx I s st' tmps w
  | [], st, st', I, s, e, tmps, h, hs => by
    simp only [cos, Option.some.injEq] at e
    subst e
    exact ⟨I, s, Facts.le_refl _, Hand.le_refl _, h, hs⟩
  | c :: r, st, st', I, s, e, tmps, h, hs => by
    simp only [cos] at e
    split at e
    · rename_i st1 h1
      obtain ⟨I1, s1, a1, a2, a3, a4⟩ := coSt_sound h1 h hs
      obtain ⟨I2, s2, b1, b2, b3, b4⟩ := cos_sound r st1 st' I1 s1 e a3 a4
      exact ⟨I2, s2, Facts.le_trans a1 b1, Hand.le_trans a2 b2, b3, b4⟩
    · cases e

/-! ### Other numbers for ids, at a cut and at the end -/
def handOf (s : Hand) (ids : List Nat) : Hand := fun j => match ids[j]? with
  | some i => s i
  | none => none

theorem handOf_num {s : Hand} {ids : List Nat} {i j : Nat} (h : get (numbered 0 ids) i = some j) : handOf s ids j = s i := by
  have := (get_numbered ids 0 i j h).2
  rw [Nat.sub_zero] at this
  simp only [handOf, this]

theorem pruneT_get {m : List (Nat × Nat)} {tm : List (Nat × V)} : ∀ (slots : List Nat) (tm' : List (Nat × V)), pruneT m tm slots = some tm' → ∀ t, getV tm' t = .undef ∨ ren m (getV tm t) = some (getV tm' t)
  | [], tm', h, t => by simp only [pruneT, Option.some.injEq] at h; subst h; exact .inl rfl
  | u :: r, tm', h, t => by
    simp only [pruneT] at h
    split at h
    · rename_i v q hv hq
      cases h
      rw [getV_cons]
      split
      · rename_i e; subst e; exact .inr hv
      · exact pruneT_get r q hq t
    · cases h

theorem pruneH_get {m : List (Nat × Nat)} {hp : List (Nat × C)} : ∀ (ids : List Nat) (k : Nat) (hp' : List (Nat × C)), pruneH m hp k ids = some hp' →
    (∀ j c', get hp' j = some c' → ∃ i c, k ≤ j ∧ ids[j - k]? = some i ∧ get hp i = some c ∧ renC m c = some c') ∧ ∀ j, k ≤ j → j < k + ids.length → (get hp' j).isSome = true
  | [], k, hp', h => by
    simp only [pruneH, Option.some.injEq] at h
    subst h
    exact ⟨fun j c' hj => by simp [get] at hj, fun j h1 h2 => by simp at h2; omega⟩
  | id :: r, k, hp', h => by
    simp only [pruneH] at h
    split at h
    · rename_i c hc
      split at h
      · rename_i c' q hc' hq
        cases h
        obtain ⟨h1, h2⟩ := pruneH_get r (k + 1) q hq
        refine ⟨fun j c'' hj => ?_, fun j hj1 hj2 => ?_⟩
        · simp only [get] at hj
          by_cases e : k = j
          · subst e
            rw [natBeq_self, cond_true] at hj
            cases hj
            exact ⟨id, c, Nat.le_refl _, by simp, hc, hc'⟩
          · rw [natBeq_ne e, cond_false] at hj
            obtain ⟨i, c0, q1, q2, q3, q4⟩ := h1 j c'' hj
            refine ⟨i, c0, by omega, ?_, q3, q4⟩
            rw [show j - k = (j - (k + 1)) + 1 by omega, List.getElem?_cons_succ]
            exact q2
        · simp only [get]
          by_cases e : k = j
          · subst e; rw [natBeq_self]; rfl
          · rw [natBeq_ne e, cond_false]
            exact h2 j (by omega) (by simp at hj2; omega)
      · cases h
    · cases h

theorem starts_spec : ∀ (n k : Nat) (ids : List Nat), starts k n ids = true → ∀ j, j < n → ids[j]? = some (k + j)
  | 0, k, ids, _, j, h => by omega
  | n + 1, k, [], h, j, _ => by simp [starts] at h
  | n + 1, k, id :: r, h, j, hj => by
    simp only [starts, Bool.and_eq_true] at h
    cases j with
    | zero => rw [Nat.eq_of_beq_eq_true h.1]; rfl
    | succ j =>
      have := starts_spec n (k + 1) r h.2 j (by omega)
      rw [List.getElem?_cons_succ, this]
      congr 1; omega

theorem num_inj {ids : List Nat} : ∀ i i' j, get (numbered 0 ids) i = some j → get (numbered 0 ids) i' = some j → i = i' := by
  intro i i' j h1 h2
  have q1 := (get_numbered ids 0 i j h1).2
  have q2 := (get_numbered ids 0 i' j h2).2
  rw [q1] at q2
  exact Option.some.inj q2

theorem prune_sound {nin : Nat} {st st' : St} {slots ids : List Nat} (he : prune nin st slots ids = some st') {tmps : Array Value} (h : WInv cx I s (get st.hp) w) (hs : ∀ t, SlotRep I s st.tm tmps t) :
    ∃ s', (∀ i, i < nin → ∀ u, s i = some u → s' i = some u) ∧ WInv cx I s' (get st'.hp) w ∧ ∀ t, SlotRep I s' st'.tm tmps t := by
  unfold prune at he
  cases hz : (starts 0 nin ids && nodup ids) with
  | false => rw [hz] at he; cases he
  | true =>
    rw [hz] at he
    simp only [Bool.not_true, cond_false] at he
    simp only [Bool.and_eq_true] at hz
    have hnd := nodup_iff _ hz.2
    split at he
    · rename_i tm hp' ht hh
      cases he
      obtain ⟨p1, p2⟩ := pruneH_get ids 0 hp' hh
      refine ⟨handOf s ids, fun i hi u hu => ?_, ?_, fun t => ?_⟩
      · have := starts_spec nin 0 ids hz.1 i hi
        rw [Nat.zero_add] at this
        simp only [handOf, this]; exact hu
      · refine h.rename (m := numbered 0 ids) num_inj (fun i j hij => handOf_num hij) (fun j c' hj => ?_) (fun j v hv => ?_)
        · obtain ⟨i, c, _, q2, q3, q4⟩ := p1 j c' hj
          rw [Nat.sub_zero] at q2
          have := get_numbered_of ids 0 i j hnd q2
          rw [Nat.zero_add] at this
          exact ⟨i, c, this, q3, q4⟩
        · refine p2 j (Nat.zero_le _) ?_
          rw [Nat.zero_add]
          rcases Nat.lt_or_ge j ids.length with q | q
          · exact q
          · simp only [handOf, List.getElem?_eq_none q] at hv; cases hv
      · unfold SlotRep
        rcases pruneT_get slots tm ht t with q | q
        · show repV _ _ (getV tm t) _
          rw [q]; simp only [repV]
        · exact ren_rep (fun i j hij => handOf_num hij) _ _ q _ (hs t)
    · cases he


end
end Go.PE
