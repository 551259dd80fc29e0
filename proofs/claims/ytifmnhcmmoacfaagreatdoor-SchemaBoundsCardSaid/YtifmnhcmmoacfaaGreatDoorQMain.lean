/-
  PE, the soundness of the evaluator: what is executed on paper is what a call comes to.
-/
import Derived.Test.YtifmnhcmmoacfaaGreatDoorQExec
set_option linter.unusedVariables false
set_option linter.unusedSectionVars false
set_option linter.unusedSimpArgs false
namespace Go.PE
section
variable [Univ] [UnivOk] [Ground] {cx : Cx} {I I' J Iin : Facts} {s s' t sin : Hand} {hp hpr hpL : Nat → Option C} {w w' : World} {P : Program}

def resOne (tmps : Array Value) : ResultVar → Sem Value
  | .tmp t => pure (tmps.getD t Go.undef)
  | .cell a t => do loadVar t (← asAddr (tmps.getD a Go.undef))

/-- The results, as values. -/
theorem resV_sound {hp : List (Nat × C)} (h : WInv cx I s (get hp) w) {tm : List (Nat × V)} {tmps : Array Value} (hs : ∀ t, SlotRep I s tm tmps t) : ∀ (rs : List ResultVar) (vs : List V) (ps : List Prop), resV P tm hp rs = some (vs, ps) → (∀ p ∈ ps, p) →
    ∃ xs, (rs.mapM (resOne tmps)).run P w = .ok xs w ∧ repVs I s vs xs
  | [], vs, ps, e, _ => by
    simp only [resV, Option.some.injEq, Prod.mk.injEq] at e
    obtain ⟨rfl, rfl⟩ := e
    exact ⟨[], rfl, by simp only [repVs]⟩
  | .tmp t :: r, vs, ps, e, hp' => by
    simp only [resV] at e
    split at e
    · rename_i q cs hq
      cases e
      obtain ⟨xs, h1, h2⟩ := resV_sound h hs r q ps hq hp'
      refine ⟨tmps.getD t Go.undef :: xs, ?_, by simp only [repVs]; exact ⟨untag_rep (hs t), h2⟩⟩
      simp only [List.mapM_cons, resOne, Sem.run_bind, Sem.run_pure, Result.andThen_ok, h1]
    · cases e
  | .cell a t :: r, vs, ps, e, hp' => by
    simp only [resV] at e
    split at e
    · rename_i v u ds q cs hv hq
      cases e
      obtain ⟨xs, h1, h2⟩ := resV_sound h hs r q cs hq (fun p hp => hp' p (by simp [hp]))
      obtain ⟨_, b, o, y, k1, k2, k3⟩ := opLoad_sound (w := w) h (fun _ _ q => q) hv (fun p hp => hp' p (by simp at hp ⊢; exact .inl hp)) (hs a)
      refine ⟨y :: xs, ?_, by simp only [repVs]; exact ⟨k3, h2⟩⟩
      have ha : (asAddr (tmps.getD a Go.undef)).run P w = .ok ⟨b, o, none⟩ w := by rw [k1]; rfl
      simp only [List.mapM_cons, resOne, Sem.run_bind, ha, Result.andThen_ok, k2, h1, Sem.run_pure]
    · cases e

theorem results_run {fn : Func} {tmps : Array Value} {vs : List V} {xs : List Value} (h : (fn.results.toList.mapM (resOne tmps)).run P w = .ok xs w) (hr : repVs I s vs xs) : ∃ v, (results fn tmps).run P w = .ok v w ∧ repV I s (tup vs) v := by
  have hrun : (results fn tmps).run P w = .ok (if h : xs.toArray.size = 1 then xs.toArray[0] else .tuple xs.toArray) w := by
    have e : results fn tmps = (do
      let vs ← fn.results.mapM (resOne tmps)
      pure (if h : vs.size = 1 then vs[0] else .tuple vs)) := by
      unfold results
      congr 1
    rw [e, Array.mapM_eq_mapM_toList]
    simp only [Sem.run_bind, Sem.run_map, h, Result.andThen_ok, Sem.run_pure]
  refine ⟨_, hrun, ?_⟩
  cases vs with
  | nil =>
    cases xs with
    | nil => simp only [tup, repV]; exact ⟨#[], by simp, by simp only [repVs]⟩
    | cons a b => simp only [repVs] at hr
  | cons v vs =>
    cases xs with
    | nil => simp only [repVs] at hr
    | cons x xs =>
      cases vs with
      | nil =>
        cases xs with
        | nil => simp only [repVs] at hr; simpa [tup] using hr.1
        | cons a b => simp only [repVs, and_false] at hr
      | cons v' vs =>
        cases xs with
        | nil => simp only [repVs, and_false] at hr
        | cons x' xs =>
          simp only [tup, repV]
          exact ⟨(x :: x' :: xs).toArray, by simp, hr⟩

/-- What a function hands back. -/
def Back (cx : Cx) (nin : Nat) (goal : V → List C → List C → Prop) (I : Facts) (s : Hand) (v : Value) (w' : World) : Prop :=
  ∃ res outs news, goal res outs news ∧ ∃ I' s', I.le I' ∧ (∀ i, i < nin → ∀ u, s i = some u → s' i = some u) ∧ WInv cx I' s' (get (entryH 0 (outs ++ news))) w' ∧ repV I' s' res v

theorem retOf_sound {nin : Nat} {rs : List ResultVar} {st : St} {co : List Co} {news : List Nat} {v : V} {outs nws : List C} {ps : List Prop} (he : retOf P nin rs st co news = some (v, outs, nws, ps)) (hps : ∀ p ∈ ps, p)
    {goal : V → List C → List C → Prop} (hg : goal v outs nws) {tmps : Array Value} (h : WInv cx I s (get st.hp) w) (hs : ∀ t, SlotRep I s st.tm tmps t) {fn : Func} (hrs : rs = fn.results.toList) :
    ∃ x, (results fn tmps).run P w = .ok x w ∧ Back cx nin goal I s x w := by
  unfold retOf at he
  let ids := upto 0 nin ++ news
  cases hz : nodup (upto 0 nin ++ news) with
  | false => rw [hz] at he; cases he
  | true =>
    rw [hz] at he
    simp only [Bool.not_true, cond_false] at he
    have hnd := nodup_iff _ hz
    split at he
    · rename_i st1 hco
      obtain ⟨I1, s1, a1, a2, a3, a4⟩ := cos_sound co st st1 I s hco h hs
      split at he
      · rename_i vs ps' hres
        split at he
        · rename_i cs hcs
          split at he
          · rename_i vs' cs' hv hc
            cases he
            subst hrs
            obtain ⟨xs, k1, k2⟩ := resV_sound a3 a4 _ _ _ hres hps
            have k3 := rens_rep (s2 := handOf s1 ids) (fun i j hij => handOf_num hij) _ _ hv _ k2
            obtain ⟨x, q1, q2⟩ := results_run k1 k3
            refine ⟨x, q1, _, _, _, hg, I1, handOf s1 ids, a1, fun i hi u hu => ?_, ?_, q2⟩
            · have hup : ∀ (n k j : Nat), j < n → (upto k n)[j]? = some (k + j) := by
                intro n
                induction n with
                | zero => intro k j hj; omega
                | succ n ih =>
                  intro k j hj
                  simp only [upto]
                  cases j with
                  | zero => rfl
                  | succ j =>
                    rw [List.getElem?_cons_succ, ih (k + 1) j (by omega)]
                    congr 1; omega
              have : ids[i]? = some i := by
                have := hup nin 0 i hi
                rw [Nat.zero_add] at this
                simp only [ids]
                rw [List.getElem?_append_left (List.getElem?_eq_some_iff.1 this).1]
                exact this
              simp only [handOf, this]
              exact a2 i u hu
            · rw [List.take_append_drop]
              obtain ⟨c1, c2⟩ := contents_get ids cs hcs
              obtain ⟨r1, r2⟩ := renCs_get cs cs' hc
              refine a3.rename (m := numbered 0 ids) num_inj (fun i j hij => handOf_num hij) (fun j c' hj => ?_) (fun j v hv => ?_)
              · rw [get_entryH0] at hj
                obtain ⟨c, d1, d2⟩ := r2 j c' hj
                have hlt : j < ids.length := by rw [← c1]; exact (List.getElem?_eq_some_iff.1 d1).1
                obtain ⟨c0, e1, e2⟩ := c2 j _ (List.getElem?_eq_getElem hlt)
                rw [d1] at e1
                cases e1
                have := get_numbered_of ids 0 _ j hnd (List.getElem?_eq_getElem hlt)
                rw [Nat.zero_add] at this
                exact ⟨_, c, this, e2, d2⟩
              · rw [get_entryH0]
                have hlt : j < ids.length := by
                  rcases Nat.lt_or_ge j ids.length with q | q
                  · exact q
                  · simp only [handOf, List.getElem?_eq_none q] at hv; cases hv
                rw [List.getElem?_eq_getElem (by omega)]
                rfl
          · cases he
        · cases he
      · cases he
    · cases he

/-! ### The machine -/
def Ends (cx : Cx) (P : Program) (f nin : Nat) (goal : V → List C → List C → Prop) (I : Facts) (s : Hand) (m : Machine) (cs : List Frame) : Prop :=
  ∃ e w' fr, EndR (Back cx nin goal I s) e w' ∧ Comes P m (lone fr cs w') e ∧ fr.fn = f ∧ fr.leaving P w' e

theorem Ends.mono {f nin : Nat} {goal : V → List C → List C → Prop} {m : Machine} {cs : List Frame} (h : Ends cx P f nin goal I' s' m cs) (hI : I.le I') (hs : ∀ i, i < nin → ∀ u, s i = some u → s' i = some u) : Ends cx P f nin goal I s m cs := by
  obtain ⟨e, w', fr, h1, h2⟩ := h
  refine ⟨e, w', fr, ?_, h2⟩
  cases e with
  | returned v =>
    obtain ⟨res, outs, news, g, J, t, k1, k2, k3⟩ := h1
    exact ⟨res, outs, news, g, J, t, Facts.le_trans hI k1, fun i hi u hu => k2 i hi u (hs i hi u hu), k3⟩
  | panicked c => exact h1
  | outgrown => exact h1

theorem Ends.steps {f nin : Nat} {goal : V → List C → List C → Prop} {m m' : Machine} {cs : List Frame} (h : Ends cx P f nin goal I s m' cs) (hm : Steps P m m') : Ends cx P f nin goal I s m cs := by
  obtain ⟨e, w', fr, h1, h2, h3⟩ := h
  exact ⟨e, w', fr, h1, Comes.of_steps hm h2, h3⟩

/-- Where a text stands for another one that begins alike. -/
def Like (k k' : List Item) : Prop := k' = k ∨ (k = [.code .ret] ∧ ∃ r, k' = .code .ret :: r)

/-- From a place in a function's text on, in given surroundings. -/
def PtC (cx : Cx) (P : Program) (f nin : Nat) (k : List Item) (st : St) (goal : V → List C → List C → Prop) : Prop :=
  P.follows .mixedOrders = true → ∀ (fn : Func), P.funcs[f]? = some fn → ∀ (I : Facts) (s : Hand) (a : Act) (w : World), Ground.G.le cx.I0 → WInv cx I s (get st.hp) w → (∀ t, SlotRep I s st.tm a.tmps t) → fn.ntmps ≤ a.tmps.size → a.defers = [] →
    ∀ (b : Frame) (cs : List Frame) (k' : List Item), Like k k' → b.fn = f → b.kind = .normal → Ends cx P f nin goal I s (lone (b.at a k') cs w) cs

/-- From a place in a function's text on. -/
def PtS (P : Program) (f nin : Nat) (k : List Item) (st : St) (goal : V → List C → List C → Prop) : Prop := ∀ cx, PtC cx P f nin k st goal

theorem exec_soundC {f nin : Nat} {k : List Item} {st : St} {goal : V → List C → List C → Prop} {PT : List Item → St → Prop} (hPT : ∀ k st, PT k st → PtC cx P f nin k st goal) (fin : Fin) (n : Nat) (ds : List RD)
    (h : exec P (Spec P) nin (ntOf P f) (resOf P f) goal PT fin n k st ds) : PtC cx P f nin k st goal := by
  intro hm fn hfn
  have hnt : ntOf P f = fn.ntmps := by unfold ntOf; rw [hfn]
  have hrs : resOf P f = fn.results.toList := by unfold resOf; rw [hfn]
  rw [hnt, hrs] at h
  induction n generalizing k st ds with
  | zero =>
    intro I s a w hG hw hs hsz hdf b cs k' hk hb hbk
    cases fin with
    | cut co slots ids =>
      simp only [exec] at h
      split at h
      · rename_i st1 h1
        obtain ⟨I1, s1, a1, a2, a3, a4⟩ := cos_sound co st st1 I s h1 hw hs
        split at h
        · rename_i st2 h2
          obtain ⟨s2, b1, b2, b3⟩ := prune_sound h2 a3 a4
          exact (hPT _ _ h hm fn hfn I1 s2 a w hG b2 b3 hsz hdf b cs k' hk hb hbk).mono a1 fun i hi u hu => b1 i hi u (a2 i u hu)
        · exact h.elim
      · exact h.elim
    | cutRet co slots ids =>
      simp only [exec] at h
      split at h
      · rename_i r
        split at h
        · rename_i st1 h1
          obtain ⟨I1, s1, a1, a2, a3, a4⟩ := cos_sound co st st1 I s h1 hw hs
          split at h
          · rename_i st2 h2
            obtain ⟨s2, b1, b2, b3⟩ := prune_sound h2 a3 a4
            refine (hPT _ _ h hm fn hfn I1 s2 a w hG b2 b3 hsz hdf b cs k' ?_ hb hbk).mono a1 fun i hi u hu => b1 i hi u (a2 i u hu)
            rcases hk with rfl | ⟨_, r', rfl⟩
            · exact .inr ⟨rfl, _, rfl⟩
            · exact .inr ⟨rfl, _, rfl⟩
          · exact h.elim
        · exact h.elim
      · exact h.elim
    | ret co news =>
      have fin : ∀ {v : V} {outs nws : List C} {ps : List Prop}, retOf P nin fn.results.toList st co news = some (v, outs, nws, ps) → conj ps (goal v outs nws) → Steps P (lone (b.at a k') cs w) (lone { b.at a k' with mode := .returning } cs w) →
          Ends cx P f nin goal I s (lone (b.at a k') cs w) cs := by
        intro v outs nws ps hr hcj hst
        obtain ⟨c1, c2⟩ := conj_split _ _ hcj
        obtain ⟨x, q1, q2⟩ := retOf_sound hr c1 c2 hw hs rfl
        exact ⟨.returned x, w, _, q2, hst, hb, rfl, hdf, hbk, fn, by rw [← hb] at hfn; exact hfn, q1⟩
      simp only [exec] at h
      split at h
      · rename_i r
        split at h
        · rename_i v outs nws ps hr
          refine fin hr h ?_
          rcases hk with rfl | ⟨_, r', rfl⟩
          · exact .one step_ret
          · exact .one step_ret
        · exact h.elim
      · split at h
        · rename_i v outs nws ps hr
          refine fin hr h ?_
          rcases hk with rfl | ⟨e, _⟩
          · exact .one step_end
          · cases e
        · exact h.elim
      · exact h.elim
  | succ n ih =>
    intro I s a w hG hw hs hsz hdf b cs k' hk hb hbk
    have hkk : k ≠ [.code .ret] → k' = k := fun hne => hk.resolve_right fun q => hne q.1
    have go : ∀ {k1 : List Item} {ds1 : List RD}, exec P (Spec P) nin fn.ntmps fn.results.toList goal PT fin n k1 st ds1 → Steps P (lone (b.at a k') cs w) (lone (b.at a k1) cs w) → Ends cx P f nin goal I s (lone (b.at a k') cs w) cs := by
      intro k1 ds1 h1 hst
      exact (ih ds1 h1 I s a w hG hw hs hsz hdf b cs k1 (.inl rfl) hb hbk).steps hst
    unfold exec at h
    split at h
    · exact go h (by rw [hkk (by simp)]; exact .one step_seq)
    · exact go h (by rw [hkk (by simp)]; exact .one step_skip)
    · exact go h (by rw [hkk (by simp)]; exact .one step_label)
    · exact go h (by rw [hkk (by simp)]; exact .one step_inBlock)
    · exact go h (by rw [hkk (by simp)]; exact .one step_inScope)
    · exact go h (by rw [hkk (by simp)]; exact .one step_block)
    · exact go h (by rw [hkk (by simp)]; exact .one step_scope)
    · exact go h (by rw [hkk (by simp)]; exact .one step_loop)
    · exact go h (by rw [hkk (by simp)]; exact .one step_inLoop)
    · split at h
      · rename_i k1 he
        exact go h (by rw [hkk (by simp)]; exact .one (step_exit he))
      · exact h.elim
    · split at h
      · rename_i k1 he
        exact go h (by rw [hkk (by simp)]; exact .one (step_goto he))
      · exact h.elim
    · rename_i c x y kk
      have hc := evO_rep (a := a) (x := c) (fun t _ => hs t)
      split at h
      · rename_i hv
        rw [hv] at hc
        simp only [repV] at hc
        exact go h (by rw [hkk (by simp)]; exact .one (by have := step_cond (P := P) (b := b) (k := kk) (cs := cs) (w := w) (x := x) (y := y) hc; simpa using this))
      · rename_i hv
        rw [hv] at hc
        simp only [repV] at hc
        exact go h (by rw [hkk (by simp)]; exact .one (by have := step_cond (P := P) (b := b) (k := kk) (cs := cs) (w := w) (x := x) (y := y) hc; simpa using this))
      · exact h.elim
    · rename_i rid ops draw kk
      split at h
      · rename_i d ds'
        split at h
        · rename_i hp' hfz
          obtain ⟨I1, a1, a2⟩ := fzs_sound _ _ _ _ hw hfz
          split at h
          · rename_i st1 cs1 hre
            obtain ⟨c1, c2⟩ := conj_split _ _ h
            let Q : Exit → Act → World → Prop := fun e a' w' => match e with
              | .normal => At cx I1 s fn.ntmps st1 a' w'
              | _ => False
            have hwp := region_sound (Iin := I1) (sin := s) (cx := cx) hm hG hre c1 (Q := Q) trivial (fun _ _ q => q) (a := a) (w := w) ⟨⟨I1, s, Facts.le_refl _, Hand.le_refl _, a2, fun t => repV_mono a1 (Hand.le_refl _) _ _ (hs t)⟩, hsz, hdf⟩
            obtain ⟨e, a', w', q, arr⟩ := hwp b kk cs
            rw [hkk (by simp)]
            cases e with
            | normal =>
              obtain ⟨⟨I2, s2, e1, e2, e3, e4⟩, z1, z2⟩ := q
              exact ((ih ds' c2 I2 s2 a' w' hG e3 e4 z1 z2 b cs kk (.inl rfl) hb hbk).steps arr).mono (Facts.le_trans a1 e1) fun i _ u hu => e2 i u hu
            | outgrown => exact q.elim
            | exit id => exact q.elim
            | goto l => exact q.elim
            | ret => exact q.elim
            | panic c => exact q.elim
          · exact h.elim
        · exact h.elim
      · exact h.elim
    · exact h.elim

theorem exec_sound0 {f nin : Nat} {k : List Item} {st : St} {goal : V → List C → List C → Prop} (fin : Fin) (n : Nat) (ds : List RD)
    (h : exec P (Spec P) nin (ntOf P f) (resOf P f) goal (fun k st => PtS P f nin k st goal) fin n k st ds) : PtS P f nin k st goal :=
  fun cx => exec_soundC (fun _ _ q => q cx) fin n ds h

theorem exec_sound {f nin : Nat} {k : List Item} {st : St} {goal : V → List C → List C → Prop} (fin : Fin) (n : Nat) (ds : List RD) {α : Prop} (a : α)
    (h : α = exec P (Spec P) nin (ntOf P f) (resOf P f) goal (fun k st => PtS P f nin k st goal) fin n k st ds) : PtS P f nin k st goal := exec_sound0 fin n ds (h ▸ a)

theorem entry_rep : ∀ (args : List V) (vs : List Value) (k n : Nat), repVs I s args vs → ∀ t, repV I s (getV (entry k args) t) (if k ≤ t then (vs ++ List.replicate n Go.undef).getD (t - k) Go.undef else Go.undef)
  | [], vs, k, n, h, t => by simp only [entry, getV, get, repV]
  | x :: r, [], k, n, h, t => by simp only [repVs] at h
  | x :: r, v :: q, k, n, h, t => by
    simp only [repVs] at h
    have ih := entry_rep r q (k + 1) n h.2 t
    simp only [entry]
    rw [getV_cons]
    by_cases e : k = t
    · subst e
      simp only [if_true, Nat.le_refl, Nat.sub_self, List.cons_append, List.getD_cons_zero]
      exact h.1
    · rw [if_neg e]
      by_cases hle : k ≤ t
      · rw [if_pos (by omega)] at ih
        rw [if_pos hle, show t - k = (t - (k + 1)) + 1 by omega, List.cons_append, List.getD_cons_succ]
        exact ih
      · rw [if_neg (by omega)] at ih
        rw [if_neg hle]
        exact ih

theorem specOf {f : Nat} {fn : Func} {args : List V} {ins : List C} {res : V} {outs news : List C} (hm : P.follows .mixedOrders = true) (hf : P.funcs[f]? = some fn)
    (hn : (fn.body.isSome && !(fn.name == "runtime.NumGoroutine")) = true) (H : PtS P f ins.length [.code (sub (bodyOf fn) [])] ⟨entry 0 args, entryH 0 ins⟩ (fun v o n => v = res ∧ o = outs ∧ n = news)) : Spec P f args ins res outs news := by
  intro cx I s w vs hG hw hargs
  simp only [Bool.and_eq_true, Bool.not_eq_true'] at hn
  obtain ⟨hb, hname⟩ := hn
  obtain ⟨c, hbody⟩ := Option.isSome_iff_exists.1 hb
  left
  refine ⟨f, vs.toArray, ?_, ?_⟩
  · have hnone : fn.body.isNone = false := by rw [hbody]; rfl
    have hpr : (program).run P w = .ok P w := rfl
    simp only [callFunc, Sem.run_bind, hpr, Result.andThen_ok, hf, hname, hnone, Bool.false_eq_true, if_false, Sem.run_pure]
  · intro cs
    let b : Frame := { (default : Frame) with fn := f, kind := .normal }
    let a : Act := { tmps := vs.toArray ++ Array.replicate (fn.ntmps - vs.toArray.size) Go.undef, defers := [] }
    have henter : Frame.enter P f vs.toArray .normal = b.at a [.code c] := by
      simp [Frame.enter, Frame.at, hf, hbody, b, a]
    have hcode : sub (bodyOf fn) [] = c := by simp only [bodyOf, hbody]; cases c <;> rfl
    rw [hcode] at H
    obtain ⟨e, w', fr, h1, h2, h3, h4⟩ := H cx hm fn hf I s a w hG hw (fun t => by
      have := entry_rep args vs 0 (fn.ntmps - vs.length) hargs t
      rw [if_pos (Nat.zero_le _), Nat.sub_zero] at this
      unfold SlotRep
      have e : a.tmps.getD t Go.undef = (vs ++ List.replicate (fn.ntmps - vs.length) Go.undef).getD t Go.undef := by
        simp only [a, Array.getD_eq_getD_getElem?, List.getD_eq_getElem?_getD]
        congr 1
        rw [← Array.getElem?_toList]
        simp
      rw [e]
      exact this) (by simp only [a, Array.size_append, List.size_toArray, Array.size_replicate]; omega) rfl b cs [.code c] (.inl rfl) rfl rfl
    refine ⟨e, w', fr, ?_, by rw [henter]; exact h2, h3, h4⟩
    cases e with
    | returned v =>
      obtain ⟨r, o, n, ⟨rfl, rfl, rfl⟩, I', s', k1, k2, k3, k4⟩ := h1
      refine ⟨I', s', k1, fun i u hu => ?_, k3, k4⟩
      refine k2 i ?_ u hu
      have := hw.dom i u hu
      rw [get_entryH0] at this
      rcases Nat.lt_or_ge i ins.length with q | q
      · exact q
      · rw [List.getElem?_eq_none q] at this; cases this
    | panicked ch => exact h1
    | outgrown => exact h1

/-- Every row shared. -/
def frz : List C → List C
  | [] => []
  | .row s xs _ :: r => .row s xs 2 :: frz r
  | c :: r => c :: frz r

theorem frz_length : ∀ l : List C, (frz l).length = l.length
  | [] => rfl
  | c :: r => by cases c <;> simp [frz, frz_length r]

theorem frz_get : ∀ (l : List C) (i : Nat), (frz l)[i]? = (l[i]?).map fun c => match c with
    | .row s xs _ => .row s xs 2
    | c => c
  | [], i => by simp [frz]
  | c :: r, 0 => by cases c <;> simp [frz]
  | c :: r, i + 1 => by
    have := frz_get r i
    cases c <;> simpa [frz] using this

theorem frz_sound (n : Nat) (l : List C) : ∀ (m : Nat) (I : Facts), m ≤ l.length → WInv cx I s (get (entryH 0 l)) w → ∃ I', I.le I' ∧ WInv cx I' s (fun i => if n ≤ i ∧ i < n + m then (frz l)[i]? else l[i]?) w := by
  intro m
  induction m with
  | zero =>
    intro I _ h
    refine ⟨I, Facts.le_refl _, ?_⟩
    have : (fun i => if n ≤ i ∧ i < n + 0 then (frz l)[i]? else l[i]?) = get (entryH 0 l) := by
      funext i
      rw [if_neg (by omega), get_entryH0]
    rw [this]; exact h
  | succ m ih =>
    intro I hm h
    obtain ⟨I', h1, h2⟩ := ih I (by omega) h
    have step : ∀ hp' : Nat → Option C, hp' = (fun i => if n ≤ i ∧ i < n + (m + 1) then (frz l)[i]? else l[i]?) → WInv cx I' s hp' w → ∃ I', I.le I' ∧ WInv cx I' s (fun i => if n ≤ i ∧ i < n + (m + 1) then (frz l)[i]? else l[i]?) w := by
      rintro hp' rfl q
      exact ⟨I', h1, q⟩
    cases hc : l[n + m]? with
    | none =>
      refine step _ ?_ h2
      funext i
      by_cases hi : i = n + m
      · subst hi
        rw [if_neg (by omega), if_pos (by omega), frz_get, hc]; rfl
      · by_cases h3 : n ≤ i ∧ i < n + m
        · rw [if_pos h3, if_pos (by omega)]
        · rw [if_neg h3, if_neg (by omega)]
    | some c =>
      by_cases hrow : ∃ t xs fz, c = .row t xs fz
      · obtain ⟨t, xs, fz, rfl⟩ := hrow
        obtain ⟨I'', g1, g2⟩ := h2.freeze (id := n + m) (t := t) (xs := xs) (fz := fz) (by rw [if_neg (by omega)]; exact hc)
        refine ⟨I'', Facts.le_trans h1 g1, ?_⟩
        have : setF (fun i => if n ≤ i ∧ i < n + m then (frz l)[i]? else l[i]?) (n + m) (.row t xs 2) = (fun i => if n ≤ i ∧ i < n + (m + 1) then (frz l)[i]? else l[i]?) := by
          funext i
          simp only [setF]
          by_cases hi : i = n + m
          · subst hi
            rw [if_pos rfl, if_pos (by omega), frz_get, hc]; rfl
          · rw [if_neg hi]
            by_cases h3 : n ≤ i ∧ i < n + m
            · rw [if_pos h3, if_pos (by omega)]
            · rw [if_neg h3, if_neg (by omega)]
        rw [← this]
        exact g2
      · refine step _ ?_ h2
        funext i
        by_cases hi : i = n + m
        · subst hi
          rw [if_neg (by omega), if_pos (by omega), frz_get, hc]
          cases c <;> first
            | rfl
            | exact absurd ⟨_, _, _, rfl⟩ hrow
        · by_cases h3 : n ≤ i ∧ i < n + m
          · rw [if_pos h3, if_pos (by omega)]
          · rw [if_neg h3, if_neg (by omega)]

/-- A result told as pure data; what is new is let go. -/
def pureOf (ins outs news : List C) (u : Shape) (res : V) : Option (V × List C) :=
  bif Nat.beq ins.length outs.length then (match normV (get (entryH 0 (outs ++ frz news))) u res, renCs (numbered 0 (upto 0 outs.length)) outs with
    | some v, some o => some (v, o)
    | _, _ => none) else none

theorem elV_hand {u : Shape} {x : El u} {v : Value} (h : repV I s (elV u x) v) : repV I s' (elV u x) v := by
  have leaf : ∀ (u : Shape) (x : El u) (y : Value), isUser u = false → repV I s (leafV u x) y → repV I s' (leafV u x) y := by
    intro u x y hu hx
    cases u <;> simp only [leafV, repV] at hx ⊢ <;> first | exact hx | simp [isUser] at hu
  have leaves : ∀ (us : List Shape) (x : Els us) (ys : List Value), (∀ u ∈ us, isUser u = false) → repVs I s (leavesV us x) ys → repVs I s' (leavesV us x) ys := by
    intro us
    induction us with
    | nil => intro x ys _ hx; cases ys <;> simp only [leavesV, repVs] at hx ⊢
    | cons u us ih =>
      intro x ys hu hx
      cases ys with
      | nil => simp only [leavesV, repVs] at hx
      | cons y ys =>
        simp only [leavesV, repVs] at hx ⊢
        exact ⟨leaf u x.1 y (hu u (by simp)) hx.1, ih x.2 ys (fun u' h' => hu u' (by simp [h'])) hx.2⟩
  cases u with
  | user n =>
    simp only [elV, repV] at h ⊢
    obtain ⟨cs, h1, h2⟩ := h
    exact ⟨cs, h1, leaves _ _ _ (UnivOk.plain n) h2⟩
  | int k => exact leaf (.int k) x v rfl h
  | bool => exact leaf .bool x v rfl h
  | str => exact leaf .str x v rfl h
  | list u => exact leaf (.list u) x v rfl h

theorem upto_get : ∀ (n k j : Nat), j < n → (upto k n)[j]? = some (k + j) := by
  intro n
  induction n with
  | zero => intro k j hj; omega
  | succ n ih =>
    intro k j hj
    simp only [upto]
    cases j with
    | zero => rfl
    | succ j =>
      rw [List.getElem?_cons_succ, ih (k + 1) j (by omega)]
      congr 1; omega

theorem upto_length : ∀ (n k : Nat), (upto k n).length = n
  | 0, _ => rfl
  | n + 1, k => by simp [upto, upto_length n (k + 1)]

theorem upto_nodup : ∀ (n k : Nat), (upto k n).Nodup
  | 0, _ => List.nodup_nil
  | n + 1, k => by
    simp only [upto]
    refine List.nodup_cons.2 ⟨fun hm => ?_, upto_nodup n (k + 1)⟩
    obtain ⟨j, hj⟩ := List.getElem?_of_mem hm
    have hlt := (List.getElem?_eq_some_iff.1 hj).1
    rw [upto_length] at hlt
    rw [upto_get n (k + 1) j hlt] at hj
    have := Option.some.inj hj
    omega

theorem specPure {f : Nat} {args : List V} {ins : List C} {res : V} {outs news : List C} (u : Shape) (x : El u)
    (h : pureOf ins outs news u res = some (elV u x, outs)) (H : Spec P f args ins res outs news) : Spec P f args ins (elV u x) outs [] := by
  intro cx I s w vs hG hw hargs
  refine (H cx I s w vs hG hw hargs).mono fun v w' hv => ?_
  obtain ⟨I1, s1, a1, a2, a3, a4⟩ := hv
  unfold pureOf at h
  cases hz : Nat.beq ins.length outs.length with
  | false => rw [hz] at h; cases h
  | true =>
    rw [hz, cond_true] at h
    have hlen := Nat.eq_of_beq_eq_true hz
    split at h
    · rename_i v' o' hn hr
      simp only [Option.some.injEq, Prod.mk.injEq] at h
      obtain ⟨rfl, rfl⟩ := h
      obtain ⟨I2, b1, b2⟩ := frz_sound o'.length (o' ++ news) news.length I1 (by simp) a3
      have e : (fun i => if o'.length ≤ i ∧ i < o'.length + news.length then (frz (o' ++ news))[i]? else (o' ++ news)[i]?) = get (entryH 0 (o' ++ frz news)) := by
        funext i
        rw [get_entryH0]
        by_cases h1 : i < o'.length
        · rw [if_neg (by omega), List.getElem?_append_left h1, List.getElem?_append_left h1]
        · by_cases h2 : i < o'.length + news.length
          · rw [if_pos (by omega), frz_get, List.getElem?_append_right (by omega), List.getElem?_append_right (by omega), frz_get]
          · rw [if_neg (by omega), List.getElem?_append_right (by omega), List.getElem?_append_right (by omega), List.getElem?_eq_none (by omega), List.getElem?_eq_none (by rw [frz_length]; omega)]
      rw [e] at b2
      have hrep := normV_rep b2 hn (repV_mono b1 (Hand.le_refl _) _ _ a4)
      obtain ⟨r1, r2⟩ := renCs_get o' o' hr
      refine ⟨I2, handOf s1 (upto 0 o'.length), Facts.le_trans a1 b1, fun i q hq => ?_, ?_, elV_hand hrep⟩
      · have hd := hw.dom i q hq
        rw [get_entryH0] at hd
        have hlt : i < ins.length := by
          rcases Nat.lt_or_ge i ins.length with q | q
          · exact q
          · rw [List.getElem?_eq_none q] at hd; cases hd
        have := upto_get o'.length 0 i (by omega)
        rw [Nat.zero_add] at this
        simp only [handOf, this]
        exact a2 i q hq
      · rw [List.append_nil]
        refine b2.rename (m := numbered 0 (upto 0 o'.length)) num_inj (fun i j hij => handOf_num hij) (fun j c' hj => ?_) (fun j q hq => ?_)
        · rw [get_entryH0] at hj
          obtain ⟨c, d1, d2⟩ := r2 j c' hj
          have hlt := (List.getElem?_eq_some_iff.1 d1).1
          have hu := upto_get o'.length 0 j hlt
          have := get_numbered_of _ 0 _ j (upto_nodup _ _) hu
          rw [Nat.zero_add] at this
          refine ⟨_, c, this, ?_, d2⟩
          rw [get_entryH0, List.getElem?_append_left hlt]
          exact d1
        · rw [get_entryH0]
          have hlt : j < (upto 0 o'.length).length := by
            rcases Nat.lt_or_ge j (upto 0 o'.length).length with q | q
            · exact q
            · simp only [handOf, List.getElem?_eq_none q] at hq; cases hq
          rw [upto_length] at hlt
          rw [List.getElem?_eq_getElem hlt]
          rfl
    · cases h

end

/-- Answers that stay. -/
def Le {α : Type} (a b : Option α) : Prop := ∀ r, a = some r → b = some r
theorem leRefl {α : Type} (a : Option α) : Le a a := fun _ h => h
theorem leNone {α : Type} (a : Option α) : Le none a := fun _ h => by cases h
theorem leIte {α : Type} {c : Prop} [Decidable c] {a b a' b' : Option α} (h : Le a a') (g : Le b b') : Le (if c then a else b) (if c then a' else b') := by
  by_cases hc : c
  · simpa [hc] using h
  · simpa [hc] using g
theorem leBind {α β : Type} {a a' : Option α} {f f' : α → Option β} (h : Le a a') (g : ∀ x, Le (f x) (f' x)) : Le (a >>= f) (a' >>= f') := by
  intro r hr
  cases ha : a with
  | none => rw [ha] at hr; cases hr
  | some x =>
    rw [ha] at hr
    rw [h x ha]
    exact g x r hr
theorem noneE {R : Type} {r : R} {G : Prop} (h : (none : Option R) = some r) : G := by cases h
theorem boolE {b : Bool} {R : Type} {x y : Option R} {r : R} {G : Prop} (h : (if b = true then x else y) = some r) (t : b = true → x = some r → G) (f : b = false → y = some r → G) : G := by
  cases b
  · exact f rfl (by simpa using h)
  · exact t rfl (by simpa using h)
theorem iteE {c : Prop} [Decidable c] {R : Type} {x y : Option R} {r : R} {G : Prop} (h : (if c then x else y) = some r) (t : c → x = some r → G) (f : ¬ c → y = some r → G) : G := by
  by_cases hc : c
  · exact t hc (by simpa [hc] using h)
  · exact f hc (by simpa [hc] using h)
theorem condE {c : Prop} [Decidable c] {R : Type} {x : Option R} {r : R} {G : Prop} (h : (if c then x else none) = some r) (t : c → x = some r → G) : G := by
  by_cases hc : c
  · exact t hc (by simpa [hc] using h)
  · simp [hc] at h
theorem bindE {A R : Type} {o : Option A} {f : A → Option R} {r : R} {G : Prop} (h : (o >>= f) = some r) (t : ∀ a, o = some a → f a = some r → G) : G := by
  cases o with
  | none => simp at h
  | some a => exact t a rfl h
theorem someE {R : Type} {x r : R} {Φ : R → Prop} (h : some x = some r) (q : Φ r) : Φ x := by
  injection h with h
  rwa [h]
theorem sumE {A B R : Type} (v : Sum A B) {F : Sum A B → Option R} {r : R} {Φ : Sum A B → Prop} (h : F v = some r) (l : ∀ a, F (.inl a) = some r → Φ (.inl a)) (q : ∀ b, F (.inr b) = some r → Φ (.inr b)) : Φ v := by
  cases v with
  | inl a => exact l a h
  | inr b => exact q b h

end Go.PE
