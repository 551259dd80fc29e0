/-
  PE, one operation, whichever: what it leaves is what is told.
-/
import Derived.Test.YtifmnhcmmoacfaaGreatDoorQCall
set_option linter.unusedVariables false
set_option linter.unusedSectionVars false
set_option linter.unusedSimpArgs false
namespace Go.PE
section
variable [Univ] [UnivOk] [Ground] {cx : Cx} {I I' : Facts} {s s' : Hand} {hp hpr : Nat → Option C} {w w' : World} {P : Program}

theorem evs_rep {ev : Operand → V} {f : Operand → Value} : ∀ (l : List Operand), (∀ x ∈ l, repV I s (ev x) (f x)) → repVs I s (evs ev l) (l.map f)
  | [], _ => by simp only [evs, List.map_nil, repVs]
  | x :: r, h => by
    simp only [evs, List.map_cons, repVs]
    exact ⟨h x (by simp), evs_rep r fun y hy => h y (by simp [hy])⟩

theorem parts_rep {ev : Operand → V} {f : Operand → Value} : ∀ (l : List (Nat × Operand)), (∀ x ∈ l.map (·.2), repV I s (ev x) (f x)) → repPs I s (parts ev l) (l.map fun (i, x) => (i, f x))
  | [], _ => trivial
  | (i, x) :: r, h => by
    simp only [parts, List.map_cons, repPs]
    exact ⟨trivial, h x (by simp), parts_rep r fun y hy => h y (by simp at hy ⊢; exact .inr hy)⟩

theorem Out.val {o : Oper} {a : Act} {x : V} {sv : Sem Value} {upd : List (Nat × C)} (he : execOp a.eval o = (sv >>= fun v => pure (Next.value v))) (hr : ∃ v w', sv.run P w = .ok v w' ∧ Res cx I s hp upd x v w') : Out P o a w (Res cx I s hp upd x) := by
  obtain ⟨v, w', h1, h2⟩ := hr
  exact Out.value (w' := w') (v := v) (by rw [he]; exact run_value h1) h2

theorem Out.val0 (h : WInv cx I s hp w) {o : Oper} {a : Act} {x : V} {sv : Sem Value} {upd : List (Nat × C)} (hu : upd = []) (he : execOp a.eval o = (sv >>= fun v => pure (Next.value v))) (hr : ∃ v, sv.run P w = .ok v w ∧ repV I s x v) : Out P o a w (Res cx I s hp upd x) := by
  obtain ⟨v, h1, h2⟩ := hr
  subst hu
  exact Out.val he ⟨v, w, h1, Res.same h h2⟩

theorem Out.unit {o : Oper} {a : Act} {x : V} {sv : Sem Unit} {upd : List (Nat × C)} (he : execOp a.eval o = (sv >>= fun _ => pure Next.skip)) (hr : ∃ w', sv.run P w = .ok () w' ∧ Res cx I s hp upd x Go.undef w') : Out P o a w (Res cx I s hp upd x) := by
  obtain ⟨w', h1, h2⟩ := hr
  exact Out.skip (w' := w') (by rw [he]; exact run_unit h1) h2

theorem opBuiltin_sound (h : WInv cx I s hp w) (hsub : ∀ id c, hpr id = some c → hp id = some c) {nid : Nat} {dir : Option Dir} {b : Builtin} {ts : Array TypeId} {vs : List V} {ef : Eff} (he : opBuiltin P hpr nid dir b ts.toList vs = some ef) (hc : ∀ q ∈ ef.conds, q)
    (hn : ∀ id ∈ keys ef.upd, id = nid → hp nid = none) {args : Array Value} (ha : repVs I s vs args.toList) (ty : TypeId) (cs : Array Bool) :
    ∃ v w', (builtin b ts ty cs args).run P w = .ok (.value v) w' ∧ Res cx I s hp ef.upd ef.v v w' := by
  have one : ∀ {x : V} {v : List Value}, repVs I s [x] v → ∃ u, v = [u] ∧ repV I s x u := by
    intro x v hv
    cases v with
    | nil => simp only [repVs] at hv
    | cons u r =>
      cases r with
      | nil => simp only [repVs] at hv; exact ⟨u, rfl, hv.1⟩
      | cons _ _ => simp only [repVs, and_false] at hv
  have two : ∀ {x y : V} {v : List Value}, repVs I s [x, y] v → ∃ u z, v = [u, z] ∧ repV I s x u ∧ repV I s y z := by
    intro x y v hv
    cases v with
    | nil => simp only [repVs] at hv
    | cons u r =>
      simp only [repVs] at hv
      obtain ⟨z, rfl, hz⟩ := one (x := y) (v := r) hv.2
      exact ⟨u, z, rfl, hv.1, hz⟩
  obtain ⟨args⟩ := args
  obtain ⟨ts⟩ := ts
  simp only at ha he
  unfold opBuiltin at he
  split at he
  · rename_i t x
    obtain ⟨u, rfl, hu⟩ := one ha
    have fin : ∀ n : Nat, (Builtin.len_ #[t] ty #[u]).run P w = .ok (.int .i64 n) w → ef = ⟨.int .i64 n, [], []⟩ → ∃ v w', (builtin .len [t].toArray ty cs [u].toArray).run P w = .ok (.value v) w' ∧ Res cx I s hp ef.upd ef.v v w' := by
      rintro n hr rfl
      exact ⟨_, w, run_value hr, Res.same h (by simp only [repV])⟩
    split at he
    · rename_i n e hd
      exact fin n (by simp only [Builtin.len_, List.getElem?_toArray, List.getElem?_cons_zero, Sem.run_bind, run_underlying (und_some hd (by simp)), Result.andThen_ok]; rfl) (by cases he; rfl)
    · rename_i b hd
      simp only [repV] at hu
      subst hu
      exact fin b.length (by simp only [Builtin.len_, List.getElem?_toArray, List.getElem?_cons_zero, Sem.run_bind, run_underlying (und_some hd (by simp)), Result.andThen_ok]; simp [ByteArray.size, goInt]) (by cases he; rfl)
    · rename_i e a xs fl hd
      simp only [repV, repD] at hu
      obtain ⟨⟨base, cap, rfl, _⟩, _⟩ := hu
      exact fin xs.length (by simp only [Builtin.len_, List.getElem?_toArray, List.getElem?_cons_zero, Sem.run_bind, run_underlying (und_some hd (by simp)), Result.andThen_ok]; rfl) (by cases he; rfl)
    · rename_i e hd
      simp only [repV] at hu
      subst hu
      exact fin 0 (by simp only [Builtin.len_, List.getElem?_toArray, List.getElem?_cons_zero, Sem.run_bind, run_underlying (und_some hd (by simp)), Result.andThen_ok]; rfl) (by cases he; rfl)
    · rename_i e id hd
      split at he
      · rename_i a xs fz hid
        have hr := h.cont id _ (hsub _ _ hid)
        simp only [repC] at hr
        obtain ⟨base, cap, k1, k2, k3⟩ := hr
        simp only [repV] at hu
        rw [k1] at hu
        have := Option.some.inj hu.1
        subst this
        exact fin xs.length (by simp only [Builtin.len_, List.getElem?_toArray, List.getElem?_cons_zero, Sem.run_bind, run_underlying (und_some hd (by simp)), Result.andThen_ok]; rfl) (by cases he; rfl)
      · cases he
    · rename_i kt et id hd
      split at he
      · rename_i ks vs' es hid
        have hr := h.cont id _ (hsub _ _ hid)
        simp only [repC] at hr
        obtain ⟨b, ens, clock, k1, k2, k3⟩ := hr
        simp only [repV] at hu
        obtain ⟨b', q1, rfl⟩ := hu
        rw [k1] at q1
        cases q1
        have hl := repEs_length _ _ k3.1
        have hl2 : ens.toList.length = ens.size := Array.length_toList
        exact fin es.length (by
          simp only [Builtin.len_, List.getElem?_toArray, List.getElem?_cons_zero, Sem.run_bind, run_underlying (und_some hd (by simp)), Result.andThen_ok, MapKept.run_getObj_map k2]
          rw [hl, hl2]; rfl) (by cases he; rfl)
      · cases he
    · cases he
  · rename_i t u' a x
    obtain ⟨va, vx, rfl, h1, h2⟩ := two ha
    have go : ∀ (d : TypeDesc), und P u' = d → d ≠ .invalid → (∀ k, d ≠ .int k) → opAppend P hpr nid dir t a x = some ef → ∃ v w', (builtin .append [t, u'].toArray ty cs [va, vx].toArray).run P w = .ok (.value v) w' ∧ Res cx I s hp ef.upd ef.v v w' := by
      intro d hd h3 h4 he
      have hk : nid ∈ keys ef.upd := by
        have key : ∀ {s' : Shape} {xs : List (El s')} {fz : Nat} {upd : List (Nat × C)} {conds : List Prop}, made nid dir s' xs fz upd conds = some ef → nid ∈ keys ef.upd := by
          intro s' xs fz upd conds hm
          unfold made at hm
          split at hm <;> (cases hm; simp [keys])
        unfold opAppend at he
        split at he
        · split at he
          · rename_i a' _
            cases hz : (tsz P _ (size a') && zeroOk P _ a' && Nat.blt 0 (tbytes P _)) with
            | false => rw [hz] at he; cases he
            | true =>
              rw [hz, cond_true] at he
              split at he
              · split at he
                · exact key he
                · exact key he
                · split at he
                  · split at he
                    · exact key he
                    · cases he
                  · cases he
                · cases he
              · cases he
          · cases he
        · cases he
      obtain ⟨y, w', g1, g2⟩ := opAppend_sound h hsub (hn nid hk rfl) (und_some hd h3) h4 he hc h1 h2 ty
      exact ⟨y, w', run_value g1, g2⟩
    split at he
    · cases he
    · cases he
    · rename_i d hd1 hd2
      exact go _ rfl hd2 (fun k => hd1 k) he
  · rename_i t u' a x
    obtain ⟨va, vx, rfl, h1, h2⟩ := two ha
    obtain ⟨y, w', g1, g2⟩ := opCopy_sound (u := u') h hsub he h1 h2 ty
    exact ⟨y, w', run_value g1, g2⟩
  · rename_i k x k' y
    obtain ⟨va, vx, rfl, h1, h2⟩ := two ha
    simp only [repV] at h1 h2
    subst h1; subst h2
    cases hk : kindEq k k' with
    | false => rw [hk] at he; cases he
    | true =>
      rw [hk] at he
      cases he
      exact ⟨_, w, run_value (run_min_int2 (P := P) (w := w) ts.toArray ty k k' x y), Res.same h (by simp only [repV])⟩
  · rename_i k x k' y
    obtain ⟨va, vx, rfl, h1, h2⟩ := two ha
    simp only [repV] at h1 h2
    subst h1; subst h2
    cases hk : kindEq k k' with
    | false => rw [hk] at he; cases he
    | true =>
      rw [hk] at he
      cases he
      exact ⟨_, w, run_value (run_max_int2 (P := P) (w := w) ts.toArray ty k k' x y), Res.same h (by simp only [repV])⟩
  · cases he

theorem opRange_sound (h : WInv cx I s hp w) {nid : Nat} {t : TypeId} {x : V} {ef : Eff} (he : opRange P nid t x = some ef) (hn : ∀ id ∈ keys ef.upd, id = nid → hp nid = none) {v : Value} (hv : repV I s x v) :
    ∃ y w', (Instr.range t v).run P w = .ok y w' ∧ Res cx I s hp ef.upd ef.v y w' := by
  unfold opRange at he
  split at he
  · rename_i b hd
    cases he
    simp only [repV] at hv
    subst hv
    have hn := hn nid (by simp [keys]) rfl
    refine ⟨.pointer (some ⟨w.heap.size, 0, none⟩), w.alloc (.stringIter ⟨b.toArray⟩ 0), ?_, ?_⟩
    · simp only [Instr.range, Sem.run_bind, run_underlying (und_some hd (by simp)), Result.andThen_ok, Sem.run_pure]
      rfl
    · refine ⟨I, setF s nid (.pointer (some ⟨w.heap.size, 0, none⟩)), Facts.le_refl _, le_setF (h.unknown hn), ?_, ?_⟩
      · refine h.create hn _ _ (but_alloc _ _) (Facts.le_refl _) (fun _ _ _ => rfl) (fun o u hu => by rw [h.fresh_none] at hu; cases hu) (fun b hb => by simp [blk] at hb; exact hb.symm) ?_
        simp only [repC]
        exact ⟨_, by simp, alloc_at _ _⟩
      · simp only [repV]
        exact ⟨_, by simp, rfl⟩
  · cases he

theorem opNext_sound (h : WInv cx I s hp w) (hsub : ∀ id c, hpr id = some c → hp id = some c) {dir : Option Dir} {x : V} {b : Bool} {ef : Eff} (he : opNext hpr dir x b = some ef) (hc : ∀ q ∈ ef.conds, q) {v : Value} (hv : repV I s x v) (ty : TypeId) :
    ∃ y w', (Instr.next v b ty).run P w = .ok y w' ∧ Res cx I s hp ef.upd ef.v y w' := by
  unfold opNext at he
  split at he
  · rename_i id
    simp only [repV] at hv
    obtain ⟨bl, hb, rfl⟩ := hv
    split at he
    · rename_i l pos hid
      cases he
      have hr := h.cont id _ (hsub _ _ hid)
      simp only [repC] at hr
      obtain ⟨b', k1, k2⟩ := hr
      rw [hb] at k1
      cases k1
      have hlt : pos < l.length := hc _ (by simp)
      have hsz : (ByteArray.mk l.toArray).size = l.length := by simp [ByteArray.size]
      have hg : (getObj bl).run P w = .ok (.stringIter ⟨l.toArray⟩ pos) w := by simp [getObj, Sem.run, k2]
      have hset : (setObj bl (.stringIter ⟨l.toArray⟩ (pos + (sdec l pos).2))).run P w = .ok () { w with heap := w.heap.setIfInBounds bl (.stringIter ⟨l.toArray⟩ (pos + (sdec l pos).2)) } := by simp [setObj, Sem.run, k2]
      refine ⟨.tuple #[.bool true, .int .i64 pos, .int .i32 (sdec l pos).1], { w with heap := w.heap.setIfInBounds bl (.stringIter ⟨l.toArray⟩ (pos + (sdec l pos).2)) }, ?_, I, s, Facts.le_refl _, Hand.le_refl _, h.rewrite (hsub _ _ hid) (b := bl) (by simp [blk, hb]) (but_setObj _ bl (.stringIter ⟨l.toArray⟩ (pos + (sdec l pos).2))) (fun b' hb' => by simp [blk, hb] at hb'; exact hb'.symm) (fun o v hI => ?_) ?_, ?_⟩
      · simp only [Instr.next, Sem.run_bind, hg, Result.andThen_ok, hsz, hlt, if_true]
        have : Utf8.decode ⟨l.toArray⟩ pos = sdec l pos := rfl
        simp only [this, Sem.run_bind, hset, Result.andThen_ok, Sem.run_pure]
        rfl
      · have := h.agree bl o v hI
        simp [World.cell?, k2] at this
      · simp only [repC]
        exact ⟨bl, hb, setObj_at _ k2⟩
      · simp only [repV]
        exact ⟨_, rfl, by simp only [repVs, repV]; exact ⟨trivial, trivial, trivial, trivial⟩⟩
    · rename_i l pos hid
      cases he
      have hr := h.cont id _ (hsub _ _ hid)
      simp only [repC] at hr
      obtain ⟨b', k1, k2⟩ := hr
      rw [hb] at k1
      cases k1
      have hlt : ¬ pos < l.length := hc _ (by simp)
      have hsz : (ByteArray.mk l.toArray).size = l.length := by simp [ByteArray.size]
      have hg : (getObj bl).run P w = .ok (.stringIter ⟨l.toArray⟩ pos) w := by simp [getObj, Sem.run, k2]
      refine ⟨.tuple #[.bool false], w, ?_, Res.same h ?_⟩
      · simp only [Instr.next, Sem.run_bind, hg, Result.andThen_ok, hsz, hlt, if_false]
        rfl
      · simp only [repV]
        exact ⟨_, rfl, by simp only [repVs, repV]; exact ⟨trivial, trivial⟩⟩
    · cases he
  · cases he

theorem out_answers {o : Oper} {a : Act} {c : Call} {sn : Sem Next} {R : Value → World → Prop} (he : ∀ w', sn.run P w = w' → (execOp a.eval o).run P w = w') (h : Answers P sn w R) : Out P o a w R := by
  intro next Q hl hn
  left
  rcases h with ⟨f, args, h1, h2⟩ | ⟨v, w', h1, h2⟩
  · unfold Oper.wp
    rw [he _ h1]
    refine h2.mono fun e w'' hw => ?_
    cases e with
    | returned v => exact hn v w'' hw
    | panicked ch => exact hw.elim
    | outgrown => exact hw.elim
  · unfold Oper.wp
    rw [he _ h1]
    exact hn v w' h2

set_option maxHeartbeats 2000000 in
theorem eff_sound (hG : Ground.G.le cx.I0) (h : WInv cx I s hp w) (hsub : ∀ id c, hpr id = some c → hp id = some c) {nid : Nat} {dir : Option Dir} {ev : Operand → V} {a : Act} {o : Oper} {ef : Eff} (he : eff P (Spec P) hpr nid dir ev o.op = some ef) (hc : ∀ q ∈ ef.conds, q)
    (hn : ∀ id ∈ keys ef.upd, nid ≤ id → id < nid + 100 → hp id = none) (hop : ∀ x ∈ o.op.operands.toList, repV I s (ev x) (a.eval x)) : Out P o a w (Res cx I s hp ef.upd ef.v) := by
  obtain ⟨dst, op, type, pos, after, guard⟩ := o
  simp only at he hop
  have hn' : ∀ id ∈ keys ef.upd, id = nid → hp nid = none := fun id hid e => by subst e; exact hn id hid (Nat.le_refl _) (by omega)
  unfold eff at he
  split at he
  case h_1 x =>
    cases he
    exact Out.value (w' := w) (v := a.eval x) rfl (Res.same h (hop x (by simp [Op.operands])))
  case h_2 x =>
    cases he
    exact Out.value (w' := w) (v := a.eval x) rfl (Res.same h (hop x (by simp [Op.operands])))
  case h_3 c x y =>
    have hcv := hop c (by simp [Op.operands])
    split at he
    · rename_i hb
      cases he
      rw [hb] at hcv
      simp only [repV] at hcv
      exact Out.value (w' := w) (v := a.eval x) (by simp only [execOp, hcv]; rfl) (Res.same h (hop x (by simp [Op.operands])))
    · rename_i hb
      cases he
      rw [hb] at hcv
      simp only [repV] at hcv
      exact Out.value (w' := w) (v := a.eval y) (by simp only [execOp, hcv]; rfl) (Res.same h (hop y (by simp [Op.operands])))
    · cases he
  case h_4 t =>
    have hk : nid ∈ keys ef.upd := by
      unfold opAlloc at he
      split at he
      · split at he
        · rename_i s' _
          cases hu : isUser s' with
          | true => rw [hu] at he; cases he
          | false =>
            rw [hu, cond_false] at he
            cases hz : zerosOk P t s' _ with
            | false => rw [hz] at he; cases he
            | true => rw [hz] at he; cases he; simp [keys]
        · cases he
      · split at he
        · cases he; simp [keys]
        · cases he
    exact Out.val (sv := Instr.alloc t true (.tuple #[])) rfl (opAlloc_sound h (hn' nid hk rfl) he)
  case h_5 t x =>
    have hk : nid ∈ keys ef.upd := by
      unfold opBox at he
      split at he
      · cases he; simp [keys]
      · rename_i x' _
        cases hz : solid (ev x) with
        | false => rw [hz] at he; cases he
        | true => rw [hz] at he; cases he; simp [keys]
    exact Out.val (sv := Instr.box t (a.eval x)) rfl (opBox_sound h (hn' nid hk rfl) he (hop x (by simp [Op.operands])) t)
  case h_6 t ps =>
    have hps := parts_rep (I := I) (s := s) (ev := ev) (f := a.eval) ps.toList (fun x hx => hop x (by simpa [Op.operands] using hx))
    obtain ⟨q1, q2⟩ := opBuild_sound (w := w) h hsub he (vs := ps.map fun (i, x) => (i, a.eval x)) (by simpa using hps)
    exact Out.val0 h (sv := Instr.build t (ps.map fun (i, x) => (i, a.eval x))) q1 rfl q2
  case h_7 t n ps =>
    have hps := parts_rep (I := I) (s := s) (ev := ev) (f := a.eval) ps.toList (fun x hx => hop x (by simpa [Op.operands] using hx))
    have hk : nid ∈ keys ef.upd := by
      unfold opBuildSlice at he
      split at he
      · rename_i e hd
        split at he
        · rename_i a' _
          cases hz : (tsz P e (size a') && Nat.ble (n * tsize P e) 16777216 && Nat.beq (parts ev ps.toList).length n && hasZero P e (size a')) with
          | false => rw [hz] at he; cases he
          | true =>
            rw [hz, cond_true] at he
            split at he
            · split at he
              · cases he; simp [keys]
              · cases he; simp [keys]
            · cases he
        · cases he
      · cases he
    exact Out.val (sv := Instr.buildSlice t n (ps.map fun (i, x) => (i, a.eval x))) rfl (opBuildSlice_sound h hsub (hn' nid hk rfl) he (vs := ps.map fun (i, x) => (i, a.eval x)) (by simpa using hps))
  case h_8 t x =>
    obtain ⟨q1, b, o', y, q2, q3, q4⟩ := opLoad_sound (w := w) h hsub he hc (hop x (by simp [Op.operands]))
    refine Out.val0 h (sv := Instr.loadAt t (a.eval x)) q1 rfl ⟨y, ?_, q4⟩
    rw [q2]
    simp only [Instr.loadAt, Instr.sureAddr, Sem.run_bind, Sem.run_pure, Result.andThen_ok]
    exact q3
  case h_9 t x y =>
    exact Out.unit (sv := Instr.storeAt t (a.eval x) (a.eval y)) rfl (opStore_sound h hsub he hc (hop x (by simp [Op.operands])) (hop y (by simp [Op.operands])))
  case h_10 x =>
    have hx := hop x (by simp [Op.operands])
    split at he
    · rename_i id off hb
      cases he
      rw [hb] at hx
      have hx0 := hx
      simp only [repV] at hx
      obtain ⟨b, _, q⟩ := hx
      exact Out.value (w' := w) (v := a.eval x) (by simp only [execOp, q]; rfl) (Res.same h hx0)
    · rename_i id sz i off hb
      cases he
      rw [hb] at hx
      have hx0 := hx
      simp only [repV] at hx
      obtain ⟨b, _, q⟩ := hx
      exact Out.value (w' := w) (v := a.eval x) (by simp only [execOp, q]; rfl) (Res.same h hx0)
    · rename_i cs off hb
      cases he
      rw [hb] at hx
      have hx0 := hx
      simp only [repV] at hx
      obtain ⟨b, o', q, _⟩ := hx
      exact Out.value (w' := w) (v := a.eval x) (by simp only [execOp, q]; rfl) (Res.same h hx0)
    · rename_i f x' y' hb
      cases he
      rw [hb] at hx
      have hx0 := hx
      simp only [repV] at hx
      obtain ⟨p, q, e, _⟩ := hx
      exact Out.value (w' := w) (v := a.eval x) (by simp only [execOp, e]; rfl) (Res.same h hx0)
    · cases he
  case h_11 op t x y c =>
    obtain ⟨q1, q2, q3⟩ := opBin_sound (w := w) he hc (hop x (by simp [Op.operands])) (hop y (by simp [Op.operands]))
    exact Out.val0 h (sv := do eqGuard op t x y (a.eval x) (a.eval y); binOp op t (a.eval x) (a.eval y)) q1 rfl ⟨_, q3, lit_rep q2⟩
  case h_12 op t x =>
    obtain ⟨q1, q2, q3⟩ := opUn_sound (P := P) (w := w) he (hop x (by simp [Op.operands]))
    exact Out.val0 h (sv := Op.unary op (a.eval x)) q1 rfl ⟨_, q3, lit_rep q2⟩
  case h_13 sr d x => exact Out.val (sv := convert sr d (a.eval x)) rfl (opConv_sound h hsub he hn' (hop x (by simp [Op.operands])))
  case h_14 t x =>
    have hx := hop x (by simp [Op.operands])
    split at he
    · cases he
    · cases he
    · rename_i d1 d2
      cases he
      refine Out.val0 h (sv := Instr.makeInterface t (a.eval x)) rfl rfl ⟨.iface t (a.eval x), ?_, by simp only [repV]; exact ⟨_, rfl, hx⟩⟩
      have hu := und_some (rfl : und P t = _) d2
      simp only [Instr.makeInterface, Sem.run_bind, run_underlying hu, Result.andThen_ok]
      cases hd : und P t <;> first
        | rfl
        | exact absurd hd (d1 _)
  case h_15 f x y =>
    cases he
    refine Out.val0 h (sv := Instr.makeFunc (.func f) (x.map a.eval) (y.map a.eval)) rfl rfl ⟨.func (.func f) (x.map a.eval) (y.map a.eval), rfl, ?_⟩
    simp only [repV]
    refine ⟨_, _, rfl, ?_, ?_⟩
    · have := evs_rep (I := I) (s := s) (ev := ev) (f := a.eval) x.toList (fun z hz => hop z (by simp [Op.operands] at hz ⊢; exact .inl hz))
      simpa using this
    · have := evs_rep (I := I) (s := s) (ev := ev) (f := a.eval) y.toList (fun z hz => hop z (by simp [Op.operands] at hz ⊢; exact .inr hz))
      simpa using this
  case h_16 t r =>
    have hk : nid ∈ keys ef.upd := by
      unfold opMakeMap at he
      split at he
      · split at he
        · cases he; simp [keys]
        · cases he
      · cases he
    exact Out.val (sv := Instr.makeMap t (r.map a.eval)) rfl (opMakeMap_sound h (hn' nid hk rfl) he (vr := r.map a.eval) (fun hr => by cases r with
      | none => rfl
      | some _ => cases hr))
  case h_17 t l c => exact Out.val (sv := Instr.makeSlice t (a.eval l) (a.eval c)) rfl (opMakeSlice_sound h he hc hn' (hop l (by simp [Op.operands])) (hop c (by simp [Op.operands])))
  case h_18 t x lo hi mx =>
    have hO : ∀ (y : Option Operand), (∀ z, y = some z → repV I s (ev z) (a.eval z)) → repO I s (match y with | some x => some (ev x) | none => none) (y.map a.eval) := by
      intro y hy
      cases y with
      | none => trivial
      | some z => exact hy z rfl
    obtain ⟨y, q1, q2⟩ := opSlice_sound h hsub he hc (hop x (by simp [Op.operands])) (hO lo fun z hz => hop z (by simp [Op.operands, hz])) (hO hi fun z hz => hop z (by simp [Op.operands, hz])) (hO mx fun z hz => hop z (by simp [Op.operands, hz]))
    exact Out.val (sv := Instr.sliceAt t (a.eval x) (lo.map a.eval) (hi.map a.eval) (mx.map a.eval)) rfl ⟨y, w, q1, q2⟩
  case h_19 t x f =>
    obtain ⟨q1, q2⟩ := opFieldAddr_sound (w := w) he (hop x (by simp [Op.operands]))
    exact Out.val0 h (sv := Instr.fieldAt t (a.eval x) f) q1 rfl q2
  case h_20 t x f =>
    obtain ⟨q1, q2⟩ := opField_sound (w := w) he (hop x (by simp [Op.operands]))
    exact Out.val0 h (sv := Instr.field t (a.eval x) f) q1 rfl q2
  case h_21 t x i =>
    obtain ⟨q1, q2⟩ := opIndexAddr_sound (w := w) h hsub he hc (hop x (by simp [Op.operands])) (hop i (by simp [Op.operands]))
    exact Out.val0 h (sv := Instr.indexAt t (a.eval x) (a.eval i)) q1 rfl q2
  case h_22 t x i =>
    obtain ⟨q1, q2⟩ := opIndex_sound (w := w) he hc (hop x (by simp [Op.operands])) (hop i (by simp [Op.operands]))
    exact Out.val0 h (sv := Instr.index t (a.eval x) (a.eval i)) q1 rfl q2
  case h_23 t x i ok =>
    obtain ⟨q1, q2⟩ := opLookup_sound (w := w) h hsub he (hop x (by simp [Op.operands])) (hop i (by simp [Op.operands]))
    exact Out.val0 h (sv := Instr.lookup t (a.eval x) (a.eval i) ok) q1 rfl q2
  case h_24 t m k x => exact Out.unit (sv := Instr.mapUpdate t (a.eval m) (a.eval k) (a.eval x)) rfl (opMapSet_sound h hsub he (hop m (by simp [Op.operands])) (hop k (by simp [Op.operands])) (hop x (by simp [Op.operands])))
  case h_25 t m k x => exact Out.unit (sv := Instr.mapUpdate t (a.eval m) (a.eval k) (a.eval x)) rfl (opMapSet_sound h hsub he (hop m (by simp [Op.operands])) (hop k (by simp [Op.operands])) (hop x (by simp [Op.operands])))
  case h_26 t x => exact Out.val (sv := Instr.range t (a.eval x)) rfl (opRange_sound h he hn' (hop x (by simp [Op.operands])))
  case h_27 it b => exact Out.val (sv := Instr.next (a.eval it) b type) rfl (opNext_sound h hsub he hc (hop it (by simp [Op.operands])) type)
  case h_28 t i =>
    have ht := hop t (by simp [Op.operands])
    split at he
    · rename_i vs hv
      rw [hv] at ht
      simp only [repV] at ht
      obtain ⟨cs, e, hcs⟩ := ht
      split at he
      · rename_i v hi
        cases he
        obtain ⟨u, k1, k2⟩ := repVs_get _ _ hcs i v hi
        refine Out.val0 h (sv := Instr.extract (a.eval t) i) rfl rfl ⟨u, ?_, k2⟩
        rw [e]
        have : cs[i]? = some u := by simpa using k1
        simp only [Instr.extract, this]
        rfl
      · cases he
    · cases he
  case h_29 c =>
    split at he
    · rename_i b hb
      have hargs : repVs I s (evs ev c.args.toList) (c.args.map a.eval).toList := by
        have := evs_rep (I := I) (s := s) (ev := ev) (f := a.eval) c.args.toList (fun z hz => hop z (by simp [Op.operands, Call.operands, hb]; simpa using hz))
        simpa using this
      obtain ⟨v, w', q1, q2⟩ := opBuiltin_sound (P := P) (w := w) h hsub he hc hn' hargs type (c.args.map fun | .const _ => true | _ => false)
      refine Out.value (w' := w') (v := v) ?_ q2
      simp only [execOp, resolve, hb, Sem.run_bind, Sem.run_pure, Result.andThen_ok, invoke]
      exact q1
    · rename_i f hf
      have hargs : repVs I s (evs ev c.args.toList) (c.args.toList.map a.eval) :=
        evs_rep (I := I) (s := s) (ev := ev) (f := a.eval) c.args.toList (fun z hz => hop z (by simp [Op.operands, Call.operands, hf]; right; simpa using hz))
      obtain ⟨f', x, y, q1, q2⟩ := opCall_sound hG h hsub he hc hn (hop f (by simp [Op.operands, Call.operands, hf])) hargs
      refine out_answers (c := c) (fun w' hw => ?_) q2
      rw [← hw]
      simp only [execOp, resolve, hf, q1, Deferred.ofValue, Sem.run_bind, Sem.run_pure, Result.andThen_ok, invoke]
      have : (x ++ c.args.map a.eval ++ y) = (x ++ (c.args.toList.map a.eval).toArray ++ y) := by
        apply Array.ext'
        simp
      rw [this]
    · cases he
  case h_30 => cases he

end
end Go.PE
