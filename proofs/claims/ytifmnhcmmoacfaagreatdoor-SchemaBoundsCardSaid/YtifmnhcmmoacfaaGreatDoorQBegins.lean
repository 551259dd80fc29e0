/- primitive.begins: whichever order the map's entries come in, the answer is one. -/
import Derived.Test.YtifmnhcmmoacfaaGreatDoorQP1
import Derived.Test.YtifmnhcmmoacfaaGreatDoorQManual
set_option linter.unusedVariables false
set_option linter.unusedSimpArgs false
set_option linter.unusedSectionVars false
set_option maxRecDepth 100000
namespace Go.Proofs.YtifmnhcmmoacfaaGreatDoorQ
open Go Go.PE

theorem hasPrefix (n : Nat) (s c : Str) : strings_HasPrefix n s c = some (c.isPrefixOf s) := by
  unfold strings_HasPrefix internal_stringslite_HasPrefix
  by_cases h : c.length ≤ s.length
  · have h1 : decide ((s.length : Int) ≥ (c.length : Int)) = true := by simpa using h
    have h2 : cLo (c.length : Int) s.length := ⟨by omega, by omega⟩
    rw [if_pos h1, if_pos h2, Int.toNat_natCast]
    show some (List.take c.length s == c) = some (c.isPrefixOf s)
    congr 1
    rw [Bool.eq_iff_iff, List.isPrefixOf_iff_prefix, List.prefix_iff_eq_take]
    simp only [beq_iff_eq]
    exact ⟨fun q => q.symm, fun q => q.symm⟩
  · have h1 : decide ((s.length : Int) ≥ (c.length : Int)) = false := by simpa using h
    rw [if_neg (by rw [h1]; simp)]
    show some false = some (c.isPrefixOf s)
    congr 1
    cases hp : c.isPrefixOf s with
    | false => rfl
    | true => exact absurd (List.isPrefixOf_iff_prefix.1 hp).length_le h

theorem forms_key : ∀ p ∈ begins_forms, ∀ q ∈ begins_forms, p.1 = q.1 → p = q := by
  intro p hp q hq e
  simp only [begins_forms, List.mem_cons, List.mem_nil_iff, or_false] at hp hq
  rcases hp with rfl | rfl | rfl | rfl | rfl | rfl | rfl | rfl <;> rcases hq with rfl | rfl | rfl | rfl | rfl | rfl | rfl | rfl <;> first
    | rfl
    | (simp at e)

theorem begins_miss {text : Str} (h : ∀ p ∈ begins_forms, p.2.g_code.isPrefixOf text = false) : primitive_begins text = some (0, ⟨[], 0⟩, false) := by
  have : begins_forms.find? (fun p => p.2.g_code.isPrefixOf text) = none := by
    rw [List.find?_eq_none]
    intro p hp
    rw [h p hp]; simp
  simp only [primitive_begins, this]

theorem begins_hit {text : Str} {p : Int × T_primitive_form} (hp : p ∈ begins_forms) (h : p.2.g_code.isPrefixOf text = true) : primitive_begins text = some (p.1, p.2, true) := by
  simp only [begins_forms, List.mem_cons, List.mem_nil_iff, or_false] at hp
  cases text with
  | nil => rcases hp with rfl | rfl | rfl | rfl | rfl | rfl | rfl | rfl <;> simp at h
  | cons x t =>
    rcases hp with rfl | rfl | rfl | rfl | rfl | rfl | rfl | rfl <;> (simp [List.isPrefixOf] at h) <;> first
      | (subst h; simp [primitive_begins, begins_forms, List.find?, List.isPrefixOf])
      | (obtain ⟨rfl, h⟩ := h; have h' := List.isPrefixOf_iff_prefix.2 h; simp [primitive_begins, begins_forms, List.find?, List.isPrefixOf, h'])

variable [PE.Ground]

noncomputable abbrev kA : List Item := [.code (sub B94 [1, 0, 0]), .code (sub B94 [1, 0, 1]), .code (sub B94 [1, 1])]
noncomputable abbrev kL : List Item := [.code (sub B94 [1, 0, 1, 0, 0]), .inLoop (sub B94 [1, 0, 1, 0, 0]), .inBlock 0, .code (sub B94 [1, 1])]
noncomputable abbrev kM : List Item := [.code (sub B94 [1, 0, 1, 0, 0, 1]), .inLoop (sub B94 [1, 0, 1, 0, 0]), .inBlock 0, .code (sub B94 [1, 1])]
noncomputable abbrev kE : List Item := [.code (sub B94 [1, 0, 1, 0, 0, 1, 1, 0, 0]), .code (sub B94 [1, 0, 1, 0, 0, 1, 1, 0, 1]), .inBlock 1, .inLoop (sub B94 [1, 0, 1, 0, 0]), .inBlock 0, .code (sub B94 [1, 1])]
noncomputable abbrev kO : List Item := [.code (sub B94 [1, 0, 1, 0, 0, 1, 1, 0, 1]), .inBlock 1, .inLoop (sub B94 [1, 0, 1, 0, 0]), .inBlock 0, .code (sub B94 [1, 1])]
def stA (text : Str) : St := ⟨[(0, .str text), (3, .ptr 0 0)], [(0, .box [.str [], .int .i64 0])]⟩
def stL (text : Str) (bm c : Nat) (seen : Array Nat) : St := ⟨[(0, .str text), (3, .ptr 0 0), (8, .ptr 1 0)], [(0, .box [.str [], .int .i64 0]), (1, .miter bm c seen c)]⟩
def stOver (text : Str) (bm c : Nat) (seen : Array Nat) : St := ⟨(10, .bool false) :: (9, .tuple [.bool false]) :: (stL text bm c seen).tm, (stL text bm c seen).hp⟩
def stE (text : Str) (bm c : Nat) (seen : Array Nat) : St := ⟨(10, .bool true) :: (9, .tuple [.bool true, .undef, .undef]) :: (stL text bm c seen).tm, (stL text bm c seen).hp⟩
def stR (text : Str) (bm c : Nat) (seen : Array Nat) (p : Int × T_primitive_form) : St := ⟨(11, .tuple [.int .i64 p.1, .agg [.str p.2.g_code, .int .i64 p.2.g_raw]]) :: (stL text bm c seen).tm, (stL text bm c seen).hp⟩
def stO (text : Str) (bm c : Nat) (seen : Array Nat) (p : Int × T_primitive_form) : St :=
  ⟨(5, .int .i64 p.1) :: (6, .ptr 400300 0) :: (13, .agg [.str p.2.g_code, .int .i64 p.2.g_raw]) :: (12, .int .i64 p.1) :: (stR text bm c seen p).tm, (400300, .box [.str p.2.g_code, .int .i64 p.2.g_raw]) :: (400300, .box [.str [], .int .i64 0]) :: (stR text bm c seen p).hp⟩
def rV (r : Int × T_primitive_form × Bool) : V := .tuple [(.int .i64 r.1), (.agg [(.str r.2.1.g_code), (.int .i64 r.2.1.g_raw)]), (.bool r.2.2)]
def won (r : Int × T_primitive_form × Bool) : V → List C → List C → Prop := fun v o n => v = rV r ∧ o = [] ∧ n = []

noncomputable abbrev ops1 : Array Oper := opsAt (sub B94 [1, 0, 0])
noncomputable abbrev ops2 : Array Oper := opsAt (sub B94 [1, 0, 1, 0, 0, 0])
noncomputable abbrev ops3 : Array Oper := opsAt (sub B94 [1, 0, 1, 0, 0, 1, 1, 0, 0])
noncomputable abbrev opN (ops : Array Oper) (i : Nat) : Oper := (ops[i]?).getD default

/-- What is known of the map while it is gone through. -/
structure Known (cx : Cx) (text : Str) (bm c : Nat) (ens : Array MapEntry) (seen : Array Nat) : Prop where
  lt : bm < cx.w0.heap.size
  map : cx.w0.heap[bm]? = some (.map ens c)
  own : ¬ cx.hid bm
  nd : (ens.toList.map (·.born)).Nodup
  born : ∀ e ∈ ens.toList, e.born < c
  rep : repEs cx.I0 (fun _ => none) (.int .i64) (.user 2) begins_forms ens.toList
  no : ∀ e ∈ ens.toList, seen.contains e.born = true → ∀ p ∈ begins_forms, e.key = .int .i64 p.1 → p.2.g_code.isPrefixOf text = false

theorem miter_at {cx : Cx} {I : Facts} {s : Hand} {w : World} {text : Str} {bm c : Nat} {seen : Array Nat} (h : WInv cx I s (get (stL text bm c seen).hp) w) : ∃ b, s 1 = some (.pointer (some ⟨b, 0, none⟩)) ∧ w.heap[b]? = some (.mapIter (some bm) c seen c) := by
  have := h.cont 1 (.miter bm c seen c) rfl
  simpa only [repC] using this

theorem put_at {cx : Cx} {I : Facts} {s : Hand} {w : World} {nt : Nat} {st : St} {a : Act} {d : Nat} {x : V} {v : Value} (h : WInv cx I s (get st.hp) w) (hs : ∀ t, SlotRep I s st.tm a.tmps t) (hn : nt ≤ a.tmps.size) (hd : d < nt) (hdf : a.defers = []) (hx : repV I s x v) :
    At cx I s nt ⟨(d, x) :: st.tm, st.hp⟩ (a.put (some d) v) w := by
  refine ⟨⟨I, s, Facts.le_refl _, Hand.le_refl _, h, fun t => ?_⟩, by rw [put_size]; exact hn, by rw [put_defers]; exact hdf⟩
  unfold SlotRep
  rw [put_get a (d := some d) (by simpa [dstOk, Nat.blt_eq] using hd) hn, getV_cons]
  by_cases e : d = t
  · subst e; simpa using hx
  · rw [if_neg e, if_neg (fun q => e (Option.some.inj q))]; exact hs t

/-- The entry that came out is tried. -/
theorem round (text : Str) (r : Int × T_primitive_form × Bool) (hr : primitive_begins text = some r) {cx : Cx} {bm c : Nat} {ens : Array MapEntry} {seen : Array Nat} (hk : Known cx text bm c ens seen) {e : MapEntry} (he : e ∈ (leftOf ens seen).toList)
    (ih : Known cx text bm c ens (seen.push e.born) → PtC cx A 94 0 kL (stL text bm c (seen.push e.born)) (won r)) : PtC cx A 94 0 kE (stL text bm c (seen.push e.born)) (won r) := by
  intro hm fn hfn I s a w hG hw hs hsz hdf b cs k' hlk hb hbk
  obtain rfl : k' = kE := hlk.resolve_right (by rintro ⟨q, _⟩; have := congrArg List.length q; simp at this)
  have hfn' : fn = Tryz.f94 := Option.some.inj (hfn.symm.trans f94_eq)
  subst hfn'
  have hnt : Tryz.f94.ntmps = 21 := by kernel_rfl
  have hreg : sub B94 [1, 0, 1, 0, 0, 1, 1, 0, 0] = .region 3 ops3 false := by kernel_rfl
  obtain ⟨bi, hbi, hci⟩ := miter_at hw
  have hmap : w.heap[bm]? = some (.map ens c) := (hw.same bm hk.lt hk.own).1.trans hk.map
  have hmem := mem_left he
  obtain ⟨p, hp, hkey, hval⟩ := repEs_mem _ _ hk.rep e hmem.1
  have hval' : repV I s (.agg [.str p.2.g_code, .int .i64 p.2.g_raw]) e.val := repV_mono hw.le (fun _ _ q => by cases q) _ _ hval
  have hrun := run_entry_at (P := A) w bi bm c seen ens c e hci hmap hmem.1 hk.nd
  have h8 : a.eval (.tmp 8) = .pointer (some ⟨bi, 0, none⟩) := by
    have := hs 8
    unfold SlotRep at this
    have e8 : getV (stL text bm c (seen.push e.born)).tm 8 = .ptr 1 0 := rfl
    rw [e8] at this
    simp only [repV] at this
    obtain ⟨b', q1, q2⟩ := this
    rw [hbi] at q1
    cases q1
    exact q2
  have h0 : ops3[0]? = some (opN ops3 0) := by kernel_rfl
  have hop : (opN ops3 0).op = .entry (.tmp 8) := by kernel_rfl
  have hdst : (opN ops3 0).dst = some 11 := by kernel_rfl
  have hgd : (opN ops3 0).guard = none := by kernel_rfl
  have hex : execOp a.eval (opN ops3 0) = (Instr.entry (a.eval (.tmp 8)) >>= fun v => pure (Next.value v)) := by unfold execOp; rw [hop]
  have hrange : List.range ops3.size = 0 :: List.range' 1 (ops3.toList.drop 1).length := by kernel_rfl
  show PE.Ends cx A 94 0 (won r) I s (lone (b.at a (.code (sub B94 [1, 0, 1, 0, 0, 1, 1, 0, 0]) :: kO)) cs w) cs
  rw [hreg]
  refine region_step (S := fun a' w' => At cx I s 21 (stO text bm c (seen.push e.born) p) a' w') hbk ?_ ?_
  · rw [hrange, wpOps_cons]
    refine wpOp_value h0 hgd (by rw [hex, h8]; exact run_value hrun) ?_
    rw [hdst]
    have hat : At cx I s 21 (stR text bm c (seen.push e.born) p) (a.put (some 11) (.tuple #[e.key, e.val])) w :=
      put_at hw hs (by rw [← hnt]; exact hsz) (by omega) hdf (by
        simp only [repV]
        exact ⟨_, rfl, by simp only [repVs]; exact ⟨by simp only [repV]; exact hkey, hval', trivial⟩⟩)
    refine tail_sound (Iin := I) (sin := s) (st' := stO text bm c (seen.push e.born) p) (ps := []) (rid := 3) (d := ⟨[], [], [], [], []⟩) hG (by kernel_rfl) (fun q hq => by simp at hq) (fun j o hj => ?_) (fun a' w' q => q) hat
    have : (ops3.toList.drop 1)[j]? = ops3.toList[1 + j]? := List.getElem?_drop
    rw [this] at hj
    simpa using hj
  · intro a' w' ⟨⟨I1, s1, q1, q2, q3, q4⟩, q5, q6⟩
    cases hpre : p.2.g_code.isPrefixOf text with
    | true =>
      have hr2 := begins_hit hp hpre
      rw [hr] at hr2
      obtain rfl := Option.some.inj hr2
      have hpt : PtC cx A 94 0 kO (stO text bm c (seen.push e.born) p) (won (p.1, p.2, true)) :=
        exec_soundA (PT := fun _ _ => False) (fun _ _ q => q.elim) (.ret [] []) 5 [⟨[], [(3, .call [] [some .str, some .str] (.bool true) [] [])], [], [], []⟩, ⟨[], [], [], [], []⟩]
          (And.intro (strings_HasPrefix_ok 1 text p.2.g_code true (by rw [hasPrefix, hpre])) (show won (p.1, p.2, true) (rV (p.1, p.2, true)) [] [] from ⟨rfl, rfl, rfl⟩)) (by kernel_rfl)
      exact (hpt hm _ hfn I1 s1 a' w' hG q3 q4 (by rw [hnt]; exact q5) q6 b cs kO (.inl rfl) hb hbk).mono q1 fun i hi => by omega
    | false =>
      have hk' : Known cx text bm c ens (seen.push e.born) := by
        refine ⟨hk.lt, hk.map, hk.own, hk.nd, hk.born, hk.rep, fun x hx hsn q hq hkq => ?_⟩
        rw [Array.contains_push, Bool.or_eq_true] at hsn
        by_cases hxe : x.born = e.born
        · have hxx : x = e := by
            have := hk.nd
            rw [List.nodup_iff_pairwise_ne, List.pairwise_map] at this
            by_cases h : x = e
            · exact h
            · exfalso
              obtain ⟨i, hi⟩ := List.getElem?_of_mem hx
              obtain ⟨j, hj⟩ := List.getElem?_of_mem hmem.1
              have hne : i ≠ j := by rintro rfl; rw [hi] at hj; exact h (Option.some.inj hj)
              obtain ⟨li, ei⟩ := List.getElem?_eq_some_iff.1 hi
              obtain ⟨lj, ej⟩ := List.getElem?_eq_some_iff.1 hj
              rcases Nat.lt_or_gt_of_ne hne with q | q
              · exact List.pairwise_iff_getElem.1 this i j li lj q (by rw [ei, ej, hxe])
              · exact List.pairwise_iff_getElem.1 this j i lj li q (by rw [ei, ej, hxe])
          subst hxx
          have hkey' : x.key = .int .i64 p.1 := hkey
          rw [hkey'] at hkq
          have : p.1 = q.1 := by injection hkq
          rw [← forms_key p hp q hq this]
          exact hpre
        · exact hk.no x hx (by
            rcases hsn with h | h
            · exact h
            · exact absurd (by simpa using h) hxe) q hq hkq
      have hpt : PtC cx A 94 0 kO (stO text bm c (seen.push e.born) p) (won r) :=
        exec_soundA (PT := fun k st => k = kL ∧ st = stL text bm c (seen.push e.born)) (fun k st q => by obtain ⟨rfl, rfl⟩ := q; exact ih hk') (.cut [] [0, 3, 8] [0, 1]) 6 [⟨[], [(3, .call [] [some .str, some .str] (.bool false) [] [])], [], [], []⟩]
          (And.intro (strings_HasPrefix_ok 1 text p.2.g_code false (by rw [hasPrefix, hpre])) (And.intro (Eq.refl kL) (Eq.refl (stL text bm c (seen.push e.born))))) (by kernel_rfl)
      exact (hpt hm _ hfn I1 s1 a' w' hG q3 q4 (by rw [hnt]; exact q5) q6 b cs kO (.inl rfl) hb hbk).mono q1 fun i hi => by omega

theorem loopHead (text : Str) (r : Int × T_primitive_form × Bool) (hr : primitive_begins text = some r) {cx : Cx} {bm c : Nat} {ens : Array MapEntry} : ∀ (n : Nat) (seen : Array Nat), (leftOf ens seen).size = n → Known cx text bm c ens seen →
    PtC cx A 94 0 kL (stL text bm c seen) (won r) := by
  intro n
  induction n using Nat.strongRecOn with
  | ind n ih =>
  intro seen hn hk hm fn hfn I s a w hG hw hs hsz hdf b cs k' hlk hb hbk
  obtain rfl : k' = kL := hlk.resolve_right (by rintro ⟨q, _⟩; have := congrArg List.length q; simp at this)
  have hfn' : fn = Tryz.f94 := Option.some.inj (hfn.symm.trans f94_eq)
  subst hfn'
  have hnt : Tryz.f94.ntmps = 21 := by kernel_rfl
  have hseq : sub B94 [1, 0, 1, 0, 0] = .seq (sub B94 [1, 0, 1, 0, 0, 0]) (sub B94 [1, 0, 1, 0, 0, 1]) := by kernel_rfl
  have hreg : sub B94 [1, 0, 1, 0, 0, 0] = .region 2 ops2 false := by kernel_rfl
  obtain ⟨bi, hbi, hci⟩ := miter_at hw
  have hmap : w.heap[bm]? = some (.map ens c) := (hw.same bm hk.lt hk.own).1.trans hk.map
  have h8 : a.eval (.tmp 8) = .pointer (some ⟨bi, 0, none⟩) := by
    have := hs 8
    unfold SlotRep at this
    have e8 : getV (stL text bm c seen).tm 8 = .ptr 1 0 := rfl
    rw [e8] at this
    simp only [repV] at this
    obtain ⟨b', q1, q2⟩ := this
    rw [hbi] at q1
    cases q1
    exact q2
  have h0 : ops2[0]? = some (opN ops2 0) := by kernel_rfl
  have hop : (opN ops2 0).op = .next (.tmp 8) false := by kernel_rfl
  have hdst : (opN ops2 0).dst = some 9 := by kernel_rfl
  have hgd : (opN ops2 0).guard = none := by kernel_rfl
  have hex : execOp a.eval (opN ops2 0) = (Instr.next (a.eval (.tmp 8)) false (opN ops2 0).type >>= fun v => pure (Next.value v)) := by unfold execOp; rw [hop]
  have hrange : List.range ops2.size = 0 :: List.range' 1 (ops2.toList.drop 1).length := by kernel_rfl
  have hdrop : ∀ (j : Nat) (o : Oper), (ops2.toList.drop 1)[j]? = some o → ops2[1 + j]? = some o := fun j o hj => by
    have : (ops2.toList.drop 1)[j]? = ops2.toList[1 + j]? := List.getElem?_drop
    rw [this] at hj
    simpa using hj
  refine PE.Ends.steps (m' := lone (b.at a (.code (sub B94 [1, 0, 1, 0, 0, 0]) :: kM)) cs w) ?_ (by
    show Steps A (lone (b.at a (.code (sub B94 [1, 0, 1, 0, 0]) :: _)) cs w) _
    rw [hseq]; exact .one step_seq)
  rw [hreg]
  refine region_step (S := fun a' w' => (At cx I s 21 (stOver text bm c seen) a' w' ∧ (leftOf ens seen).size = 0) ∨ ∃ e ∈ (leftOf ens seen).toList, At cx I s 21 (stE text bm c (seen.push e.born)) a' w') hbk ?_ ?_
  · rw [hrange, wpOps_cons]
    rcases run_next_at (P := A) w (opN ops2 0).type bi bm c c seen ens c hci hmap hk.born (Nat.le_refl _) with ⟨hz, hrun⟩ | ⟨e, he, w1, hw1, hrun⟩
    · refine wpOp_value h0 hgd (by rw [hex, h8]; exact run_value hrun) ?_
      rw [hdst]
      have hat : At cx I s 21 ⟨(9, .tuple [.bool false]) :: (stL text bm c seen).tm, (stL text bm c seen).hp⟩ (a.put (some 9) (.tuple #[.bool false])) w :=
        put_at hw hs (by rw [← hnt]; exact hsz) (by omega) hdf (by
          simp only [repV]
          exact ⟨_, rfl, by simp only [repVs, repV]; exact ⟨trivial, trivial⟩⟩)
      exact tail_sound (Iin := I) (sin := s) (st' := stOver text bm c seen) (ps := []) (rid := 2) (d := ⟨[], [], [], [], []⟩) hG (by kernel_rfl) (fun q hq => by simp at hq) hdrop (fun a' w' q => .inl ⟨q, hz⟩) hat
    · refine wpOp_value h0 hgd (by rw [hex, h8]; exact run_value hrun) ?_
      rw [hdst]
      have hw2 := hw.stepped (id := 1) (m := bm) (since := c) (last := c) (last' := c) (seen := seen) (seen' := seen.push e.born) rfl hbi hw1
      have hhp : setF (get (stL text bm c seen).hp) 1 (.miter bm c (seen.push e.born) c) = get (stL text bm c (seen.push e.born)).hp := by
        funext i
        simp only [setF, stL, PE.get]
        by_cases h1 : i = 1
        · subst h1; rfl
        · rw [if_neg h1]
          by_cases h00 : i = 0
          · subst h00; rfl
          · rw [natBeq_ne (Ne.symm h00), cond_false, natBeq_ne (Ne.symm h1)]; rfl
      rw [hhp] at hw2
      have hat : At cx I s 21 ⟨(9, .tuple [.bool true, .undef, .undef]) :: (stL text bm c (seen.push e.born)).tm, (stL text bm c (seen.push e.born)).hp⟩ (a.put (some 9) (.tuple #[.bool true, e.key, e.val])) (ChangeMaps.setBlock w1 bi (.mapIter (some bm) c (seen.push e.born) c)) :=
        put_at hw2 hs (by rw [← hnt]; exact hsz) (by omega) hdf (by
          simp only [repV]
          exact ⟨_, rfl, by simp only [repVs, repV]; exact ⟨trivial, trivial, trivial, trivial⟩⟩)
      exact tail_sound (Iin := I) (sin := s) (st' := stE text bm c (seen.push e.born)) (ps := []) (rid := 2) (d := ⟨[], [], [], [], []⟩) hG (by kernel_rfl) (fun q hq => by simp at hq) hdrop (fun a' w' q => .inr ⟨e, he, q⟩) hat
  · rintro a' w' (⟨⟨⟨I1, s1, q1, q2, q3, q4⟩, q5, q6⟩, hz⟩ | ⟨e, he, ⟨⟨I1, s1, q1, q2, q3, q4⟩, q5, q6⟩⟩)
    · have hr2 := begins_miss (text := text) (fun p hp => by
        obtain ⟨x, hx, hkx, _⟩ := repEs_mem' _ _ hk.rep p hp
        exact hk.no x hx (all_seen ens seen hz x hx) p hp hkx)
      rw [hr] at hr2
      obtain rfl := Option.some.inj hr2
      have hpt : PtC cx A 94 0 kM (stOver text bm c seen) (won (0, ⟨[], 0⟩, false)) :=
        exec_soundA (PT := fun _ _ => False) (fun _ _ q => q.elim) (.ret [] []) 5 [⟨[], [], [], [], []⟩]
          (show won (0, ⟨[], 0⟩, false) (rV (0, ⟨[], 0⟩, false)) [] [] from ⟨rfl, rfl, rfl⟩) (by kernel_rfl)
      exact (hpt hm _ hfn I1 s1 a' w' hG q3 q4 (by rw [hnt]; exact q5) q6 b cs kM (.inl rfl) hb hbk).mono q1 fun i hi => by omega
    · have hlt := left_shrinks ens seen e he
      have hrd := round text r hr hk he (fun hk' => ih _ (by omega) (seen.push e.born) rfl hk')
      have hpt : PtC cx A 94 0 kM (stE text bm c (seen.push e.born)) (won r) :=
        exec_soundA (PT := fun k st => k = kE ∧ st = stL text bm c (seen.push e.born)) (fun k st q => by obtain ⟨rfl, rfl⟩ := q; exact hrd) (.cut [] [0, 3, 8] [0, 1]) 5 []
          (And.intro (Eq.refl kE) (Eq.refl (stL text bm c (seen.push e.born)))) (by kernel_rfl)
      exact (hpt hm _ hfn I1 s1 a' w' hG q3 q4 (by rw [hnt]; exact q5) q6 b cs kM (.inl rfl) hb hbk).mono q1 fun i hi => by omega

def stF (text : Str) : St := ⟨(7, .map 200000) :: (stA text).tm, (200000, .tmap (.int .i64) (.user 2) begins_forms) :: (stA text).hp⟩

theorem head (text : Str) (r : Int × T_primitive_form × Bool) (hr : primitive_begins text = some r) {cx : Cx} : PtC cx A 94 0 kA (stA text) (won r) := by
  intro hm fn hfn I s a w hG hw hs hsz hdf b cs k' hlk hb hbk
  obtain rfl : k' = kA := hlk.resolve_right (by rintro ⟨q, _⟩; have := congrArg List.length q; simp at this)
  have hfn' : fn = Tryz.f94 := Option.some.inj (hfn.symm.trans f94_eq)
  subst hfn'
  have hnt : Tryz.f94.ntmps = 21 := by kernel_rfl
  have hreg : sub B94 [1, 0, 0] = .region 1 ops1 false := by kernel_rfl
  have hblk : sub B94 [1, 0, 1] = .block 0 (sub B94 [1, 0, 1, 0]) := by kernel_rfl
  have hloop : sub B94 [1, 0, 1, 0] = .loop (sub B94 [1, 0, 1, 0, 0]) := by kernel_rfl
  have h0 : ops1[0]? = some (opN ops1 0) := by kernel_rfl
  have h1 : ops1[1]? = some (opN ops1 1) := by kernel_rfl
  have hop : (opN ops1 1).op = .range 164 (.tmp 7) := by kernel_rfl
  have hdst : (opN ops1 1).dst = some 8 := by kernel_rfl
  have hgd : (opN ops1 1).guard = none := by kernel_rfl
  have hrange : List.range ops1.size = [0, 1] := by kernel_rfl
  have hund : A.underlying 164 = some (.map 3 124) := by kernel_rfl
  show PE.Ends cx A 94 0 (won r) I s (lone (b.at a (.code (sub B94 [1, 0, 0]) :: [.code (sub B94 [1, 0, 1]), .code (sub B94 [1, 1])])) cs w) cs
  rw [hreg]
  refine region_step (S := fun a' w' => ∃ (bm c : Nat) (ens : Array MapEntry) (I' : Facts) (s' : Hand), I.le I' ∧ WInv cx I' s' (PE.get (stL text bm c #[]).hp) w' ∧ (∀ t, SlotRep I' s' (stL text bm c #[]).tm a'.tmps t) ∧ 21 ≤ a'.tmps.size ∧ a'.defers = [] ∧
      w'.heap[bm]? = some (.map ens c) ∧ ¬ hidOf s' (PE.get (stL text bm c #[]).hp) bm ∧ (ens.toList.map (·.born)).Nodup ∧ (∀ e ∈ ens.toList, e.born < c) ∧ repEs I' (fun _ => none) (.int .i64) (.user 2) begins_forms ens.toList) hbk ?_ ?_
  · rw [hrange, wpOps_cons]
    refine one_sound (Iin := I) (sin := s) (nt := 21) (rid := 1) (d := ⟨[], [(0, .call [] [] (.map 0) [] [.tmap (.int .i64) (.user 2) begins_forms])], [], [], []⟩) (st := stA text) (st' := stF text)
      (ps := [PE.Spec A 131 [] [] (.map 0) [] [.tmap (.int .i64) (.user 2) begins_forms]]) hG (by kernel_rfl) (fun q hq => by
        simp only [List.mem_singleton] at hq
        subst hq
        exact primitive_forms_ok 1 () rfl) h0 ?_ ⟨⟨I, s, Facts.le_refl _, Hand.le_refl _, hw, hs⟩, by rw [← hnt]; exact hsz, hdf⟩
    rintro a1 w1 ⟨⟨I1, s1, e1, e2, e3, e4⟩, e5, e6⟩
    rw [wpOps_cons]
    have hc := e3.cont 200000 (.tmap (.int .i64) (.user 2) begins_forms) rfl
    simp only [repC] at hc
    obtain ⟨bm, ens, c, k1, k2, k3, k4, k5⟩ := hc
    have h7 : a1.eval (.tmp 7) = .map (some bm) := by
      have := e4 7
      unfold SlotRep at this
      have ee : getV (stF text).tm 7 = .map 200000 := rfl
      rw [ee] at this
      simp only [repV] at this
      obtain ⟨b', q1, q2⟩ := this
      rw [k1] at q1
      cases q1
      exact q2
    have hrun : (Instr.range 164 (.map (some bm))).run A w1 = .ok (.pointer (some ⟨w1.heap.size, 0, none⟩)) (w1.alloc (.mapIter (some bm) c #[] c)) := by
      simp only [Instr.range, Sem.run_bind, run_underlying hund, Result.andThen_ok, MapKept.run_getObj_map k2, Sem.run_pure]
      rfl
    have hex : execOp a1.eval (opN ops1 1) = (Instr.range 164 (a1.eval (.tmp 7)) >>= fun v => pure (Next.value v)) := by unfold execOp; rw [hop]
    refine wpOp_value h1 hgd (by rw [hex, h7]; exact run_value hrun) ?_
    rw [hdst]
    have hnone : PE.get (stF text).hp 200100 = none := rfl
    have hlt := lt_of_getElem? k2
    have hcr := e3.create hnone (.pointer (some ⟨w1.heap.size, 0, none⟩)) (.miter bm c #[] c) (but_alloc w1 (.mapIter (some bm) c #[] c)) (Facts.le_refl _) (fun _ _ _ => rfl) (fun o u hu => by rw [e3.fresh_none] at hu; cases hu) (fun b' hb' => by simp [blk] at hb'; exact hb'.symm) (by
      simp only [repC]
      exact ⟨_, by simp, alloc_at _ _⟩)
    let s2 := setF s1 200100 (.pointer (some ⟨w1.heap.size, 0, none⟩))
    have hs2 : s1.le s2 := le_setF (e3.unknown hnone)
    have hren : WInv cx I1 (handOf s2 [0, 200100]) (PE.get (stL text bm c #[]).hp) (w1.alloc (.mapIter (some bm) c #[] c)) := by
      refine hcr.rename (m := numbered 0 [0, 200100]) num_inj (fun i j hij => handOf_num hij) (fun j c' hj => ?_) (fun j v hv => ?_)
      · simp only [stL, PE.get] at hj
        by_cases j0 : 0 = j
        · subst j0
          cases hj
          exact ⟨0, _, rfl, rfl, rfl⟩
        · by_cases j1 : 1 = j
          · subst j1
            cases hj
            exact ⟨200100, .miter bm c #[] c, rfl, setF_same _ _ _, rfl⟩
          · rw [natBeq_ne j0, cond_false, natBeq_ne j1] at hj
            cases hj
      · match j with
        | 0 => rfl
        | 1 => rfl
        | j + 2 => simp [handOf] at hv
    have hbox := e3.cont 0 (.box [.str [], .int .i64 0]) rfl
    simp only [repC] at hbox
    obtain ⟨b0, arr, et, fr, g1, g2, _⟩ := hbox
    show ∃ _ _ _ _ _, _
    refine ⟨bm, c, ens, I1, handOf s2 [0, 200100], e1, hren, fun t => ?_, by rw [put_size]; exact e5, by rw [put_defers]; exact e6, ?_, ?_, k4, k5, repEs_hand _ _ k3⟩
    · unfold SlotRep
      rw [put_get a1 (d := some 8) (nt := 21) (by rfl) e5]
      by_cases t0 : 0 = t
      · subst t0
        have := e4 0
        unfold SlotRep at this
        rw [if_neg (by simp)]
        have ee : getV (stF text).tm 0 = .str text := rfl
        rw [ee] at this
        exact this
      · by_cases t3 : 3 = t
        · subst t3
          have := e4 3
          unfold SlotRep at this
          rw [if_neg (by simp)]
          have ee : getV (stF text).tm 3 = .ptr 0 0 := rfl
          rw [ee] at this
          have ee2 : getV (stL text bm c #[]).tm 3 = .ptr 0 0 := rfl
          rw [ee2]
          simp only [repV] at this ⊢
          obtain ⟨b', q1, q2⟩ := this
          exact ⟨b', by show s2 0 = _; exact hs2 _ _ q1, q2⟩
        · by_cases t8 : 8 = t
          · subst t8
            have ee2 : getV (stL text bm c #[]).tm 8 = .ptr 1 0 := rfl
            rw [ee2, if_pos rfl]
            simp only [repV]
            exact ⟨w1.heap.size, by show s2 200100 = _; simp [s2], rfl⟩
          · have ee : getV (stL text bm c #[]).tm t = .undef := by
              simp only [stL, getV, PE.get]
              rw [natBeq_ne t0, cond_false, natBeq_ne t3, cond_false, natBeq_ne t8]
              rfl
            rw [ee]
            simp only [repV]
    · rw [(but_alloc w1 (.mapIter (some bm) c #[] c)).heap bm (fun q => by have := Option.some.inj q; omega) hlt]
      exact k2
    · rintro ⟨j, d, q1, q2⟩
      simp only [stL, PE.get] at q1
      by_cases j0 : 0 = j
      · subst j0
        cases q1
        have e0 : handOf s2 [0, 200100] 0 = s2 0 := rfl
        simp only [blk, e0, hs2 _ _ g1, Option.some.injEq] at q2
        subst q2
        rw [g2] at k2
        cases k2
      · by_cases j1 : 1 = j
        · subst j1
          cases q1
          have e1' : handOf s2 [0, 200100] 1 = s2 200100 := rfl
          simp only [blk, e1', s2, setF_same, Option.some.injEq] at q2
          omega
        · rw [natBeq_ne j0, cond_false, natBeq_ne j1] at q1
          cases q1
  · rintro a' w' ⟨bm, c, ens, I', s', g1, g2, g3, g4, g5, g6, g7, g8, g9, g10⟩
    refine PE.Ends.steps (m' := lone (b.at a' kL) cs w') ?_ (Steps.trans (.one (by rw [hblk]; exact step_block)) (.one (by rw [hloop]; exact step_loop)))
    have hk : Known ⟨w', I', hidOf s' (PE.get (stL text bm c #[]).hp)⟩ text bm c ens #[] :=
      ⟨lt_of_getElem? g6, g6, g7, g8, g9, g10, fun e _ hsn => by simp at hsn⟩
    have := loopHead text r hr (leftOf ens #[]).size #[] rfl hk hm _ hfn I' s' a' w' (Facts.le_trans hG (Facts.le_trans hw.le g1)) g2.enter g3 (by rw [hnt]; exact g4) g5 b cs kL (.inl rfl) hb hbk
    exact (PE.Ends.rebase g2 this).mono g1 fun i hi => by omega

theorem primitive_begins_ok (a0 : Str) (r : Int × T_primitive_form × Bool) (h : primitive_begins a0 = some r) : PE.Spec A 94 [(.str a0)] [] (.tuple [(.int .i64 r.1), (.agg [(.str r.2.1.g_code), (.int .i64 r.2.1.g_raw)]), (.bool r.2.2)]) [] [] :=
  specOf follows_any f94_eq (by kernel_rfl) (fun cx => exec_soundA (PT := fun k st => k = kA ∧ st = stA a0) (fun k st q => by obtain ⟨rfl, rfl⟩ := q; exact head a0 r h) (.cut [] [0, 3] [100100]) 4 [⟨[], [], [], [], []⟩]
    (And.intro (Eq.refl kA) (Eq.refl (stA a0))) (by kernel_rfl))

end Go.Proofs.YtifmnhcmmoacfaaGreatDoorQ
