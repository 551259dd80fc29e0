/-
  PE, slices of strings and slices.
-/
import Derived.Test.YtifmnhcmmoacfaaGreatDoorQOpK
import Derived.Laws.Slices
set_option linter.unusedVariables false
set_option linter.unusedSectionVars false
set_option linter.unusedSimpArgs false
namespace Go.PE
section
variable [Univ] [UnivOk] {cx : Cx} {I I' : Facts} {s : Hand} {hp hpr : Nat → Option C} {w w' : World} {P : Program}

theorem cellsD_take {t : Shape} (xs : List (El t)) (n : Nat) : cellsD t (xs.take n) = (cellsD t xs).take (n * size t) := by
  by_cases hn : n ≤ xs.length
  · have e : cellsD t xs = cellsD t (xs.take n) ++ cellsD t (xs.drop n) := by rw [← cellsD_append, List.take_append_drop]
    have hl : (cellsD t (xs.take n)).length = n * size t := by rw [cellsD_length, List.length_take, Nat.min_eq_left hn]
    rw [e, ← hl, List.take_left]
  · rw [List.take_of_length_le (by omega), List.take_of_length_le]
    rw [cellsD_length]
    exact Nat.mul_le_mul_right _ (by omega)

theorem cellsD_drop {t : Shape} (xs : List (El t)) (n : Nat) : cellsD t (xs.drop n) = (cellsD t xs).drop (n * size t) := by
  by_cases hn : n ≤ xs.length
  · have e : cellsD t xs = cellsD t (xs.take n) ++ cellsD t (xs.drop n) := by rw [← cellsD_append, List.take_append_drop]
    have hl : (cellsD t (xs.take n)).length = n * size t := by rw [cellsD_length, List.length_take, Nat.min_eq_left hn]
    rw [e, ← hl, List.drop_left]
  · rw [List.drop_of_length_le (by omega), List.drop_of_length_le]
    · rfl
    · rw [cellsD_length]
      exact Nat.mul_le_mul_right _ (by omega)

theorem repDl_take {I : Facts} : ∀ (l : List D) (vs : List Value) (n : Nat), repDl I l vs → repDl I (l.take n) (vs.take n)
  | [], [], n, _ => by simp [repDl]
  | d :: r, v :: q, 0, _ => by simp [repDl]
  | d :: r, v :: q, n + 1, e => ⟨e.1, repDl_take r q n e.2⟩
  | [], _ :: _, _, e => e.elim
  | _ :: _, [], _, e => e.elim

theorem repDl_drop {I : Facts} : ∀ (l : List D) (vs : List Value) (n : Nat), repDl I l vs → repDl I (l.drop n) (vs.drop n)
  | [], [], n, _ => by simp [repDl]
  | d :: r, v :: q, 0, e => by simpa using e
  | d :: r, v :: q, n + 1, e => by simpa using repDl_drop r q n e.2
  | [], _ :: _, _, e => e.elim
  | _ :: _, [], _, e => e.elim

/-- A part of a slice. -/
theorem sub_rep {t : Shape} {xs : List (El t)} {base : Option Addr} {n cap l h m : Nat} (hr : repD I (.list xs.length (cellsD t xs)) (.slice base n cap)) (h1 : l ≤ h) (h2 : h ≤ xs.length) (h3 : h ≤ m) :
    repD I (.list ((xs.take h).drop l).length (cellsD t ((xs.take h).drop l))) (.slice (if m = l then base else base.map (·.add (l * size t))) (h - l) (m - l)) := by
  simp only [repD] at hr ⊢
  obtain ⟨base', cap', e, hc, hx⟩ := hr
  cases e
  have hlen : ((xs.take h).drop l).length = h - l := by simp; omega
  refine ⟨_, _, by rw [hlen], by rw [hlen]; omega, ?_⟩
  by_cases hm : m = l
  · left
    have : (xs.take h).drop l = [] := List.length_eq_zero_iff.1 (by rw [hlen]; omega)
    rw [this]; rfl
  · rcases hx with hx | ⟨b, o, hb, hx⟩
    · left
      rw [cellsD_drop, cellsD_take, hx]; simp
    · right
      subst hb
      refine ⟨b, o + l * size t, by rw [if_neg hm]; simp [add_off], ?_⟩
      obtain ⟨cs, k1, k2⟩ := tells_of_repDs _ _ hx
      rw [cellsD_drop, cellsD_take]
      refine repDs_of_tells _ _ _ (repDl_drop _ _ _ (repDl_take _ _ _ k1)) ?_
      have := tells_part k2 (l * size t) (h * size t - l * size t)
      rwa [← List.drop_take] at this

def repO (I : Facts) (s : Hand) : Option V → Option Value → Prop
  | none, none => True
  | some x, some v => repV I s x v
  | _, _ => False

theorem bound_none {x : Option V} {v : Option Value} (h : bound x = some none) (hv : repO I s x v) : v = none := by
  unfold bound at h
  split at h
  · cases v with
    | none => rfl
    | some _ => exact hv.elim
  · cases h
  · cases h

theorem bound_some {x : Option V} {v : Option Value} {i : Int} (h : bound x = some (some i)) (hv : repO I s x v) : ∃ k, v = some (.int k i) := by
  unfold bound at h
  split at h
  · cases h
  · rename_i k j
    simp only [Option.some.injEq] at h
    subst h
    cases v with
    | none => exact hv.elim
    | some u => simp only [repO, repV] at hv; exact ⟨k, by rw [hv]⟩
  · cases h

theorem sliceAt_slice {t e : TypeId} (ht : P.underlying t = some (.slice e)) (x : Value) (lo hi mx : Option Value) : (Instr.sliceAt t x lo hi mx).run P w = (Instr.slice t x lo hi mx).run P w := by
  simp only [Instr.sliceAt, Sem.run_bind, run_underlying ht, Result.andThen_ok]

theorem sliceAt_string {t : TypeId} (ht : P.underlying t = some .string) (x : Value) (lo hi mx : Option Value) : (Instr.sliceAt t x lo hi mx).run P w = (Instr.slice t x lo hi mx).run P w := by
  simp only [Instr.sliceAt, Sem.run_bind, run_underlying ht, Result.andThen_ok]

theorem slice_of_bounds {t e : TypeId} {i : TypeInfo} (ht : P.underlying t = some (.slice e)) (hi : P.info? e = some i) {a : Option Addr} {len cap l h m : Nat} {lo hi' mx : Option Value}
    (hb : (Instr.sliceBounds true len cap lo hi' mx).run P w = .ok (l, h, m) w) :
    (Instr.sliceAt t (.slice a len cap) lo hi' mx).run P w = .ok (.slice (if m = l then a else a.map (·.add (l * i.size))) (h - l) (m - l)) w := by
  rw [sliceAt_slice ht]
  simp only [Instr.slice, Sem.run_bind, run_underlying ht, Result.andThen_ok, hb, run_sizeOf' hi, Sem.run_pure]

theorem bounds_lo {b : Bool} {len cap : Nat} {k : IntKind} {l : Int} (h : cLo l len) : (Instr.sliceBounds b len cap (some (.int k l)) none none).run P w = .ok (l.toNat, len, cap) w := by
  simp only [Instr.sliceBounds, Sem.run_bind, Sem.run_pure, Result.andThen_ok, run_sliceBound w k l len _ h.1 h.2]

theorem bounds_hi {b : Bool} {len cap : Nat} {k : IntKind} {h : Int} (hh : cLo h len) (hc : len ≤ cap) : (Instr.sliceBounds b len cap none (some (.int k h)) none).run P w = .ok (0, h.toNat, cap) w := by
  have h2 := hh.2
  simp only [Instr.sliceBounds, Sem.run_bind, Sem.run_pure, Result.andThen_ok, run_sliceBound w k h cap _ hh.1 (by omega)]

theorem bounds_lohi {b : Bool} {len cap : Nat} {k k' : IntKind} {l h : Int} (hh : cLH l h len) (hc : len ≤ cap) : (Instr.sliceBounds b len cap (some (.int k l)) (some (.int k' h)) none).run P w = .ok (l.toNat, h.toNat, cap) w := by
  obtain ⟨h1, h2, h3⟩ := hh
  have e : ((h.toNat : Nat) : Int) = h := Int.toNat_of_nonneg (by omega)
  simp only [Instr.sliceBounds, Sem.run_bind, Sem.run_pure, Result.andThen_ok, run_sliceBound w k' h cap _ (by omega) (by omega), run_sliceBound w k l h.toNat _ h1 (by omega)]

theorem bounds_himax {len cap : Nat} {k k' : IntKind} {h m : Int} (hh : cLH h m len) (hc : len ≤ cap) : (Instr.sliceBounds true len cap none (some (.int k h)) (some (.int k' m))).run P w = .ok (0, h.toNat, m.toNat) w := by
  obtain ⟨h1, h2, h3⟩ := hh
  have e : ((m.toNat : Nat) : Int) = m := Int.toNat_of_nonneg (by omega)
  simp only [Instr.sliceBounds, Sem.run_bind, Sem.run_pure, Result.andThen_ok, run_sliceBound w k' m cap _ (by omega) (by omega), run_sliceBound w k h m.toNat _ h1 (by omega)]

theorem slice_str {t : TypeId} (ht : P.underlying t = some .string) {b : List UInt8} {l h m : Nat} {lo hi' : Option Value} (hh : h ≤ b.length)
    (hb : (Instr.sliceBounds false b.length b.length lo hi' none).run P w = .ok (l, h, m) w) :
    (Instr.sliceAt t (.string ⟨b.toArray⟩) lo hi' none).run P w = .ok (.string ⟨((b.take h).drop l).toArray⟩) w := by
  rw [sliceAt_string ht]
  have hs : (ByteArray.mk b.toArray).size = b.length := by simp [ByteArray.size]
  simp only [Instr.slice, Sem.run_bind, run_underlying ht, Result.andThen_ok, Option.isSome_none, Bool.false_eq_true, if_false, Sem.run_pure, hs, hb]
  congr 2
  apply ByteArray.ext
  apply Array.ext'
  simp [ByteArray.data_extract, Array.toList_extract, List.extract_eq_take_drop, List.drop_take]

theorem opSlice_sound (h : WInv cx I s hp w) (hsub : ∀ id c, hpr id = some c → hp id = some c) {nid : Nat} {t : TypeId} {x : V} {lo hi mx : Option V} {e : Eff} (he : opSlice P hpr nid t x lo hi mx = some e) (hc : ∀ q ∈ e.conds, q)
    {v : Value} {lov hiv mxv : Option Value} (hv : repV I s x v) (h1 : repO I s lo lov) (h2 : repO I s hi hiv) (h3 : repO I s mx mxv) :
    ∃ y, (Instr.sliceAt t v lov hiv mxv).run P w = .ok y w ∧ Res cx I s hp e.upd e.v y w := by
  have str : ∀ (b : List UInt8) (r : List UInt8), e = ⟨.str r, [], e.conds⟩ → (Instr.sliceAt t v lov hiv mxv).run P w = .ok (.string ⟨r.toArray⟩) w → ∃ y, (Instr.sliceAt t v lov hiv mxv).run P w = .ok y w ∧ Res cx I s hp e.upd e.v y w := by
    intro b r he hr
    rw [he]
    exact ⟨_, hr, Res.same h (by simp only [repV])⟩
  unfold opSlice at he
  split at he
  · rename_i b hd hb1 hb2 hb3
    simp only [ok1, Option.some.injEq] at he
    subst he
    simp only [repV] at hv
    subst hv
    have e1 := bound_none hb1 h1; have e2 := bound_none hb2 h2; have e3 := bound_none hb3 h3
    subst e1; subst e2; subst e3
    refine str b b rfl ?_
    have := slice_str (P := P) (w := w) (und_some hd (by simp)) (b := b) (l := 0) (h := b.length) (m := b.length) (lo := none) (hi' := none) (Nat.le_refl _) (by simp [Instr.sliceBounds])
    simpa using this
  · rename_i b l hd hb1 hb2 hb3
    simp only [Option.some.injEq] at he
    subst he
    simp only [repV] at hv
    subst hv
    obtain ⟨k, e1⟩ := bound_some hb1 h1
    have e2 := bound_none hb2 h2; have e3 := bound_none hb3 h3
    subst e1; subst e2; subst e3
    have hw : cLo l b.length := hc _ (by simp)
    refine str b _ rfl ?_
    have := slice_str (P := P) (w := w) (und_some hd (by simp)) (Nat.le_refl _) (bounds_lo (k := k) hw)
    simpa using this
  · rename_i b l hd hb1 hb2 hb3
    simp only [Option.some.injEq] at he
    subst he
    simp only [repV] at hv
    subst hv
    obtain ⟨k, e2⟩ := bound_some hb2 h2
    have e1 := bound_none hb1 h1; have e3 := bound_none hb3 h3
    subst e1; subst e2; subst e3
    have hw : cLo l b.length := hc _ (by simp)
    refine str b _ rfl ?_
    have := slice_str (P := P) (w := w) (und_some hd (by simp)) (h := l.toNat) (by have := hw.1; have := hw.2; omega) (bounds_hi (k := k) hw (Nat.le_refl _))
    simpa using this
  · rename_i b l h' hd hb1 hb2 hb3
    simp only [Option.some.injEq] at he
    subst he
    simp only [repV] at hv
    subst hv
    obtain ⟨k, e1⟩ := bound_some hb1 h1
    obtain ⟨k', e2⟩ := bound_some hb2 h2
    have e3 := bound_none hb3 h3
    subst e1; subst e2; subst e3
    have hw : cLH l h' b.length := hc _ (by simp)
    refine str b _ rfl ?_
    exact slice_str (P := P) (w := w) (und_some hd (by simp)) (h := h'.toNat) (by have := hw.1; have := hw.2; omega) (bounds_lohi (k := k) (k' := k') hw (Nat.le_refl _))
  · rename_i e' l h' m hd hb1 hb2 hb3
    have ht := und_some hd (by simp)
    split at he
    · rename_i a ha
      cases hz : tsz P e' (size a) with
      | false => simp [hz] at he
      | true =>
        simp only [hz, cond_true] at he
        obtain ⟨inf, hi, hsz, _⟩ := tsz_info hz
        split at he
        · rename_i xs hxs
          have hrep := listOf_rep h hsub hxs hv
          obtain ⟨base, cap, hv', hcap⟩ : ∃ base cap, v = .slice base xs.length cap ∧ xs.length ≤ cap := by
            have h' := hrep
            simp only [repD] at h'
            obtain ⟨base, cap, q1, q2, _⟩ := h'
            exact ⟨base, cap, q1, q2⟩
          subst hv'
          have fin : ∀ (L H M : Nat) (ys : List (El a)) (fl : Nat) (cs : List Prop), L ≤ H → H ≤ xs.length → H ≤ M → ys = (xs.take H).drop L →
              (Instr.sliceBounds true xs.length cap lov hiv mxv).run P w = .ok (L, H, M) w → (∀ u, flag fl (.slice u (H - L) (M - L))) → e = ⟨.lst a ys fl, [], cs⟩ →
              ∃ y, (Instr.sliceAt t (.slice base xs.length cap) lov hiv mxv).run P w = .ok y w ∧ Res cx I s hp e.upd e.v y w := by
            intro L H M ys fl cs q1 q2 q3 q4 q5 q6 q7
            subst q4; subst q7
            refine ⟨_, slice_of_bounds ht hi q5, Res.same h ?_⟩
            simp only [repV]
            rw [hsz]
            exact ⟨sub_rep hrep q1 q2 q3, q6 _⟩
          have nofl : ∀ u n m, flag 0 (.slice u n m) := fun _ _ _ => by unfold flag; trivial
          split at he
          · rename_i l'
            simp only [Option.some.injEq] at he
            have hw : cLo l' xs.length := hc _ (by rw [← he]; simp)
            obtain ⟨k, e1⟩ := bound_some hb1 h1
            have e2 := bound_none hb2 h2; have e3 := bound_none hb3 h3
            subst e1; subst e2; subst e3
            exact fin l'.toNat xs.length cap _ 0 _ (by have := hw.1; have := hw.2; omega) (Nat.le_refl _) hcap (by rw [List.take_length]) (bounds_lo hw) (fun _ => nofl _ _ _) he.symm
          · rename_i h''
            simp only [Option.some.injEq] at he
            have hw : cLo h'' xs.length := hc _ (by rw [← he]; simp)
            obtain ⟨k, e2⟩ := bound_some hb2 h2
            have e1 := bound_none hb1 h1; have e3 := bound_none hb3 h3
            subst e1; subst e2; subst e3
            exact fin 0 h''.toNat cap _ 0 _ (Nat.zero_le _) (by have := hw.1; have := hw.2; omega) (by have := hw.1; have := hw.2; omega) (by simp) (bounds_hi hw hcap) (fun _ => nofl _ _ _) he.symm
          · rename_i l' h''
            simp only [Option.some.injEq] at he
            have hw : cLH l' h'' xs.length := hc _ (by rw [← he]; simp)
            obtain ⟨k, e1⟩ := bound_some hb1 h1
            obtain ⟨k', e2⟩ := bound_some hb2 h2
            have e3 := bound_none hb3 h3
            subst e1; subst e2; subst e3
            obtain ⟨w1, w2, w3⟩ := hw
            exact fin l'.toNat h''.toNat cap _ 0 _ (by omega) (by omega) (by omega) rfl (bounds_lohi ⟨w1, w2, w3⟩ hcap) (fun _ => nofl _ _ _) he.symm
          · simp only [Option.some.injEq] at he
            have hw : cLH 0 0 xs.length := hc _ (by rw [← he]; simp)
            obtain ⟨k, e2⟩ := bound_some hb2 h2
            obtain ⟨k', e3⟩ := bound_some hb3 h3
            have e1 := bound_none hb1 h1
            subst e1; subst e2; subst e3
            exact fin 0 0 0 _ 1 _ (Nat.le_refl _) (Nat.zero_le _) (Nat.le_refl _) (by simp) (bounds_himax hw hcap) (fun _ => by simp [flag]) he.symm
          · rename_i h'' m' _
            simp only [Option.some.injEq] at he
            have hw : cLH h'' m' xs.length := hc _ (by rw [← he]; simp)
            obtain ⟨k, e2⟩ := bound_some hb2 h2
            obtain ⟨k', e3⟩ := bound_some hb3 h3
            have e1 := bound_none hb1 h1
            subst e1; subst e2; subst e3
            obtain ⟨w1, w2, w3⟩ := hw
            exact fin 0 h''.toNat m'.toNat _ 0 _ (Nat.zero_le _) (by omega) (by omega) (by simp) (bounds_himax ⟨w1, w2, w3⟩ hcap) (fun _ => nofl _ _ _) he.symm
          · cases he
        · cases he
    · cases he
  · rename_i n e' id hd hb1 hb2 hb3
    have ht := und_some hd (by simp)
    have e1 := bound_none hb1 h1; have e2 := bound_none hb2 h2; have e3 := bound_none hb3 h3
    subst e1; subst e2; subst e3
    split at he
    · rename_i a xs hid
      cases hz : tsz P e' (size a) with
      | false => simp [hz] at he
      | true =>
        simp only [hz, cond_true, Option.some.injEq] at he
        subst he
        obtain ⟨inf, hi, hsz, _⟩ := tsz_info hz
        have hn : xs.length = n := hc _ (by simp)
        simp only [repV] at hv
        obtain ⟨b, q1, rfl⟩ := hv
        have hr := h.cont id _ (hsub _ _ hid)
        simp only [repC] at hr
        obtain ⟨b', arr, e'', fr, k1, k2, k3, k4, k5⟩ := hr
        rw [k1] at q1
        cases q1
        have hrun : (Instr.sliceAt t (.pointer (some ⟨b, 0, none⟩)) none none none).run P w = .ok (.slice (some ⟨b, 0, none⟩) n n) w := by
          simp only [Instr.sliceAt, Sem.run_bind, run_underlying ht, Result.andThen_ok, Instr.sureAddr, Sem.run_pure, Instr.sliceBounds, run_sizeOf' hi, Nat.zero_mul, Nat.sub_zero, Addr.add_zero', ite_self]
        refine ⟨_, hrun, ?_⟩
        have hle : I.le (withRow I b arr.toList) := by
          intro b' o v hv
          simp only [withRow]
          rw [if_neg (fun e => by subst e; rw [k4] at hv; cases hv)]
          exact hv
        refine ⟨withRow I b arr.toList, s, hle, Hand.le_refl _, ?_, ?_⟩
        · have hk := h.kill id
          have := hk.adopt (w' := w) (s' := s) (I' := withRow I b arr.toList) id .dead (some b) (fun c0 h0 => by simp at h0; subst h0; rfl) (Hand.le_refl _) (fun i v hv => .inr hv) (fun b' hb' => by simp [blk] at hb')
            ⟨Nat.le_refl _, fun _ _ _ => rfl, rfl, rfl, rfl⟩ hle (fun b' hb o => by simp only [withRow]; rw [if_neg (fun e => hb (by rw [e]))])
            (fun b' o v e hv => by
              cases e
              simp only [withRow, if_true] at hv
              simp only [World.cell?, k2]
              simpa using hv)
            (fun b' e i c0 h0 hb' => by
              cases e
              by_cases hi' : i = id
              · subst hi'; simp at h0; subst h0; simp [blk] at hb'
              · rw [setF_other _ _ hi'] at h0
                exact hi' (h.apart i id c0 _ b h0 (hsub _ _ hid) hb' (by simp [blk, k1])))
            (fun b' e => by cases e; exact h.own id _ b (hsub _ _ hid) (by simp [blk, k1])) trivial
          rwa [setF_setF] at this
        · simp only [repV, repD]
          refine ⟨⟨some ⟨b, 0, none⟩, n, by rw [hn], by omega, .inr ⟨b, 0, rfl, repDs_of_tells _ _ 0 (repDl_mono hle _ _ k5) (fun j v hj => ?_)⟩⟩, by unfold flag; trivial⟩
          simp only [withRow, if_true, Nat.zero_add]
          exact hj
    · cases he
  · cases he

end
end Go.PE
