/-
  PE, calls: the caller's state behind a call.
-/
import Derived.Test.YtifmnhcmmoacfaaGreatDoorQSpec
set_option linter.unusedVariables false
set_option linter.unusedSectionVars false
set_option linter.unusedSimpArgs false
namespace Go.PE

theorem natBeq_self (a : Nat) : Nat.beq a a = true := by rw [Nat.beq_eq]
theorem natBeq_ne {a b : Nat} (h : a ≠ b) : Nat.beq a b = false := by
  cases hb : Nat.beq a b with
  | false => rfl
  | true => exact absurd (Nat.eq_of_beq_eq_true hb) h

theorem get_numbered : ∀ (l : List Nat) (k i j : Nat), get (numbered k l) i = some j → k ≤ j ∧ l[j - k]? = some i
  | [], k, i, j, h => by simp [numbered, get] at h
  | a :: r, k, i, j, h => by
    simp only [numbered, get] at h
    by_cases ha : a = i
    · subst ha
      rw [natBeq_self, cond_true] at h
      cases h
      simp
    · rw [natBeq_ne ha, cond_false] at h
      obtain ⟨h1, h2⟩ := get_numbered r (k + 1) i j h
      refine ⟨by omega, ?_⟩
      have e : j - k = (j - (k + 1)) + 1 := by omega
      rw [e, List.getElem?_cons_succ]
      exact h2

theorem any_beq {l : List Nat} {a : Nat} : l.any (Nat.beq a) = true ↔ a ∈ l := by
  rw [List.any_eq_true]
  constructor
  · rintro ⟨x, hx, he⟩
    rw [Nat.eq_of_beq_eq_true he]; exact hx
  · exact fun h => ⟨a, h, natBeq_self a⟩

theorem nodup_iff : ∀ (l : List Nat), nodup l = true → l.Nodup
  | [], _ => List.nodup_nil
  | a :: r, h => by
    simp only [nodup, Bool.and_eq_true, Bool.not_eq_true'] at h
    refine List.nodup_cons.2 ⟨fun hm => ?_, nodup_iff r h.2⟩
    rw [any_beq.2 hm] at h
    cases h.1

theorem get_numbered_of : ∀ (l : List Nat) (k i j : Nat), l.Nodup → l[j]? = some i → get (numbered k l) i = some (k + j)
  | [], k, i, j, _, h => by simp at h
  | a :: r, k, i, j, hn, h => by
    obtain ⟨h1, h2⟩ := List.nodup_cons.1 hn
    simp only [numbered, get]
    cases j with
    | zero =>
      simp at h
      subst h
      rw [natBeq_self, cond_true]; rfl
    | succ j =>
      rw [List.getElem?_cons_succ] at h
      have : a ≠ i := fun e => h1 (e ▸ List.mem_of_getElem? h)
      rw [natBeq_ne this, cond_false, get_numbered_of r (k + 1) i j h2 h]
      congr 1; omega

theorem get_back : ∀ (l : List Nat) (k j i : Nat), get (back k l) j = some i → k ≤ j ∧ l[j - k]? = some i
  | [], k, j, i, h => by simp [back, get] at h
  | a :: r, k, j, i, h => by
    simp only [back, get] at h
    by_cases ha : k = j
    · subst ha
      rw [natBeq_self, cond_true] at h
      cases h
      simp
    · rw [natBeq_ne ha, cond_false] at h
      obtain ⟨h1, h2⟩ := get_back r (k + 1) j i h
      refine ⟨by omega, ?_⟩
      have e : j - k = (j - (k + 1)) + 1 := by omega
      rw [e, List.getElem?_cons_succ]
      exact h2

theorem get_back_of : ∀ (l : List Nat) (k j i : Nat), l[j]? = some i → get (back k l) (k + j) = some i
  | [], k, j, i, h => by simp at h
  | a :: r, k, j, i, h => by
    simp only [back, get]
    cases j with
    | zero => simp at h; subst h; rw [Nat.add_zero, natBeq_self, cond_true]
    | succ j =>
      rw [List.getElem?_cons_succ] at h
      rw [natBeq_ne (by omega), cond_false]
      have := get_back_of r (k + 1) j i h
      rwa [show k + 1 + j = k + (j + 1) by omega] at this

theorem fresh_get : ∀ (n nid k j i : Nat), (fresh nid k n)[j]? = some i → i = nid + (k + j) ∧ j < n
  | 0, nid, k, j, i, h => by simp [fresh] at h
  | n + 1, nid, k, j, i, h => by
    simp only [fresh] at h
    cases j with
    | zero => simp at h; exact ⟨by omega, by omega⟩
    | succ j =>
      rw [List.getElem?_cons_succ] at h
      obtain ⟨h1, h2⟩ := fresh_get n nid (k + 1) j i h
      exact ⟨by omega, by omega⟩

theorem fresh_length : ∀ (n nid k : Nat), (fresh nid k n).length = n
  | 0, _, _ => rfl
  | n + 1, nid, k => by simp [fresh, fresh_length n nid (k + 1)]

theorem fresh_nodup : ∀ (n nid k : Nat), (fresh nid k n).Nodup
  | 0, _, _ => List.nodup_nil
  | n + 1, nid, k => by
    simp only [fresh]
    refine List.nodup_cons.2 ⟨fun hm => ?_, fresh_nodup n nid (k + 1)⟩
    obtain ⟨j, hj⟩ := List.getElem?_of_mem hm
    have := (fresh_get n nid (k + 1) j _ hj).1
    omega

section
variable [Univ]
theorem contents_get {hp : Nat → Option C} : ∀ (l : List Nat) (cs : List C), contents hp l = some cs → cs.length = l.length ∧ ∀ (j i : Nat), l[j]? = some i → ∃ c, cs[j]? = some c ∧ hp i = some c
  | [], cs, h => by
    simp only [contents, Option.some.injEq] at h
    subst h
    exact ⟨rfl, fun j i h => by simp at h⟩
  | a :: r, cs, h => by
    simp only [contents] at h
    split at h
    · rename_i c hc
      split at h
      · rename_i q hq
        cases h
        obtain ⟨h1, h2⟩ := contents_get r q hq
        refine ⟨by simp [h1], fun j i hj => ?_⟩
        cases j with
        | zero => simp at hj; subst hj; exact ⟨c, rfl, hc⟩
        | succ j => rw [List.getElem?_cons_succ] at hj ⊢; exact h2 j i hj
      · cases h
    · cases h

theorem renCs_get {m : List (Nat × Nat)} : ∀ (l cs : List C), renCs m l = some cs → cs.length = l.length ∧ ∀ (j : Nat) (c' : C), cs[j]? = some c' → ∃ c, l[j]? = some c ∧ renC m c = some c'
  | [], cs, h => by
    simp only [renCs, Option.some.injEq] at h
    subst h
    exact ⟨rfl, fun j i h => by simp at h⟩
  | a :: r, cs, h => by
    simp only [renCs] at h
    split at h
    · rename_i c hc
      split at h
      · rename_i q hq
        cases h
        obtain ⟨h1, h2⟩ := renCs_get r q hq
        refine ⟨by simp [h1], fun j i hj => ?_⟩
        cases j with
        | zero => simp at hj; subst hj; exact ⟨a, rfl, hc⟩
        | succ j => rw [List.getElem?_cons_succ] at hj ⊢; exact h2 j i hj
      · cases h
    · cases h

theorem addF_zipU {hp : Nat → Option C} : ∀ (ids : List Nat) (cs : List C) (k : Nat), cs.length = ids.length → ∀ i, addF (zipU ids cs) hp i = match get (numbered k ids) i with
    | some j => cs[j - k]?
    | none => hp i
  | [], [], k, _, i => rfl
  | a :: r, c :: q, k, h, i => by
    simp only [zipU, addF, numbered, get]
    by_cases ha : a = i
    · subst ha
      rw [natBeq_self, cond_true, setF_same]
      simp
    · rw [natBeq_ne ha, cond_false, setF_other _ _ (Ne.symm ha), addF_zipU r q (k + 1) (by simpa using h) i]
      cases hg : get (numbered (k + 1) r) i with
      | none => rfl
      | some j =>
        obtain ⟨h1, _⟩ := get_numbered r (k + 1) i j hg
        have e : j - k = (j - (k + 1)) + 1 := by omega
        simp only [e, List.getElem?_cons_succ]
  | [], _ :: _, _, h, _ => by simp at h
  | _ :: _, [], _, h, _ => by simp at h

variable [UnivOk] [Ground] {cx : Cx} {I I' : Facts} {s s0 s' : Hand} {hp hpr hp0 hp' : Nat → Option C} {w w' : World} {P : Program}

theorem argVs_rep (h : WInv cx I s hp w) (hsub : ∀ id c, hpr id = some c → hp id = some c) : ∀ (shs : List (Option Shape)) (vs ys : List V) (xs : List Value), argVs hpr shs vs = some ys → repVs I s vs xs → repVs I s ys xs
  | [], [], ys, xs, h1, hx => by
    simp only [argVs, Option.some.injEq] at h1
    subst h1
    exact hx
  | some t :: q, v :: r, ys, xs, h1, hx => by
    simp only [argVs] at h1
    split at h1
    · rename_i y z hy hz
      cases h1
      cases xs with
      | nil => simp only [repVs] at hx
      | cons u xs =>
        simp only [repVs] at hx ⊢
        refine ⟨?_, argVs_rep h hsub q r z xs hz hx.2⟩
        unfold normV at hy
        cases hw : wholeOf t v with
        | false => rw [hw] at hy; cases hy
        | true =>
          rw [hw, cond_true] at hy
          split at hy
          · rename_i e he
            cases hy
            exact elV_rep (whole_el h hsub hw he hx.1)
          · cases hy
    · cases h1
  | none :: q, v :: r, ys, xs, h1, hx => by
    simp only [argVs] at h1
    split at h1
    · rename_i z hz
      cases h1
      cases xs with
      | nil => simp only [repVs] at hx
      | cons u xs =>
        simp only [repVs] at hx ⊢
        exact ⟨hx.1, argVs_rep h hsub q r z xs hz hx.2⟩
    · cases h1
  | [], _ :: _, _, _, h1, _ => by simp [argVs] at h1
  | _ :: _, [], _, _, h1, _ => by rename_i o _ _; cases o <;> simp [argVs] at h1

/-- The blocks that are handed on. -/
def hidOf (s : Hand) (hp : Nat → Option C) : Nat → Prop := fun b => ∃ i c, hp i = some c ∧ blk s i c = some b

/-- The callee's own surroundings. -/
theorem WInv.enter (h : WInv cx I s hp w) : WInv ⟨w, I, hidOf s hp⟩ I s hp w where
  agree := h.agree
  cont := h.cont
  apart := h.apart
  dom := h.dom
  own i c b h1 h2 := .inr ⟨i, c, h1, h2⟩
  size := Nat.le_refl _
  same _ _ _ := ⟨rfl, fun _ => rfl⟩
  le := Facts.le_refl _
  os := rfl
  tape := rfl
  out := rfl

/-- Behind a call: what the callee left, and what the caller kept for itself. -/
theorem WInv.after (h : WInv cx I s hp w) {keep ids : List Nat} {nid n : Nat} (hids : ids = keep ++ fresh nid 0 n) (hkn : keep.Nodup)
    (hkeep : ∀ i ∈ keep, (hp i).isSome = true) (hfresh : ∀ i ∈ fresh nid 0 n, hp i = none)
    (hs0 : ∀ (j i : Nat), keep[j]? = some i → s0 j = s i) (hp0c : ∀ (j : Nat) (c : C), hp0 j = some c → ∃ i c0, keep[j]? = some i ∧ hp i = some c0 ∧ blk s0 j c = blk s i c0)
    (h' : WInv ⟨w, I, hidOf s0 hp0⟩ I' s' hp' w') (hII : I.le I') (hss : s0.le s') {cs cs' : List C} (hcl : cs'.length = ids.length) (hhp' : ∀ (j : Nat) (c : C), cs[j]? = some c → hp' j = some c)
    (hren : ∀ (j : Nat) (c' : C), cs'[j]? = some c' → ∃ c, cs[j]? = some c ∧ renC (back 0 ids) c = some c') :
    ∃ s'', s.le s'' ∧ (∀ (j i : Nat), ids[j]? = some i → s'' i = s' j) ∧ WInv cx I' s'' (addF (zipU ids cs') hp) w' := by
  have hfn : ∀ i, i ∈ fresh nid 0 n → i ∉ keep := fun i h1 h2 => by have := hfresh i h1; have h3 := hkeep i h2; rw [this] at h3; cases h3
  have hnd : ids.Nodup := by
    rw [hids]
    refine List.nodup_append.2 ⟨hkn, fresh_nodup n nid 0, fun a ha b hb e => ?_⟩
    subst e
    exact hfn a hb ha
  let num := get (numbered 0 ids)
  have hnum : ∀ i j, num i = some j → ids[j]? = some i := fun i j h => by have := (get_numbered ids 0 i j h).2; simpa using this
  have hnum' : ∀ i j, ids[j]? = some i → num i = some j := fun i j h => by have := get_numbered_of ids 0 i j hnd h; simpa using this
  let s'' : Hand := fun i => match num i with
    | some j => s' j
    | none => s i
  have es : ∀ i j, num i = some j → s'' i = s' j := fun i j h => by simp only [s'', h]
  have en : ∀ i, num i = none → s'' i = s i := fun i h => by simp only [s'', h]
  have hle : s.le s'' := by
    intro i u hu
    cases hi : num i with
    | none => rw [en i hi]; exact hu
    | some j =>
      rw [es i j hi]
      have hj := hnum i j hi
      rw [hids] at hj
      by_cases hlt : j < keep.length
      · rw [List.getElem?_append_left hlt] at hj
        exact hss _ _ (by rw [hs0 j i hj]; exact hu)
      · rw [List.getElem?_append_right (by omega)] at hj
        have := h.unknown (hfresh i (List.mem_of_getElem? hj))
        rw [this] at hu; cases hu
  have hpN : ∀ i, addF (zipU ids cs') hp i = match num i with
      | some j => cs'[j]?
      | none => hp i := fun i => by have := addF_zipU (hp := hp) ids cs' 0 hcl i; simpa using this
  have callee : ∀ i j c', num i = some j → cs'[j]? = some c' → ∃ c, hp' j = some c ∧ renC (back 0 ids) c = some c' ∧ get (back 0 ids) j = some i := by
    intro i j c' hi hj
    obtain ⟨c, h1, h2⟩ := hren j c' hj
    refine ⟨c, hhp' j c h1, h2, ?_⟩
    have := get_back_of ids 0 j i (hnum i j hi)
    simpa using this
  have hmb : ∀ j i, get (back 0 ids) j = some i → s'' i = s' j := by
    intro j i hj
    have := (get_back ids 0 j i hj).2
    exact es i j (hnum' i j (by simpa using this))
  have nothid : ∀ i c b, num i = none → hp i = some c → blk s i c = some b → ¬ hidOf s0 hp0 b := by
    rintro i c b hi hc hb ⟨j, c0, h1, h2⟩
    obtain ⟨i', c1, k1, k2, k3⟩ := hp0c j c0 h1
    rw [k3] at h2
    have := h.apart i i' c c1 b hc k2 hb h2
    subst this
    have hlt : j < keep.length := (List.getElem?_eq_some_iff.1 k1).1
    have : num i = some j := hnum' i j (by rw [hids, List.getElem?_append_left hlt]; exact k1)
    rw [hi] at this; cases this
  have hidown : ∀ b, hidOf s0 hp0 b → cx.w0.heap.size ≤ b ∨ cx.hid b := by
    rintro b ⟨j, c0, h1, h2⟩
    obtain ⟨i', c1, k1, k2, k3⟩ := hp0c j c0 h1
    rw [k3] at h2
    exact h.own i' c1 b k2 h2
  have stay : ∀ i c, num i = none → hp i = some c → repC I' s'' w' i c ∧ blk s'' i c = blk s i c := by
    intro i c hi hc
    refine ⟨repC_keep (h.cont i c hc) hII hle fun b hb => ?_, blk_mono (h.cont i c hc) hle⟩
    exact h'.same b (h.blk_lt hc hb) (nothid i c b hi hc hb)
  refine ⟨s'', hle, fun j i hj => es i j (hnum' i j hj), ?_⟩
  constructor
  case agree => exact h'.agree
  case cont =>
    intro i c hc
    rw [hpN] at hc
    cases hi : num i with
    | none =>
      rw [hi] at hc
      exact (stay i c hi hc).1
    | some j =>
      rw [hi] at hc
      obtain ⟨c0, k1, k2, k3⟩ := callee i j c hi hc
      exact renC_rep hmb k2 k3 (h'.cont j c0 k1)
  case apart =>
    intro i i' c d b hc hd hb hb'
    rw [hpN] at hc hd
    have out : ∀ i j c, num i = some j → cs'[j]? = some c → blk s'' i c = some b → w.heap.size ≤ b ∨ hidOf s0 hp0 b := by
      intro i j c hi hc hb
      obtain ⟨c0, k1, k2, k3⟩ := callee i j c hi hc
      rw [renC_blk k2 (hmb j i k3)] at hb
      exact h'.own j c0 b k1 hb
    have inn : ∀ i c, num i = none → hp i = some c → blk s'' i c = some b → b < w.heap.size ∧ ¬ hidOf s0 hp0 b := by
      intro i c hi hc hb
      rw [(stay i c hi hc).2] at hb
      exact ⟨h.blk_lt hc hb, nothid i c b hi hc hb⟩
    cases hi : num i with
    | none =>
      rw [hi] at hc
      obtain ⟨q1, q2⟩ := inn i c hi hc hb
      cases hi' : num i' with
      | none =>
        rw [hi'] at hd
        rw [(stay i c hi hc).2] at hb
        rw [(stay i' d hi' hd).2] at hb'
        exact h.apart i i' c d b hc hd hb hb'
      | some j' =>
        rw [hi'] at hd
        rcases out i' j' d hi' hd hb' with q | q
        · omega
        · exact absurd q q2
    | some j =>
      rw [hi] at hc
      cases hi' : num i' with
      | none =>
        rw [hi'] at hd
        obtain ⟨q1, q2⟩ := inn i' d hi' hd hb'
        rcases out i j c hi hc hb with q | q
        · omega
        · exact absurd q q2
      | some j' =>
        rw [hi'] at hd
        obtain ⟨c0, k1, k2, k3⟩ := callee i j c hi hc
        obtain ⟨d0, l1, l2, l3⟩ := callee i' j' d hi' hd
        rw [renC_blk k2 (hmb j i k3)] at hb
        rw [renC_blk l2 (hmb j' i' l3)] at hb'
        have := h'.apart j j' c0 d0 b k1 l1 hb hb'
        subst this
        rw [k3] at l3
        exact Option.some.inj l3
  case dom =>
    intro i v hv
    rw [hpN]
    cases hi : num i with
    | none => rw [en i hi] at hv; exact h.dom i v hv
    | some j =>
      have := (List.getElem?_eq_some_iff.1 (hnum i j hi)).1
      show (cs'[j]?).isSome = true
      rw [List.getElem?_eq_getElem (by omega)]
      rfl
  case own =>
    intro i c b hc hb
    rw [hpN] at hc
    cases hi : num i with
    | none =>
      rw [hi] at hc
      rw [(stay i c hi hc).2] at hb
      exact h.own i c b hc hb
    | some j =>
      rw [hi] at hc
      obtain ⟨c0, k1, k2, k3⟩ := callee i j c hi hc
      rw [renC_blk k2 (hmb j i k3)] at hb
      rcases h'.own j c0 b k1 hb with q | q
      · exact .inl (Nat.le_trans h.size q)
      · exact hidown b q
  case size => exact Nat.le_trans h.size h'.size
  case same =>
    intro b hb hnb
    have hnh : ¬ hidOf s0 hp0 b := by
      intro q
      rcases hidown b q with q | q
      · omega
      · exact hnb q
    obtain ⟨q1, q2⟩ := h'.same b (Nat.lt_of_lt_of_le hb h.size) hnh
    obtain ⟨r1, r2⟩ := h.same b hb hnb
    exact ⟨by rw [← r1]; exact q1, fun o => by rw [← r2 o]; exact q2 o⟩
  case le => exact Facts.le_trans h.le hII
  case os => rw [← h.os]; exact h'.os
  case tape => rw [← h.tape]; exact h'.tape
  case out => rw [← h.out]; exact h'.out

theorem keys_zipU : ∀ (ids : List Nat) (cs : List C), cs.length = ids.length → keys (zipU ids cs) = ids
  | [], [], _ => rfl
  | a :: r, c :: q, h => by simp only [zipU, keys, List.map_cons]; congr 1; exact keys_zipU r q (by simpa using h)
  | [], _ :: _, h => by simp at h
  | _ :: _, [], h => by simp at h

theorem opCall_sound (hG : Ground.G.le cx.I0) (h : WInv cx I s hp w) (hsub : ∀ id c, hpr id = some c → hp id = some c) {nid : Nat} {dir : Option Dir} {fv : V} {vs : List V} {ef : Eff} (he : opCall (Spec P) hpr nid dir fv vs = some ef) (hc : ∀ q ∈ ef.conds, q)
    (hn : ∀ id ∈ keys ef.upd, nid ≤ id → id < nid + 100 → hp id = none) {f' : Value} (hf : repV I s fv f') {args : List Value} (ha : repVs I s vs args) :
    ∃ f first caps, f' = .func (.func f) first caps ∧ Answers P (callFunc f (first ++ args.toArray ++ caps)) w (Res cx I s hp ef.upd ef.v) := by
  unfold opCall at he
  split at he
  · rename_i f first caps keep shs res outs news
    simp only [repV] at hf
    obtain ⟨x, y, rfl, hx, hy⟩ := hf
    refine ⟨f, x, y, rfl, ?_⟩
    split at he
    · rename_i as0 ins0 has hins
      split at he
      · rename_i as ins hra hri
        simp only at he
        split at he
        · rename_i res' outs' news' hr1 hr2 hr3
          cases hz : (Nat.beq outs.length keep.length && nodup keep && Nat.ble news.length 40) with
          | false => simp [hz] at he
          | true =>
            simp only [hz, cond_true, Option.some.injEq] at he
            subst he
            simp only [Bool.and_eq_true] at hz
            obtain ⟨⟨z1, z2⟩, z3⟩ := hz
            have hol := Nat.eq_of_beq_eq_true z1
            have hkn := nodup_iff _ z2
            have hnl := Nat.le_of_ble_eq_true z3
            obtain ⟨ci1, ci2⟩ := contents_get keep ins0 hins
            obtain ⟨ri1, ri2⟩ := renCs_get ins0 ins hri
            have hspec : Spec P f as ins res outs news := hc _ (by simp)
            let ids := keep ++ fresh nid 0 news.length
            obtain ⟨o1, o2⟩ := renCs_get outs outs' hr2
            obtain ⟨n1, n2⟩ := renCs_get news news' hr3
            have hidl : (outs' ++ news').length = ids.length := by simp only [ids, List.length_append, fresh_length]; omega
            have hkeep : ∀ i ∈ keep, (hp i).isSome = true := by
              intro i hi
              obtain ⟨j, hj⟩ := List.getElem?_of_mem hi
              obtain ⟨c, _, k2⟩ := ci2 j i hj
              rw [hsub i c k2]; rfl
            have hkeys : keys (zipU ids (outs' ++ news')) = ids := keys_zipU _ _ hidl
            have hfresh : ∀ i ∈ fresh nid 0 news.length, hp i = none := by
              intro i hi
              obtain ⟨j, hj⟩ := List.getElem?_of_mem hi
              obtain ⟨k1, k2⟩ := fresh_get _ _ _ _ _ hj
              refine hn i ?_ (by omega) (by omega)
              show i ∈ keys (zipU ids (outs' ++ news'))
              rw [hkeys]
              exact List.mem_append_right _ hi
            let s0 : Hand := fun j => match keep[j]? with
              | some i => s i
              | none => none
            have hs0 : ∀ j i, keep[j]? = some i → s0 j = s i := fun j i hj => by simp only [s0, hj]
            have hm0 : ∀ i j, get (numbered 0 keep) i = some j → s0 j = s i := fun i j hj => by
              have := (get_numbered keep 0 i j hj).2
              exact hs0 j i (by simpa using this)
            have hp0e : ∀ j c', get (entryH 0 ins) j = some c' → ∃ i c, keep[j]? = some i ∧ get (numbered 0 keep) i = some j ∧ hp i = some c ∧ renC (numbered 0 keep) c = some c' := by
              intro j c' hj
              rw [get_entryH0] at hj
              obtain ⟨c, k1, k2⟩ := ri2 j c' hj
              have hlt : j < keep.length := by rw [← ci1]; exact (List.getElem?_eq_some_iff.1 k1).1
              obtain ⟨c1, q1, q2⟩ := ci2 j _ (List.getElem?_eq_getElem hlt)
              rw [k1] at q1
              cases q1
              have hg := get_numbered_of keep 0 _ j hkn (List.getElem?_eq_getElem hlt)
              exact ⟨_, c, List.getElem?_eq_getElem hlt, by simpa using hg, hsub _ _ q2, k2⟩
            have h0 : WInv cx I s0 (get (entryH 0 ins)) w := by
              refine h.rename (m := numbered 0 keep) (fun i i' j h1 h2 => ?_) hm0 (fun j c' hj => ?_) (fun j v hv => ?_)
              · have q1 := (get_numbered keep 0 i j h1).2
                have q2 := (get_numbered keep 0 i' j h2).2
                rw [q1] at q2
                exact Option.some.inj q2
              · obtain ⟨i, c, _, k1, k2, k3⟩ := hp0e j c' hj
                exact ⟨i, c, k1, k2, k3⟩
              · rw [get_entryH0]
                have hlt : j < keep.length := by
                  rcases Nat.lt_or_ge j keep.length with q | q
                  · exact q
                  · simp only [s0, List.getElem?_eq_none q] at hv; cases hv
                rw [List.getElem?_eq_getElem (by omega)]
                rfl
            have hargs : repVs I s0 as (x.toList ++ args ++ y.toList) := by
              have r0 := repVs_append _ _ _ _ (repVs_append _ _ _ _ hx ha) hy
              exact rens_rep hm0 _ _ hra _ (argVs_rep h hsub _ _ _ _ has r0)
            have hans := hspec ⟨w, I, hidOf s0 (get (entryH 0 ins))⟩ I s0 w _ (Facts.le_trans hG h.le) h0.enter hargs
            have harr : (x.toList ++ args ++ y.toList).toArray = x ++ args.toArray ++ y := by
              apply Array.ext'
              simp
            rw [harr] at hans
            refine hans.mono fun v w' hv => ?_
            obtain ⟨I', s', k1, k2, k3, k4⟩ := hv
            obtain ⟨s'', g1, g2, g3⟩ := h.after (s0 := s0) (hp0 := get (entryH 0 ins)) (ids := ids) rfl hkn hkeep hfresh hs0
              (fun j c' hj => by
                obtain ⟨i, c, q0, q1, q2, q3⟩ := hp0e j c' hj
                exact ⟨i, c, q0, q2, renC_blk q3 (hm0 i j q1)⟩)
              k3 k1 k2 (cs := outs ++ news) (cs' := outs' ++ news') hidl (fun j c hj => by rw [get_entryH0]; exact hj)
              (fun j c' hj => by
                by_cases hlt : j < outs'.length
                · rw [List.getElem?_append_left hlt] at hj
                  obtain ⟨c, q1, q2⟩ := o2 j c' hj
                  exact ⟨c, by rw [List.getElem?_append_left (by omega)]; exact q1, q2⟩
                · rw [List.getElem?_append_right (by omega)] at hj
                  obtain ⟨c, q1, q2⟩ := n2 _ c' hj
                  exact ⟨c, by rw [List.getElem?_append_right (by omega), ← o1]; exact q1, q2⟩)
            refine ⟨I', s'', k1, g1, g3, ?_⟩
            refine ren_rep (s1 := s') (fun j i hj => ?_) _ _ hr1 _ k4
            have := (get_back ids 0 j i hj).2
            exact g2 j i (by simpa using this)
        · cases he
      · cases he
    · cases he
  · cases he

end
end Go.PE
