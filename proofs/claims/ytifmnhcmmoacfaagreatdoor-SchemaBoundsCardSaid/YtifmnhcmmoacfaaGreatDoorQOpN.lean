/-
  PE, made slices: zero cells.
-/
import Derived.Test.YtifmnhcmmoacfaaGreatDoorQOpM
set_option linter.unusedVariables false
set_option linter.unusedSectionVars false
set_option linter.unusedSimpArgs false
namespace Go.PE

theorem cycle_eq (z : List Value) (hz : z.length ≠ 0) (d : Value) : ∀ c : Nat, ((List.range (c * z.length)).map fun i => z.getD (i % z.length) d) = (List.replicate c z).flatten
  | 0 => by simp
  | c + 1 => by
    have ih := cycle_eq z hz d c
    rw [Nat.add_mul, Nat.one_mul, List.range_add, List.map_append, ih, List.replicate_succ', List.flatten_append, List.flatten_singleton, List.map_map]
    congr 1
    apply List.ext_getElem?
    intro i
    by_cases hi : i < z.length
    · simp [hi, Nat.mul_add_mod_self_right, Nat.mod_eq_of_lt hi, List.getD]
    · simp [hi]

section
variable [Univ] [UnivOk] {cx : Cx} {I I' : Facts} {s : Hand} {hp hpr : Nat → Option C} {w w' : World} {P : Program}

theorem replicate_rep {t : Shape} {x : El t} {z : List Value} (h : repDl I (toD t x) z) : ∀ c : Nat, repDl I (cellsD t (List.replicate c x)) (List.replicate c z).flatten
  | 0 => trivial
  | c + 1 => by
    have : cellsD t (List.replicate (c + 1) x) = toD t x ++ cellsD t (List.replicate c x) := by simp [cellsD, List.replicate_succ]
    rw [this, List.replicate_succ, List.flatten_cons]
    exact repDl_append _ _ _ _ h (replicate_rep h c)

theorem isZs_rep : ∀ (ss : List Shape) (cs : List Value), isZs ss cs = true → repDl I (zeroD ss) cs
  | [], [], _ => trivial
  | t :: r, v :: q, h => by
    simp only [isZs, Bool.and_eq_true] at h
    have : zeroD (t :: r) = toD t (dflt t) ++ zeroD r := by simp [zeroD]
    rw [this]
    exact repDl_append _ _ [v] q (isZ_rep h.1) (isZs_rep r q h.2)
  | [], _ :: _, h => by simp [isZs] at h
  | _ :: _, [], h => by simp [isZs] at h

theorem zero_user (n : Nat) : toD (.user n) (dflt (.user n)) = zeroD (Univ.fields n) := UnivOk.zero n

theorem zeroOk_rep {e : TypeId} {t : Shape} (h : zeroOk P e t = true) : ∃ i z, P.info? e = some i ∧ i.zero = some z ∧ i.size = size t ∧ repDl I (toD t (dflt t)) z.cells.toList ∧ isEl I t (dflt t) z := by
  unfold zeroOk at h
  split at h
  · rename_i i hi
    split at h
    · rename_i z hz
      simp only [Bool.and_eq_true] at h
      obtain ⟨⟨h1, h2⟩, h3⟩ := h
      have hr : repDl I (toD t (dflt t)) z.cells.toList := by
        have := isZs_rep (I := I) _ _ h1
        cases t with
        | user n => rw [zero_user]; exact this
        | int k => simpa [shapesOf, zeroD] using this
        | bool => simpa [shapesOf, zeroD] using this
        | str => simpa [shapesOf, zeroD] using this
        | list u => simpa [shapesOf, zeroD] using this
      refine ⟨i, z, hi, hz, Nat.eq_of_beq_eq_true h2, hr, ?_⟩
      unfold isEl
      cases hu : isUser t with
      | true =>
        rw [hu] at h3
        cases z <;> simp only at h3 <;> first
          | exact ⟨_, rfl, hr⟩
          | cases h3
      | false =>
        rw [hu] at h3
        cases z <;> simp only at h3 <;> first
          | exact hr
          | cases h3
    · cases h
  · cases h

theorem wrap_small {n : Int} (h0 : 0 ≤ n) (h1 : n ≤ 140737488355328) : IntKind.i64.wrap n = n := by
  have hm : n % (2 ^ IntKind.i64.bits : Int) = n := Int.emod_eq_of_lt h0 (by simp [IntKind.bits]; omega)
  simp only [IntKind.wrap, hm]
  rw [if_neg]
  simp [IntKind.bits]
  intro _
  omega

theorem getD_bang (z : Array Value) (i : Nat) : z[i]! = z.toList.getD i default := by
  simp only [List.getD, getElem!_def, Array.getElem?_toList]
  cases z[i]? <;> rfl

theorem run_zeros {e : TypeId} {i : TypeInfo} {z : Value} (hi : P.info? e = some i) (hz : i.zero = some z) (hs : z.cells.toList.length = i.size) (c : Nat) :
    ∃ zs : Array Value, ((if c * i.size = 0 then pure #[] else do pure (← zeroValue e).cells : Sem (Array Value)).run P w) = .ok zs w ∧
      ((Array.range (c * i.size)).map (zs[· % zs.size]!)).toList = (List.replicate c z.cells.toList).flatten := by
  by_cases h0 : c * i.size = 0
  · refine ⟨#[], by simp [h0], ?_⟩
    rw [h0]
    rcases Nat.mul_eq_zero.1 h0 with h1 | h1
    · subst h1; simp
    · have : z.cells.toList = [] := List.length_eq_zero_iff.1 (by omega)
      rw [this]; simp
  · refine ⟨z.cells, by simp [h0, run_zeroValue' hi hz], ?_⟩
    have hz0 : z.cells.toList.length ≠ 0 := by intro h; rw [h] at hs; rw [← hs] at h0; simp at h0
    rw [← hs, ← cycle_eq z.cells.toList hz0 default c]
    simp [getD_bang]

theorem opMakeSlice_sound (h : WInv cx I s hp w) {nid : Nat} {dir : Option Dir} {t : TypeId} {l c : V} {e : Eff} (he : opMakeSlice P nid dir t l c = some e) (hc : ∀ q ∈ e.conds, q)
    (hn : ∀ id ∈ keys e.upd, id = nid → hp nid = none) {vl vc : Value} (hl : repV I s l vl) (hv : repV I s c vc) : ∃ y w', (Instr.makeSlice t vl vc).run P w = .ok y w' ∧ Res cx I s hp e.upd e.v y w' := by
  unfold opMakeSlice at he
  split at he
  · rename_i e' n k hd
    have ht := und_some hd (by simp)
    split at he
    · rename_i a ha
      cases hz : (tsz P e' (size a) && zeroOk P e' a) with
      | false => simp [hz] at he
      | true =>
        simp only [hz, cond_true] at he
        simp only [Bool.and_eq_true] at hz
        obtain ⟨i, z, hi, hzz, hsz, hr, _⟩ := zeroOk_rep (I := I) hz.2
        have hk : nid ∈ keys e.upd ∧ e.conds = [cMk n k (tbytes P e')] := by
          unfold made at he
          split at he <;> (simp only [Option.some.injEq] at he; subst he; simp [keys])
        have hb : tbytes P e' = i.bytes := by simp [tbytes, Program.bytesOf, hi]
        obtain ⟨q1, q2, q3, q4⟩ : cMk n k (tbytes P e') := hc _ (by rw [hk.2]; simp)
        rw [hb] at q3
        simp only [repV] at hl hv
        subst hl; subst hv
        have w1 := wrap_small q1 (by omega)
        have w2 := wrap_small (n := k) (by omega) q4
        obtain ⟨zs, g1, g2⟩ := run_zeros (P := P) (w := w) hi hzz (by have := repDl_length _ _ hr; rw [toD_length] at this; omega) k.toNat
        have hbig : ¬ ((i.bytes : Int) * k > 2 ^ 48) := by rw [Int.mul_comm]; omega
        have hrun : (Instr.makeSlice t (.int .i64 n) (.int .i64 k)).run P w =
            .ok (.slice (some ⟨w.heap.size, 0, none⟩) n.toNat k.toNat) (w.alloc (.cells ((Array.range (k.toNat * i.size)).map (zs[· % zs.size]!)) e')) := by
          have h1 : ¬ k < 0 := by omega
          have h2 : ¬ n < 0 := by omega
          have h3 : ¬ n > k := by omega
          simp only [Instr.makeSlice, Sem.run_bind, run_underlying ht, Result.andThen_ok, asInt, asIntOf, Sem.run_pure, run_typeInfo' hi, w1, w2, h1, h2, h3, hbig, decide_false, Bool.or_self, Bool.false_eq_true, if_false, run_askRoom, run_sizeOf' hi]
          by_cases h0 : k.toNat * i.size = 0
          · simp only [h0, if_true, Sem.run_pure] at g1 ⊢
            cases g1
            rfl
          · simp only [h0, if_false, Sem.run_bind, run_zeroValue' hi hzz, Result.andThen_ok, Sem.run_pure] at g1 ⊢
            cases g1
            rfl
        have hA : ((Array.range (k.toNat * i.size)).map (zs[· % zs.size]!)).size = k.toNat * size a := by simp [hsz]
        have hlen : List.length (List.replicate n.toNat (dflt a)) = n.toNat := by simp
        refine ⟨_, _, hrun, ?_⟩
        have := made_sound h (hn nid hk.1 rfl) he (but_alloc w (.cells ((Array.range (k.toNat * i.size)).map (zs[· % zs.size]!)) e')) (alloc_at _ _) (thaw_zero _) hA (by rw [hlen]; omega) (by
          rw [g2, hlen]
          have h5 : k.toNat = n.toNat + (k.toNat - n.toNat) := by omega
          rw [h5, ← List.replicate_append_replicate, List.flatten_append, List.take_left']
          · exact replicate_rep hr _
          · have h6 := repDl_length _ _ (replicate_rep (I := I) hr n.toNat)
            rw [cellsD_length] at h6
            simpa using h6.symm)
        rwa [hlen] at this
    · cases he
  · cases he

end
end Go.PE
