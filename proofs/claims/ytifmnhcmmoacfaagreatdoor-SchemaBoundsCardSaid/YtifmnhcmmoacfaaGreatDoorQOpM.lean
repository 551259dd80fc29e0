/-
  PE, conversions; rows that are read.
-/
import Derived.Test.YtifmnhcmmoacfaaGreatDoorQOpL
import Derived.Laws.BytesString
import Derived.Lib.ConvBytes
set_option linter.unusedVariables false
set_option linter.unusedSectionVars false
set_option linter.unusedSimpArgs false
namespace Go.PE
section
variable [Univ] [UnivOk] {cx : Cx} {I I' : Facts} {s : Hand} {hp hpr : Nat → Option C} {w w' : World} {P : Program}

/-- The cells behind a slice that is told by pure data. -/
theorem rep_cells (h : WInv cx I s hp w) {t : Shape} {xs : List (El t)} {v : Value} (hr : repD I (.list xs.length (cellsD t xs)) v) :
    ∃ base cap cs, v = .slice base xs.length cap ∧ xs.length ≤ cap ∧ repDl I (cellsD t xs) cs ∧ (cs = [] ∨ ∃ b o, base = some ⟨b, o, none⟩ ∧ stands w b o cs) := by
  simp only [repD] at hr
  obtain ⟨base, cap, rfl, hc, hx⟩ := hr
  rcases hx with hx | ⟨b, o, rfl, hx⟩
  · exact ⟨base, cap, [], rfl, hc, by rw [hx]; trivial, .inl rfl⟩
  · obtain ⟨cs, k1, k2⟩ := tells_of_repDs _ _ hx
    exact ⟨_, cap, cs, rfl, hc, k1, .inr ⟨b, o, rfl, stands_of_tells h k2⟩⟩

/-- The cells of a row of the call's own. -/
theorem row_cells (h : WInv cx I s hp w) {id : Nat} {t : Shape} {xs : List (El t)} {fz : Nat} (hid : hp id = some (.row t xs fz)) {v : Value} (hv : s id = some v) :
    ∃ base cap cs, v = .slice base xs.length cap ∧ xs.length ≤ cap ∧ repDl I (cellsD t xs) cs ∧ (cs = [] ∨ ∃ b o, base = some ⟨b, o, none⟩ ∧ stands w b o cs) := by
  have hr := h.cont id _ hid
  simp only [repC] at hr
  obtain ⟨base, cap, k1, k2, k3⟩ := hr
  rw [k1] at hv
  have hv' := Option.some.inj hv
  subst hv'
  rcases k3 with rfl | ⟨b, rfl, arr, e, fr, q1, q2, q3, q4, _⟩
  · have : xs = [] := List.length_eq_zero_iff.1 (by omega)
    subst this
    exact ⟨base, 0, [], rfl, k2, trivial, .inl rfl⟩
  · exact ⟨_, cap, _, rfl, k2, q4, .inr ⟨b, 0, rfl, stands_take (stands_row q1) _⟩⟩

theorem bytes_cells : ∀ (xs : List Int) (cs : List Value), repDl I (cellsD (.int .u8) xs) cs → cs = xs.map (Value.int .u8)
  | [], [], _ => rfl
  | x :: r, v :: q, h => by
    have h' : repD I (.int .u8 x) v ∧ repDl I (cellsD (.int .u8) r) q := h
    have e := h'.1
    simp only [repD] at e
    rw [e, bytes_cells r q h'.2]
    rfl
  | [], _ :: _, h => h.elim
  | _ :: _, [], h => h.elim

theorem foldl_push : ∀ (xs : List Int) (b : ByteArray), xs.foldl (fun r n => r.push (UInt8.ofNat n.toNat)) b = ⟨(b.data.toList ++ strOf xs).toArray⟩
  | [], b => by simp [strOf]
  | x :: r, b => by
    rw [List.foldl_cons, foldl_push r]
    congr 1
    simp [strOf, rd8, ByteArray.push]

theorem run_bytesStr {base : Option Addr} {cap : Nat} {xs : List Int} {cs : List Value} (hr : repDl I (cellsD (.int .u8) xs) cs) (hb : cs = [] ∨ ∃ b o, base = some ⟨b, o, none⟩ ∧ stands w b o cs) :
    (Conv.bytesToString (.slice base xs.length cap)).run P w = .ok (.string ⟨(strOf xs).toArray⟩) w := by
  have hcs := bytes_cells xs cs hr
  cases base with
  | none =>
    have : xs = [] := by
      rcases hb with hb | ⟨b, o, hb, _⟩
      · rw [hcs] at hb; simpa using hb
      · cases hb
    subst this
    rfl
  | some a =>
    have hl : (loadCells a xs.length).run P w = .ok (xs.map (Value.int .u8)).toArray w := by
      rw [← hcs]
      have hn : xs.length = cs.length := by rw [hcs]; simp
      rw [hn]
      refine run_loadCells_list w a cs fun j v hj => ?_
      rcases hb with hb | ⟨b, o, hb, hs⟩
      · rw [hb] at hj; simp at hj
      · cases hb; rw [add_off]; exact hs j v hj
    rw [run_bytesToString w a _ _ xs hl, foldl_push]
    rfl

theorem grownCap_le (w : World) (n : Nat) (e : TypeId) : n ≤ grownCap w n 0 e := by
  simp only [grownCap, Question.cut]; omega

theorem bytes_rep : ∀ (l : List UInt8), repDl I (cellsD (.int .u8) (bytesOf l)) (l.map fun b => Value.int .u8 b.toNat)
  | [] => trivial
  | b :: r => by
    have : repD I (.int .u8 (wr8 b)) (Value.int .u8 b.toNat) := by simp only [repD, wr8]
    exact ⟨this, bytes_rep r⟩

theorem conv_bytes (h : WInv cx I s hp w) {nid : Nat} (hn : hp nid = none) {dir : Option Dir} {l : List UInt8} {e : TypeId} {ef : Eff} (he : made nid dir (.int .u8) (bytesOf l) 0 [] [] = some ef) :
    Res cx I s hp ef.upd ef.v (.slice (some ⟨w.heap.size, 0, none⟩) l.length (grownCap w l.length 0 e)) (Lib.bytesWorld w e ⟨l.toArray⟩) := by
  have hs : (ByteArray.mk l.toArray).size = l.length := by simp [ByteArray.size]
  have hA : (Lib.bytesCells w e ⟨l.toArray⟩).toList = (l.map fun b => Value.int .u8 b.toNat) ++ List.replicate (grownCap w l.length 0 e - l.length) (.int .u8 0) := by
    simp [Lib.bytesCells, hs]
  have hle := grownCap_le w l.length e
  have hsz : (Lib.bytesCells w e ⟨l.toArray⟩).size = grownCap w l.length 0 e := by
    rw [← Array.length_toList, hA]; simp; omega
  have hl : List.length (α := El (.int .u8)) (bytesOf l) = l.length := by show (bytesOf l).length = _; simp [bytesOf]
  have := made_sound h hn he (w' := Lib.bytesWorld w e ⟨l.toArray⟩) (arr := Lib.bytesCells w e ⟨l.toArray⟩) (cap := grownCap w l.length 0 e)
    ⟨by rw [Lib.bytesWorld_size]; omega, fun b hb hlt => Lib.bytesWorld_at_old w e _ b hlt, rfl, rfl, rfl⟩ (Lib.bytesWorld_at_new w e _) (fun o ho h2 => by simp only at h2; omega)
    (by rw [hsz]; simp [size]) (by rw [hl]; exact hle) (by
      rw [hA, hl]
      simp only [size, Nat.mul_one]
      rw [List.take_left' (by simp)]
      exact bytes_rep l)
  rwa [hl] at this

theorem opConv_sound (h : WInv cx I s hp w) (hsub : ∀ id c, hpr id = some c → hp id = some c) {nid : Nat} {dir : Option Dir} {src dst : TypeId} {x : V} {e : Eff} (he : opConv P hpr nid dir src dst x = some e)
    (hn : ∀ id ∈ keys e.upd, id = nid → hp nid = none) {v : Value} (hv : repV I s x v) : ∃ y w', (convert src dst v).run P w = .ok y w' ∧ Res cx I s hp e.upd e.v y w' := by
  unfold opConv at he
  split at he
  · cases he
  · rename_i k k' n hd h0
    simp only [ok1, Option.some.injEq] at he
    subst he
    simp only [repV] at hv
    subst hv
    have hs := und_some (rfl : und P src = _) h0
    refine ⟨.int k (k.wrap n), w, ?_, Res.same h (by simp only [repV])⟩
    simp only [convert, Sem.run_bind, run_underlying hs, run_underlying (und_some hd (by simp)), Result.andThen_ok]
    rfl
  · rename_i b hd h0
    simp only [ok1, Option.some.injEq] at he
    subst he
    simp only [repV] at hv
    subst hv
    have hs := und_some (rfl : und P src = _) h0
    refine ⟨.string ⟨b.toArray⟩, w, ?_, Res.same h (by simp only [repV])⟩
    simp only [convert, Sem.run_bind, run_underlying hs, run_underlying (und_some hd (by simp)), Result.andThen_ok]
    rfl
  · rename_i e' b hd h0
    split at he
    · rename_i hu
      simp only [repV] at hv
      subst hv
      have hs := und_some (rfl : und P src = _) h0
      have hk : nid ∈ keys e.upd := by
        unfold made at he
        split at he <;> (simp only [Option.some.injEq] at he; subst he; simp [keys])
      have hrun := Lib.run_convert_string_bytes (P := P) w src dst e' ⟨b.toArray⟩ hs (und_some hd (by simp)) (und_some hu (by simp))
      have hsz : (ByteArray.mk b.toArray).size = b.length := by simp [ByteArray.size]
      rw [hsz] at hrun
      exact ⟨_, _, hrun, conv_bytes h (hn nid hk rfl) he⟩
    · cases he
  · rename_i e' hs0 hd0 _
    have hs := und_some hs0 (by simp)
    split at he
    · rename_i hu
      have fin : ∀ xs : List Int, e = ⟨.str (strOf xs), [], []⟩ → (∃ base cap cs, v = .slice base xs.length cap ∧ xs.length ≤ cap ∧ repDl I (cellsD (.int .u8) xs) cs ∧ (cs = [] ∨ ∃ b o, base = some ⟨b, o, none⟩ ∧ stands w b o cs)) →
          ∃ y w', (convert src dst v).run P w = .ok y w' ∧ Res cx I s hp e.upd e.v y w' := by
        rintro xs rfl ⟨base, cap, cs, rfl, _, k1, k2⟩
        refine ⟨_, w, ?_, Res.same h (x := .str (strOf xs)) (by simp only [repV]; rfl)⟩
        rw [run_convert_bytes_string w src dst e' base _ cap hs (und_some hu (by simp)) (und_some hd0 (by simp))]
        exact run_bytesStr k1 k2
      split at he
      · rename_i xs hxs
        simp only [ok1, Option.some.injEq] at he
        exact fin xs he.symm (rep_cells h (listOf_rep h hsub hxs hv))
      · split at he
        · rename_i id
          split at he
          · rename_i xs fz hid
            simp only [ok1, Option.some.injEq] at he
            simp only [repV] at hv
            exact fin xs he.symm (row_cells h (hsub _ _ hid) hv.1)
          · cases he
        · cases he
    · cases he
  · cases he

end
end Go.PE
