/-
  PE, append and copy: what is read.
-/
import Derived.Test.YtifmnhcmmoacfaaGreatDoorQOpN
import Derived.Laws.Append
set_option linter.unusedVariables false
set_option linter.unusedSectionVars false
set_option linter.unusedSimpArgs false
namespace Go.PE
section
variable [Univ] [UnivOk] {cx : Cx} {I I' : Facts} {s : Hand} {hp hpr : Nat → Option C} {w w' : World} {P : Program}

/-- What append and copy read of a value. -/
def Reads (P : Program) (I : Facts) (w : World) (t : Shape) (ys : List (El t)) (v : Value) : Prop :=
  ∃ cs, repDl I (cellsD t ys) cs ∧ (Builtin.lenOf v).run P w = .ok ys.length w ∧
    ∀ n, n ≤ ys.length → (Builtin.firstCells (size t) n v).run P w = .ok (cs.take (n * size t)).toArray w

theorem reads_slice {t : Shape} {xs : List (El t)} {base : Option Addr} {cap : Nat} {cs : List Value} (hr : repDl I (cellsD t xs) cs) (hb : cs = [] ∨ ∃ b o, base = some ⟨b, o, none⟩ ∧ stands w b o cs) :
    Reads P I w t xs (.slice base xs.length cap) := by
  refine ⟨cs, hr, rfl, fun n hn => ?_⟩
  have hl := repDl_length _ _ hr
  rw [cellsD_length] at hl
  have hle : n * size t ≤ xs.length * size t := Nat.mul_le_mul_right _ hn
  cases base with
  | none =>
    have : cs = [] := by
      rcases hb with hb | ⟨b, o, hb, _⟩
      · exact hb
      · cases hb
    subst this
    simp [Builtin.firstCells]
  | some a =>
    have e : n * size t = (cs.take (n * size t)).length := by rw [List.length_take]; omega
    show (loadCells a (n * size t)).run P w = _
    have := run_loadCells_list (P := P) w a (cs.take (n * size t)) (fun j v hj => by
      rcases hb with hb | ⟨b, o, hb, hs⟩
      · rw [hb] at hj; simp at hj
      · cases hb; rw [add_off]; exact stands_take hs _ j v hj)
    rwa [← e] at this

theorem reads_string (l : List UInt8) : Reads P I w (.int .u8) (bytesOf l) (.string ⟨l.toArray⟩) := by
  have hl : List.length (α := El (.int .u8)) (bytesOf l) = l.length := by show (bytesOf l).length = _; simp [bytesOf]
  refine ⟨_, bytes_rep l, ?_, fun n hn => ?_⟩
  · rw [hl]; simp [Builtin.lenOf, ByteArray.size]
  · simp only [size, Nat.mul_one, Builtin.firstCells, Sem.run_pure]
    congr 1
    apply Array.ext'
    simp [ByteArray.data_extract, Array.toList_extract, List.extract_eq_take_drop, List.map_take]

theorem items_reads (h : WInv cx I s hp w) (hsub : ∀ id c, hpr id = some c → hp id = some c) {t : Shape} {x : V} {ys : List (El t)} (hi : itemsOf hpr t x = some ys) {v : Value} (hv : repV I s x v) : Reads P I w t ys v := by
  unfold itemsOf at hi
  split at hi
  · cases hi
    simp only [repV] at hv
    subst hv
    exact reads_slice (xs := ([] : List (El t))) (cs := []) trivial (.inl rfl)
  · rename_i u xs fl
    obtain ⟨e, rfl⟩ := castL_eq hi
    subst e
    simp only [repV] at hv
    obtain ⟨base, cap, cs, rfl, _, k1, k2⟩ := rep_cells h hv.1
    exact reads_slice k1 k2
  · rename_i id
    split at hi
    · rename_i u xs fz hid
      obtain ⟨e, rfl⟩ := castL_eq hi
      subst e
      simp only [repV] at hv
      obtain ⟨base, cap, cs, rfl, _, k1, k2⟩ := row_cells h (hsub _ _ hid) hv.1
      exact reads_slice k1 k2
    · cases hi
  · rename_i b
    obtain ⟨e, rfl⟩ := castL_eq hi
    subst e
    simp only [repV] at hv
    subst hv
    exact reads_string b
  · cases hi

/-- append, where the room is there: nothing is read of the row, the new cells are written behind it. -/
theorem append_room {t u e : TypeId} {d : TypeDesc} {i : TypeInfo} (ht : P.underlying t = some (.slice e)) (hu : P.underlying u = some d) (hd : ∀ k, d ≠ .int k) (hi : P.info? e = some i)
    {a : Shape} (hsz : i.size = size a) {ys : List (El a)} {v : Value} {cs : List Value} (hl : (Builtin.lenOf v).run P w = .ok ys.length w) (hf : (Builtin.firstCells (size a) ys.length v).run P w = .ok cs.toArray w)
    {base : Option Addr} {n cap : Nat} (hroom : n + ys.length ≤ cap) (ty : TypeId) {w' : World} (hst : ∀ b, base = some b → (storeCells (b.add (n * size a)) cs).run P w = .ok () w') (hno : base = none → w' = w) :
    (Builtin.append_ #[t, u] ty #[.slice base n cap, v]).run P w = .ok (.slice base (n + ys.length) cap) w' := by
  have hz : (d matches .int _) = false := by cases d <;> first | rfl | exact absurd rfl (hd _)
  simp only [Builtin.append_, List.getElem?_toArray, List.getElem?_cons_zero, List.getElem?_cons_succ, Sem.run_bind, run_underlying ht, run_underlying hu, Result.andThen_ok, run_sizeOf' hi, Sem.run_pure, hz, Bool.false_eq_true, if_false, hl, if_pos hroom, hsz, Bool.not_false, if_true, hf]
  cases base with
  | none => simp only [Sem.run_pure, Result.andThen_ok]; rw [hno rfl]
  | some b => simp only [hst b rfl, Sem.run_bind, Result.andThen_ok, Sem.run_pure]

/-- append, where a new row is due. -/
theorem append_grow {t u e : TypeId} {d : TypeDesc} {i : TypeInfo} {z : Value} (ht : P.underlying t = some (.slice e)) (hu : P.underlying u = some d) (hd : ∀ k, d ≠ .int k) (hi : P.info? e = some i) (hz : i.zero = some z)
    {k : Nat} {v : Value} {olds cs : List Value} (hl : (Builtin.lenOf v).run P w = .ok k w) (hf : (Builtin.firstCells i.size k v).run P w.drew = .ok cs.toArray w.drew)
    {base : Option Addr} {n cap : Nat} (hfo : (Builtin.firstCells i.size n (.slice base n cap)).run P w.drew = .ok olds.toArray w.drew) (hg : cap < n + k) (hb : 0 < i.bytes) (hfit : (n + k) * i.bytes ≤ 140737488355328) (ty : TypeId) :
    (Builtin.append_ #[t, u] ty #[.slice base n cap, v]).run P w =
      .ok (.slice (some ⟨w.heap.size, 0, none⟩) (n + k) (grownCap w (n + k) cap e)) (w.drew.alloc (.cells (olds.toArray ++ cs.toArray ++ Builtin.zeroCells z.cells (grownCap w (n + k) cap e - (n + k))) e)) := by
  have hzz : (d matches .int _) = false := by cases d <;> first | rfl | exact absurd rfl (hd _)
  have hn : ¬ (n + k ≤ cap) := by omega
  have hle : n + k ≤ (n + k) * i.bytes := Nat.le_mul_of_pos_right _ hb
  have h63 : ¬ (((n + k : Nat) : Int) > IntKind.i64.max ∧ (False ∨ i.bytes = 0)) := by rintro ⟨_, h | h⟩; exact h; omega
  have h48 : ¬ (Builtin.nextslicecap (n + k) cap * i.bytes > 2 ^ 48) := by have := growslice_fits (old := cap) hg hfit; omega
  have hforced : (Question.appendCap (n + k) cap e).forced = false := rfl
  simp only [Builtin.append_, List.getElem?_toArray, List.getElem?_cons_zero, List.getElem?_cons_succ, Sem.run_bind, run_underlying ht, run_underlying hu, Result.andThen_ok, run_sizeOf' hi, Sem.run_pure, hzz, Bool.false_eq_true, if_false, hl, if_neg hn,
    run_typeInfo' hi, if_neg h63, if_neg h48, run_choose, hforced, World.drew_eq, run_askRoom, hfo, hf, Bool.not_false, if_true, run_zeroValue' hi hz, newRow, run_newObj, World.alloc_eq, grownCap, World.size_drew]

end
end Go.PE
