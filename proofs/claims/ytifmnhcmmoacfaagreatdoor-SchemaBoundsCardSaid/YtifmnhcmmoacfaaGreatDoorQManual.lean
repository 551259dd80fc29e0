/-
  PE, regions walked by hand: what a range over a map wants.
-/
import Derived.Test.YtifmnhcmmoacfaaGreatDoorQBridge
import Derived.Maps.RangeRun
set_option linter.unusedVariables false
set_option linter.unusedSectionVars false
set_option linter.unusedSimpArgs false
namespace Go.PE

def opsAt (c : Code) : Array Oper := match c with
  | .region _ ops _ => ops
  | _ => #[]

section
variable [Univ] [UnivOk] [Ground] {cx : Cx} {I I' : Facts} {s s' : Hand} {hp : Nat → Option C} {w w' : World} {P : Program}

theorem exec_soundA {f nin : Nat} {k : List Item} {st : St} {goal : V → List C → List C → Prop} {PT : List Item → St → Prop} (hPT : ∀ k st, PT k st → PtC cx P f nin k st goal) (fin : Fin) (n : Nat) (ds : List RD) {α : Prop} (a : α)
    (h : α = exec P (Spec P) nin (ntOf P f) (resOf P f) goal PT fin n k st ds) : PtC cx P f nin k st goal := exec_soundC hPT fin n ds (h ▸ a)

/-- A region that leaves its order to the text. -/
theorem region_step {f nin : Nat} {goal : V → List C → List C → Prop} {b : Frame} {cs : List Frame} {rid : Nat} {ops : Array Oper} {k : List Item} {a : Act} {S : Act → World → Prop} (hbk : b.kind = .normal)
    (hw : wpOps P ops (fun e a' w' => match e with | .normal => S a' w' | _ => False) (List.range ops.size) a w)
    (hn : ∀ a' w', S a' w' → Ends cx P f nin goal I s (lone (b.at a' k) cs w') cs) : Ends cx P f nin goal I s (lone (b.at a (.code (.region rid ops false) :: k)) cs w) cs := by
  obtain ⟨e, a', w', q, arr⟩ := wp_region (id := rid) hw b k cs
  cases e with
  | normal => exact (hn a' w' q).steps arr
  | exit id => exact q.elim
  | goto l => exact q.elim
  | ret => exact q.elim
  | panic c => exact q.elim
  | outgrown => exact q.elim

theorem wpOp_value {ops : Array Oper} {Q : Exit → Act → World → Prop} {i : Nat} {o : Oper} {a : Act} {v : Value} {K : Act → World → Prop} (hi : ops[i]? = some o) (hg : o.guard = none) (hr : (execOp a.eval o).run P w = .ok (.value v) w') (hK : K (a.put o.dst v) w') : wpOp P ops Q i K a w := by
  have hw : Region.wanted o (yielded ops a.tmps) = true := by simp [Region.wanted, hg]
  unfold wpOp
  simp only [hi, hw, if_true]
  left
  unfold Oper.wp
  rw [hr]
  exact hK

theorem wpOp_out {ops : Array Oper} {Q : Exit → Act → World → Prop} {i : Nat} {o : Oper} {a : Act} {R : Value → World → Prop} {K : Act → World → Prop} (hi : ops[i]? = some o) (hg : o.guard = none) (hr : Out P o a w R) (hK : ∀ v w', R v w' → K (a.put o.dst v) w') : wpOp P ops Q i K a w := by
  have hw : Region.wanted o (yielded ops a.tmps) = true := by simp [Region.wanted, hg]
  unfold wpOp
  simp only [hi, hw, if_true]
  exact hr K Q trivial hK

/-- What the rest of a region's operations come to, told without feet. -/
def runsTo (P : Program) (nt rid : Nat) (ops : Array Oper) (d : RD) (rest : List Oper) (i : Nat) (st : St) : Option (St × List Prop) :=
  (runOps P (Spec P) nt rid ops.toList d rest i st [] []).map fun x => (x.1, x.2.1)

theorem tail_sound {Iin : Facts} {sin : Hand} (hG : Ground.G.le cx.I0) {nt rid : Nat} {ops : Array Oper} {d : RD} {Q : Exit → Act → World → Prop} {rest : List Oper} {i : Nat} {st st' : St} {ps : List Prop} (hr : runsTo P nt rid ops d rest i st = some (st', ps)) (hps : ∀ p ∈ ps, p)
    (ho : ∀ (j : Nat) (o : Oper), rest[j]? = some o → ops[i + j]? = some o) (hQ : ∀ a w, At cx Iin sin nt st' a w → Q .normal a w) {a : Act} {w : World} (hat : At cx Iin sin nt st a w) : wpOps P ops Q (List.range' i rest.length) a w := by
  unfold runsTo at hr
  cases hrun : runOps P (Spec P) nt rid ops.toList d rest i st [] [] with
  | none => rw [hrun] at hr; cases hr
  | some x =>
    obtain ⟨st1, cs, fs⟩ := x
    rw [hrun] at hr
    simp only [Option.map_some, Option.some.injEq, Prod.mk.injEq] at hr
    obtain ⟨rfl, rfl⟩ := hr
    obtain ⟨rs, h1, h2, _⟩ := runOps_to _ _ _ _ _ _ _ _ hrun
    rw [List.nil_append] at h2
    exact text_sound hG trivial rest i st rs st1 h1 ho (fun r hr p hp => hps p (by rw [h2]; exact List.mem_flatMap.2 ⟨r, hr, hp⟩)) hQ a w hat

theorem one_sound {Iin : Facts} {sin : Hand} (hG : Ground.G.le cx.I0) {nt rid : Nat} {ops : Array Oper} {d : RD} {Q : Exit → Act → World → Prop} {o : Oper} {i : Nat} {st st' : St} {ps : List Prop} (hr : runsTo P nt rid ops d [o] i st = some (st', ps)) (hps : ∀ p ∈ ps, p)
    (ho : ops[i]? = some o) {K : Act → World → Prop} (hK : ∀ a w, At cx Iin sin nt st' a w → K a w) {a : Act} {w : World} (hat : At cx Iin sin nt st a w) : wpOp P ops Q i K a w := by
  unfold runsTo at hr
  cases hrun : runOps P (Spec P) nt rid ops.toList d [o] i st [] [] with
  | none => rw [hrun] at hr; cases hr
  | some x =>
    obtain ⟨st1, cs, fs⟩ := x
    rw [hrun] at hr
    simp only [Option.map_some, Option.some.injEq, Prod.mk.injEq] at hr
    obtain ⟨rfl, rfl⟩ := hr
    obtain ⟨rs, h1, h2, _⟩ := runOps_to _ _ _ _ _ _ _ _ hrun
    rw [List.nil_append] at h2
    cases rs with
    | nil => exact h1.elim
    | cons r rs =>
      obtain ⟨h3, h4⟩ := h1
      cases rs with
      | cons _ _ => exact h4.elim
      | nil =>
        simp only [RunsTo] at h4
        subst h4
        obtain ⟨⟨I, s, e1, e2, e3, e4⟩, a1, a2⟩ := hat
        refine step_sound hG e3 h3 ho (fun p hp => hps p (by rw [h2]; simp [hp])) (fun t _ => e4 t) (fun _ _ => rfl) trivial ?_
        intro v w' I' s' g1 g2 g3 g4
        refine hK _ _ ⟨⟨I', s', Facts.le_trans e1 g1, Hand.le_trans e2 g2, ?_, ?_⟩, by rw [put_size]; exact a1, by rw [put_defers]; exact a2⟩
        · simp only [SR.app]
          rw [get_addAll]; exact g3
        · intro t
          unfold SlotRep
          rw [put_get a h3.feet.2.2.2.2.2 a1]
          simp only [SR.app, getV_setD]
          split
          · exact g4
          · exact repV_mono g1 g2 _ _ (e4 t)

/-- From place to place: the surroundings may be the nearer ones. -/
theorem WInv.rebase {I' : Facts} {s' : Hand} {hp' : Nat → Option C} (h : WInv cx I s hp w) (h' : WInv ⟨w, I, hidOf s hp⟩ I' s' hp' w') : WInv cx I' s' hp' w' where
  agree := h'.agree
  cont := h'.cont
  apart := h'.apart
  dom := h'.dom
  own i c b h1 h2 := by
    rcases h'.own i c b h1 h2 with q | ⟨j, d, q1, q2⟩
    · exact .inl (Nat.le_trans h.size q)
    · exact h.own j d b q1 q2
  size := Nat.le_trans h.size h'.size
  same b hb hn := by
    have nh : ¬ hidOf s hp b := by
      rintro ⟨j, d, q1, q2⟩
      rcases h.own j d b q1 q2 with q | q
      · omega
      · exact hn q
    obtain ⟨r1, r2⟩ := h'.same b (Nat.lt_of_lt_of_le hb h.size) nh
    obtain ⟨t1, t2⟩ := h.same b hb hn
    exact ⟨r1.trans t1, fun o => (r2 o).trans (t2 o)⟩
  le := Facts.le_trans h.le h'.le
  os := h'.os.trans h.os
  tape := h'.tape.trans h.tape
  out := h'.out.trans h.out

theorem Ends.rebase {f nin : Nat} {goal : V → List C → List C → Prop} {m : Machine} {cs : List Frame} (h : WInv cx I s hp w) (he : Ends ⟨w, I, hidOf s hp⟩ P f nin goal I' s' m cs) : Ends cx P f nin goal I' s' m cs := by
  obtain ⟨e, w', fr, h1, h2⟩ := he
  refine ⟨e, w', fr, ?_, h2⟩
  cases e with
  | returned v =>
    obtain ⟨res, outs, news, g, J, t, k1, k2, k3, k4⟩ := h1
    exact ⟨res, outs, news, g, J, t, k1, k2, h.rebase k3, k4⟩
  | panicked c => exact h1
  | outgrown => exact h1

theorem repEs_mem {k v : Shape} : ∀ (es : List (El k × El v)) (ens : List MapEntry), repEs I s k v es ens → ∀ e ∈ ens, ∃ p ∈ es, e.key = keyVal k p.1 ∧ repV I s (elV v p.2) e.val
  | [], [], _, e, he => by simp at he
  | p :: r, x :: q, h, e, he => by
    rcases List.mem_cons.1 he with rfl | he
    · exact ⟨p, by simp, h.1, h.2.1⟩
    · obtain ⟨p', h1, h2⟩ := repEs_mem r q h.2.2 e he
      exact ⟨p', by simp [h1], h2⟩
  | [], _ :: _, h, _, _ => h.elim
  | _ :: _, [], h, _, _ => h.elim

theorem repEs_mem' {k v : Shape} : ∀ (es : List (El k × El v)) (ens : List MapEntry), repEs I s k v es ens → ∀ p ∈ es, ∃ e ∈ ens, e.key = keyVal k p.1 ∧ repV I s (elV v p.2) e.val
  | [], [], _, e, he => by simp at he
  | p :: r, x :: q, h, e, he => by
    rcases List.mem_cons.1 he with rfl | he
    · exact ⟨x, by simp, h.1, h.2.1⟩
    · obtain ⟨p', h1, h2⟩ := repEs_mem' r q h.2.2 e he
      exact ⟨p', by simp [h1], h2⟩
  | [], _ :: _, h, _, _ => h.elim
  | _ :: _, [], h, _, _ => h.elim

/-- The iterator's block behind a step. -/
theorem WInv.stepped (h : WInv cx I s hp w) {id m since last last' : Nat} {seen seen' : Array Nat} (hid : hp id = some (.miter m since seen last)) {b : Nat} (hb : s id = some (.pointer (some ⟨b, 0, none⟩))) {w1 : World} (h1 : w1 = w ∨ w1 = w.drew) :
    WInv cx I s (setF hp id (.miter m since seen' last')) (ChangeMaps.setBlock w1 b (.mapIter (some m) since seen' last')) := by
  have hw1 : WInv cx I s hp w1 := by
    rcases h1 with rfl | rfl
    · exact h
    · exact h.of_heap rfl rfl rfl rfl
  have hc := hw1.cont id _ hid
  simp only [repC] at hc
  obtain ⟨b', k1, k2⟩ := hc
  rw [hb] at k1
  cases k1
  refine hw1.rewrite hid (b := b) (by simp [blk, hb]) (but_setObj w1 b _) (fun b' hb' => by simp [blk, hb] at hb'; exact hb'.symm) (fun o v hI => ?_) ?_
  · have := hw1.agree b o v hI
    simp [World.cell?, k2] at this
  · simp only [repC]
    exact ⟨b, hb, setObj_at _ k2⟩

end
end Go.PE
