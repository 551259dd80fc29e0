/-
  PE, maps.
-/
import Derived.Test.YtifmnhcmmoacfaaGreatDoorQOpR
import Derived.MapKept
import Derived.Laws.Small
set_option linter.unusedVariables false
set_option linter.unusedSectionVars false
set_option linter.unusedSimpArgs false
namespace Go.PE
section
variable [Univ] [UnivOk] {cx : Cx} {I I' : Facts} {s : Hand} {hp hpr : Nat → Option C} {w w' : World} {P : Program}

theorem same_int (j : IntKind) (x y : Int) : Instr.sameNow (.int j) (.int j x) (.int j y) = some (x == y) := by simp [Instr.sameNow]
theorem same_bool (x y : Bool) : Instr.sameNow .bool (.bool x) (.bool y) = some (x == y) := by simp [Instr.sameNow]
theorem same_str (x y : List UInt8) : Instr.sameNow .string (.string ⟨x.toArray⟩) (.string ⟨y.toArray⟩) = some (x == y) := by
  have : ((⟨x.toArray⟩ : ByteArray) == ⟨y.toArray⟩) = (x == y) := by
    show (x.toArray == y.toArray) = _
    simp
  simp only [Instr.sameNow, this]
theorem beq_int (x y : Int) (h : (x == y) = true) : x = y := by simpa using h
theorem beq_bool (x y : Bool) (h : (x == y) = true) : x = y := by simpa using h
theorem beq_str (x y : List UInt8) (h : (x == y) = true) : x = y := by simpa using h

theorem keyTy_und {t : TypeId} {k : Shape} (h : keyTy P t k = true) : ∃ d, P.underlying t = some d ∧ (∀ x : El k, MapKept.IsKey d (keyVal k x)) ∧ (∀ x y : El k, Instr.sameNow d (keyVal k x) (keyVal k y) = some (elEq k x y)) ∧
    (∀ x y : El k, elEq k x y = true → x = y) := by
  cases k <;> simp only [keyTy] at h <;> try (cases h; done)
  · rename_i j
    split at h
    · rename_i j' hd
      have := kindEq_eq h
      subst this
      exact ⟨_, und_some hd (by simp), fun x => rfl, same_int _, beq_int⟩
    · cases h
  · split at h
    · rename_i hd
      exact ⟨_, und_some hd (by simp), fun x => trivial, same_bool, beq_bool⟩
    · cases h
  · split at h
    · rename_i hd
      exact ⟨_, und_some hd (by simp), fun x => trivial, same_str, beq_str⟩
    · cases h

/-- Where a key stands in a map's entries. -/
theorem find_rep {k v : Shape} {d : TypeDesc} (hd : ∀ x y : El k, Instr.sameNow d (keyVal k x) (keyVal k y) = some (elEq k x y)) (kk : El k) : ∀ (es : List (El k × El v)) (ens : List MapEntry) (i : Nat), repEs I s k v es ens →
    (alk (elEq k kk) es = none ∧ Instr.findNow d (keyVal k kk) ens i = some none ∧ ∀ y, ast (elEq k kk) kk y es = es ++ [(kk, y)]) ∨
    (∃ j x e, alk (elEq k kk) es = some x ∧ Instr.findNow d (keyVal k kk) ens i = some (some (i + j, e.val)) ∧ ens[j]? = some e ∧ repV I s (elV v x) e.val ∧ (∃ z, elEq k kk z = true ∧ e.key = keyVal k z) ∧
      ∀ y u, repV I s (elV v y) u → repEs I s k v (ast (elEq k kk) kk y es) (ens.modify j fun e => { e with val := u }))
  | [], [], i, _ => .inl ⟨rfl, rfl, fun _ => rfl⟩
  | p :: r, e :: q, i, h => by
    obtain ⟨h1, h2, h3⟩ := h
    obtain ⟨a, b⟩ := p
    cases hk : elEq k kk a with
    | true =>
      refine .inr ⟨0, b, e, by simp [alk, hk], ?_, rfl, h2, ⟨a, hk, h1⟩, fun y u hu => ?_⟩
      · simp only [Instr.findNow, h1, hd, hk]; rfl
      · simp only [ast, hk, cond_true, List.modify_zero_cons]
        exact ⟨h1, hu, h3⟩
    | false =>
      have hf : Instr.findNow d (keyVal k kk) (e :: q) i = Instr.findNow d (keyVal k kk) q (i + 1) := by simp only [Instr.findNow, h1, hd, hk]
      rcases find_rep hd kk r q (i + 1) h3 with ⟨g1, g2, g3⟩ | ⟨j, x, e', g1, g2, g3, g4, g5, g6⟩
      · exact .inl ⟨by simp only [alk, hk, cond_false]; exact g1, by rw [hf, g2], fun y => by simp only [ast, hk, cond_false, g3, List.cons_append]⟩
      · refine .inr ⟨j + 1, x, e', by simp only [alk, hk, cond_false]; exact g1, by rw [hf, g2]; congr 3; omega, by simpa using g3, g4, g5, fun y u hu => ?_⟩
        simp only [ast, hk, cond_false, List.modify_succ_cons]
        exact ⟨h1, h2, g6 y u hu⟩
  | [], _ :: _, _, h => h.elim
  | _ :: _, [], _, h => h.elim

theorem repEs_length {k v : Shape} : ∀ (es : List (El k × El v)) (ens : List MapEntry), repEs I s k v es ens → es.length = ens.length
  | [], [], _ => rfl
  | _ :: r, _ :: q, h => by simp [repEs_length r q h.2.2]
  | [], _ :: _, h => h.elim
  | _ :: _, [], h => h.elim

theorem inLeaf_key (h : WInv cx I s hp w) (hsub : ∀ id c, hpr id = some c → hp id = some c) {k : Shape} {kt : TypeId} (hk : keyTy P kt k = true) {x : V} {kk : El k} (hl : inLeaf hpr k x = some kk) {vx : Value} (hx : repV I s x vx) : vx = keyVal k kk := by
  have := inLeaf_rep h hsub hl hx
  cases k <;> simp only [keyTy] at hk <;> try (cases hk; done)
  all_goals
    obtain ⟨d, e, hd⟩ := this
    simp only [toD, List.cons.injEq, and_true] at e
    subst e
    simp only [repD] at hd
    exact hd

theorem repDl_of_one {t : Shape} {x : El t} {v : Value} {d : D} (h : toD t x = [d]) (hv : repD I d v) : repDl I (toD t x) [v] := by rw [h]; exact ⟨hv, trivial⟩

theorem opLookup_sound (h : WInv cx I s hp w) (hsub : ∀ id c, hpr id = some c → hp id = some c) {t : TypeId} {m k : V} {ok : Bool} {ef : Eff} (he : opLookup P hpr t m k ok = some ef) {vm vk : Value} (hm : repV I s m vm) (hk : repV I s k vk) :
    ef.upd = [] ∧ ∃ y, (Instr.lookup t vm vk ok).run P w = .ok y w ∧ repV I s ef.v y := by
  unfold opLookup at he
  split at he
  · rename_i kt et id hd
    have ht := und_some hd (by simp)
    split at he
    · rename_i ks vs es hid
      cases hz : (keyTy P kt ks && zeroOk P et vs) with
      | false => simp [hz] at he
      | true =>
        simp only [hz, cond_true] at he
        simp only [Bool.and_eq_true] at hz
        obtain ⟨d, hu, hik, hsame, hkeq⟩ := keyTy_und hz.1
        obtain ⟨i, z, hi, hzz, hsz, hr, hel⟩ := zeroOk_rep (I := I) hz.2
        split at he
        · rename_i kk hkk
          have hkv := inLeaf_key h hsub hz.1 hkk hk
          subst hkv
          simp only [repV] at hm
          obtain ⟨b, hb, rfl⟩ := hm
          have hc := h.cont id _ (hsub _ _ hid)
          simp only [repC] at hc
          obtain ⟨b', ens, clock, c1, c2, c3⟩ := hc
          rw [hb] at c1
          cases c1
          have hck := MapKept.run_checkKey (P := P) (w := w) hu (hik kk) ens.isEmpty 9999
          rcases find_rep hsame kk es ens.toList 0 c3.1 with ⟨g1, g2, g3⟩ | ⟨j, x, e, g1, g2, g3, g4, g5, g6⟩
          · have hf := MapKept.run_findKey (w := w) hu g2
            have hrun : (Instr.lookup t (.map (some b)) (keyVal ks kk) ok).run P w = .ok (if ok then .tuple #[z, .bool false] else z) w := by
              simp only [Instr.lookup, Sem.run_bind, run_underlying ht, Result.andThen_ok, MapKept.run_getObj_map c2, Sem.run_pure, hck, hf, run_zeroValue' hi hzz]
            have ha : alook ks vs kk es = none := g1
            rw [ha] at he
            simp only [Option.getD_none, Option.isSome_none] at he
            have hv : repV I s (elV vs (dflt vs)) z := elV_rep hel
            cases ok with
            | true =>
              simp only [cond_true, ok1, Option.some.injEq] at he
              subst he
              exact ⟨rfl, _, hrun, by simp only [repV]; exact ⟨_, rfl, by simp only [repVs, repV]; exact ⟨hv, trivial, trivial⟩⟩⟩
            | false =>
              simp only [cond_false, ok1, Option.some.injEq] at he
              subst he
              exact ⟨rfl, _, hrun, hv⟩
          · have hf := MapKept.run_findKey (w := w) hu g2
            have hrun : (Instr.lookup t (.map (some b)) (keyVal ks kk) ok).run P w = .ok (if ok then .tuple #[e.val, .bool true] else e.val) w := by
              simp only [Instr.lookup, Sem.run_bind, run_underlying ht, Result.andThen_ok, MapKept.run_getObj_map c2, Sem.run_pure, hck, hf]
            have ha : alook ks vs kk es = some x := g1
            rw [ha] at he
            simp only [Option.getD_some, Option.isSome_some] at he
            cases ok with
            | true =>
              simp only [cond_true, ok1, Option.some.injEq] at he
              subst he
              exact ⟨rfl, _, hrun, by simp only [repV]; exact ⟨_, rfl, by simp only [repVs, repV]; exact ⟨g4, trivial, trivial⟩⟩⟩
            | false =>
              simp only [cond_false, ok1, Option.some.injEq] at he
              subst he
              exact ⟨rfl, _, hrun, g4⟩
        · cases he
    · cases he
  · cases he

theorem sameBits_key {k : Shape} {kt : TypeId} (hk : keyTy P kt k = true) (x : El k) : Instr.sameBits 10000 (keyVal k x) (keyVal k x) = true := by
  have bi : ∀ (k : IntKind) (x : Int), Instr.sameBits 10000 (.int k x) (.int k x) = true := fun k x => by simp [Instr.sameBits]
  have bb : ∀ (x : Bool), Instr.sameBits 10000 (.bool x) (.bool x) = true := fun x => by simp [Instr.sameBits]
  have bs : ∀ (x : ByteArray), Instr.sameBits 10000 (.string x) (.string x) = true := fun x => by
    have : (x == x) = true := by show (x.data == x.data) = true; simp
    simp [Instr.sameBits, this]
  cases k <;> simp only [keyTy] at hk <;> try (cases hk; done)
  · exact bi _ _
  · exact bb _
  · exact bs _

theorem repEs_append {k v : Shape} : ∀ (es : List (El k × El v)) (ens : List MapEntry) (p : El k × El v) (e : MapEntry), repEs I s k v es ens → e.key = keyVal k p.1 → repV I s (elV v p.2) e.val → repEs I s k v (es ++ [p]) (ens ++ [e])
  | [], [], p, e, _, h1, h2 => ⟨h1, h2, trivial⟩
  | _ :: r, _ :: q, p, e, h, h1, h2 => ⟨h.1, h.2.1, repEs_append r q p e h.2.2 h1 h2⟩
  | [], _ :: _, _, _, h, _, _ => h.elim
  | _ :: _, [], _, _, h, _, _ => h.elim

/-- A value whose cells make an element is the element. -/
theorem whole_el (h : WInv cx I s hp w) (hsub : ∀ id c, hpr id = some c → hp id = some c) {v : Shape} {x : V} (hw : wholeOf v x = true) {y : El v} (hi : implode hpr v (PE.cellsOf x) = some y) {vx : Value} (hx : repV I s x vx) : isEl I v y vx := by
  have hsol : solid x = true := by
    cases x <;> simp only [wholeOf, Bool.and_eq_true] at hw <;> first
      | rfl
      | exact hw.1
  have hD := implode_rep h hsub hi (solid_cells hx hsol)
  unfold isEl
  cases hu : isUser v with
  | true =>
    cases x <;> simp only [wholeOf, hu, Bool.not_true, Bool.and_false] at hw <;> try (cases hw; done)
    simp only [repV] at hx
    obtain ⟨cs, rfl, _⟩ := hx
    exact ⟨cs, rfl, hD⟩
  | false =>
    have hs : scal x = true := by
      cases x <;> simp only [wholeOf, hu, Bool.not_false, Bool.and_true] at hw <;> first
        | exact hw
        | cases hw
    have h1 := scal_one hx hs
    have : vx.cells = #[vx] := by cases vx <;> first | rfl | simp [Value.oneCell'] at h1
    rw [this] at hD
    exact hD

theorem but_setObj (w : World) (b : Nat) (o : Obj) : But (some b) w { w with heap := w.heap.setIfInBounds b o } where
  size := by simp
  heap k hk _ := by
    simp only [Array.getElem?_setIfInBounds]
    rw [if_neg (fun e => hk (by rw [e]))]
  os := rfl
  tape := rfl
  out := rfl

theorem setObj_at {w : World} {b : Nat} {o0 : Obj} (o : Obj) (h : w.heap[b]? = some o0) : ({ w with heap := w.heap.setIfInBounds b o } : World).heap[b]? = some o := by
  have := lt_of_getElem? h
  simp [this]

theorem opMapSet_sound (h : WInv cx I s hp w) (hsub : ∀ id c, hpr id = some c → hp id = some c) {t : TypeId} {m k x : V} {ef : Eff} (he : opMapSet P hpr t m k x = some ef) {vm vk vx : Value} (hm : repV I s m vm) (hk : repV I s k vk) (hx : repV I s x vx) :
    ∃ w', (Instr.mapUpdate t vm vk vx).run P w = .ok () w' ∧ Res cx I s hp ef.upd ef.v Go.undef w' := by
  unfold opMapSet at he
  split at he
  · rename_i kt et id hd
    have ht := und_some hd (by simp)
    split at he
    · rename_i ks vs es hid
      cases hz : (keyTy P kt ks && wholeOf vs x) with
      | false => simp [hz] at he
      | true =>
        simp only [hz, cond_true] at he
        simp only [Bool.and_eq_true] at hz
        obtain ⟨d, hu, hik, hsame, hkeq⟩ := keyTy_und hz.1
        split at he
        · rename_i kk y hkk hy
          simp only [Option.some.injEq] at he
          subst he
          have hkv := inLeaf_key h hsub hz.1 hkk hk
          subst hkv
          have hel := whole_el h hsub hz.2 hy hx
          have hev : repV I s (elV vs y) vx := elV_rep hel
          simp only [repV] at hm
          obtain ⟨b, hb, rfl⟩ := hm
          have hc := h.cont id _ (hsub _ _ hid)
          simp only [repC] at hc
          obtain ⟨b', ens, clock, c1, c2, c3⟩ := hc
          rw [hb] at c1
          cases c1
          have hck := MapKept.run_checkKey (P := P) (w := w) hu (hik kk) false 9999
          obtain ⟨c3, c4, c5⟩ := c3
          have fin : ∀ ens' clock', repEs I s ks vs (aset ks vs kk y es) (Array.toList ens') → (ens'.toList.map (·.born)).Nodup → (∀ e ∈ ens'.toList, e.born < clock') → (Instr.mapUpdate t (.map (some b)) (keyVal ks kk) vx).run P w = .ok () { w with heap := w.heap.setIfInBounds b (.map ens' clock') } →
              ∃ w', (Instr.mapUpdate t (.map (some b)) (keyVal ks kk) vx).run P w = .ok () w' ∧ Res cx I s hp [(id, .tmap ks vs (aset ks vs kk y es))] V.undef Go.undef w' := by
            intro ens' clock' hes hnd hlt hrun
            refine ⟨_, hrun, I, s, Facts.le_refl _, Hand.le_refl _, ?_, by simp only [repV]⟩
            refine h.rewrite (hsub _ _ hid) (b := b) (by simp [blk, hb]) (but_setObj _ _ _) (fun b' hb' => by simp [blk, hb] at hb'; exact hb'.symm) (fun o v hI => ?_) ?_
            · have := h.agree b o v hI
              simp [World.cell?, c2] at this
            · simp only [repC]
              exact ⟨b, ens', clock', hb, setObj_at _ c2, hes, hnd, hlt⟩
          rcases find_rep hsame kk es ens.toList 0 c3 with ⟨g1, g2, g3⟩ | ⟨j, x', e, g1, g2, g3, g4, g5, g6⟩
          · have hf := MapKept.run_findKey (w := w) hu g2
            refine fin (ens.push { key := keyVal ks kk, val := vx, born := clock }) (clock + 1) ?_ ?_ ?_ ?_
            · have : aset ks vs kk y es = es ++ [(kk, y)] := g3 y
              rw [this, Array.toList_push]
              exact repEs_append _ _ _ _ c3 rfl hev
            · rw [Array.toList_push, List.map_append]
              refine List.nodup_append.2 ⟨c4, by simp, fun a ha b hb e => ?_⟩
              subst e
              obtain ⟨x, hx, rfl⟩ := List.mem_map.1 ha
              have := c5 x hx
              simp at hb
              omega
            · intro e he
              rw [Array.toList_push, List.mem_append] at he
              rcases he with he | he
              · have := c5 e he; omega
              · simp at he; subst he; simp
            · simp only [Instr.mapUpdate, Sem.run_bind, run_underlying ht, Result.andThen_ok, MapKept.run_getObj_map c2, hck, hf, MapKept.run_setObj_map _ c2]
          · have hf := MapKept.run_findKey (w := w) hu g2
            obtain ⟨zk, hzk, hek⟩ := g5
            have hkey : e.key = keyVal ks kk := by rw [hek, ← hkeq _ _ hzk]
            have hge : ens[j]? = some e := by simpa using g3
            have e2 : ens.toList.modify j (fun e => { e with key := keyVal ks kk, val := vx }) = ens.toList.modify j (fun e => { e with val := vx }) := by
              apply List.ext_getElem?
              intro n
              simp only [List.getElem?_modify]
              by_cases hn : j = n
              · subst hn; rw [g3]; simp [hkey]
              · simp [hn]
            have hborn : (ens.toList.modify j (fun e => { e with val := vx })).map (·.born) = ens.toList.map (·.born) := by
              apply List.ext_getElem?
              intro n
              simp only [List.getElem?_map, List.getElem?_modify]
              by_cases hn : j = n
              · subst hn; rw [g3]; simp
              · simp [hn]
            refine fin (ens.modify j fun e => { e with key := keyVal ks kk, val := vx }) clock ?_ ?_ ?_ ?_
            · have := g6 y vx hev
              rw [Array.toList_modify, e2]
              exact this
            · rw [Array.toList_modify, e2, hborn]; exact c4
            · intro x hx
              rw [Array.toList_modify, e2] at hx
              have hx' : x.born ∈ (ens.toList.modify j (fun e => { e with val := vx })).map (·.born) := List.mem_map.2 ⟨x, hx, rfl⟩
              rw [hborn] at hx'
              obtain ⟨z, hz, ez⟩ := List.mem_map.1 hx'
              rw [← ez]; exact c5 z hz
            · have hstay : (Instr.keyThatStays (((ens[j]?).map (·.key)).getD (keyVal ks kk)) (keyVal ks kk)).run P w = .ok (keyVal ks kk) w := by
                rw [hge]
                simp only [Option.map_some, Option.getD_some, hkey, Instr.keyThatStays, sameBits_key hz.1, if_true, Sem.run_pure]
              rw [Nat.zero_add] at hf
              simp only [Instr.mapUpdate, Sem.run_bind, run_underlying ht, Result.andThen_ok, MapKept.run_getObj_map c2, hck, hf, hstay, MapKept.run_setObj_map _ c2]
        · cases he
    · cases he
  · cases he

theorem opMakeMap_sound (h : WInv cx I s hp w) {nid : Nat} (hn : hp nid = none) {t : TypeId} {r : Option V} {ef : Eff} (he : opMakeMap P nid t r = some ef) {vr : Option Value} (hr : r = none → vr = none) :
    ∃ y w', (Instr.makeMap t vr).run P w = .ok y w' ∧ Res cx I s hp ef.upd ef.v y w' := by
  unfold opMakeMap at he
  split at he
  · rename_i kt et hd
    rw [hr rfl]
    split at he
    · rename_i ks vs _ _
      simp only [Option.some.injEq] at he
      subst he
      refine ⟨.map (some w.heap.size), w.alloc (.map #[] 0), rfl, ?_⟩
      refine ⟨I, setF s nid (.map (some w.heap.size)), Facts.le_refl _, le_setF (h.unknown hn), ?_, ?_⟩
      · refine h.create hn _ _ (but_alloc _ _) (Facts.le_refl _) (fun _ _ _ => rfl) (fun o u hu => by rw [h.fresh_none] at hu; cases hu) (fun b hb => by simp [blk] at hb; exact hb.symm) ?_
        simp only [repC]
        exact ⟨_, #[], 0, by simp, alloc_at _ _, trivial, List.nodup_nil, fun e he => by simp at he⟩
      · simp only [repV]
        exact ⟨_, by simp, rfl⟩
    · cases he
  · cases he

end
end Go.PE
