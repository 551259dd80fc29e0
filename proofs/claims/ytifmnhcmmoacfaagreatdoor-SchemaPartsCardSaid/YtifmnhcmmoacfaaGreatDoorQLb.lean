/- slices.Insert at the beginning of a row that holds something. -/
import Derived.Test.YtifmnhcmmoacfaaGreatDoorQTa
import Derived.Test.YtifmnhcmmoacfaaGreatDoorQEf
import Derived.Shelf.Spec.SlicesInsert
import Derived.Lib.AppendZerosOnto
import Derived.Test.YtifmnhcmmoacfaaGreatDoorProg
set_option linter.unusedVariables false
set_option linter.unusedSimpArgs false
set_option linter.unusedSectionVars false
set_option maxHeartbeats 4000000
set_option maxRecDepth 100000
namespace Go.Proofs.YtifmnhcmmoacfaaGreatDoorQ
open Go Go.RowKit Go.PE
theorem zim {P : Program} (w : World) (tS tR e : TypeId) (ht : P.underlying tS = some (.slice e)) (size : Nat) (hz : ∀ w,(Go.sizeOf e).run P w = .ok size w)
    (a b : Addr) (la ca lb cb : Nat) (hne : a.block ≠ b.block) {arrA arrB : Array Value} {eA eB : TypeId} {frA frB : Nat × Nat} (hA : w.heap[a.block]? = some (.cells arrA eA frA)) (hA0 : arrA.size ≠ 0)
    (hB : w.heap[b.block]? = some (.cells arrB eB frB)) (hB0 : arrB.size ≠ 0) (hfb : w.frozen? b = false) (hmark : ¬ (frB.1 ≤ arrB.size ∧ arrB.size < frB.2)) :
    (Extern.SlicesOverlaps.overlaps #[tS,tS] #[tR] #[.slice (some a) la ca,.slice (some b) lb cb]).run P w = .ok (.bool false) w := by
  have hnb : (a.block != b.block) = true := by simpa using hne
  have hnb' : (a.block == b.block) = false := by simpa using hne
  have sA : w.shape? a.block = some (eA,arrA.size) := by simp [World.shape?,hA]
  have sB : w.shape? b.block = some (eB,arrB.size) := by simp [World.shape?,hB]
  have fB : w.frozen? { block := b.block,off := arrB.size } = false := by simpa [World.frozen?,hB] using hmark
  change Sem.run P (α := Value) (do
    let some t := (#[tS,tS] : Array TypeId)[0]? | stuck "slices.overlaps: no parameter types"
    let .slice elem ← underlying t | stuck "slices.overlaps: slice type expected"
    let size ← sizeOf elem
    match (some a : Option Addr),(some b : Option Addr) with
    | some a,some b =>
      if la = 0 ∨ lb = 0 ∨ size = 0 then pure (Value.bool false)
      else if a.block != b.block && (← frozen a) && (← frozen b) then unsupported .addressObserved
      else do
        if a.block != b.block then do
          noView a; noView b
          if ← mayBeOne a b then return Value.bool ((← choose (.extern "sameAddr.stringBytes" 2)) == 1)
        pure (Value.bool (a.block == b.block && a.off < b.off + lb * size && b.off < a.off + la * size))
    | _,_ => pure (Value.bool false)) w = _
  obtain ⟨kA,hkA⟩ : ∃ k,arrA.size = k + 1 := ⟨arrA.size - 1,by omega⟩
  obtain ⟨kB,hkB⟩ : ∃ k,arrB.size = k + 1 := ⟨arrB.size - 1,by omega⟩
  rw [hkA] at sA
  rw [hkB] at sB fB
  by_cases h0 : la = 0 ∨ lb = 0 ∨ size = 0
  · simp [run_underlying ht,hz,h0]
  · cases hfa : w.frozen? a <;> cases hga : w.frozen? { block := a.block,off := kA + 1 } <;>
      simp [run_underlying ht,hz,h0,hnb,hnb',frozen,noView,viewAt,mayBeOne,stringish,shape,Sem.run,sA,sB,hfa,hfb,hga,fB]
theorem zwG (b n c vb vo vc : Nat) (w : World) (arr arrv : Array Value) (e ev : TypeId) (fr frv : Nat × Nat) (cs vs : List Value) (hb : w.heap[b]? = some (.cells arr e fr)) (hth : thaw fr arr.size) (hmark : ¬ (fr.1 ≤ arr.size ∧ arr.size < fr.2)) (hsz : arr.size = c * 1)
    (hn : 1 ≤ n) (hn9 : n ≤ 1000000000) (hroom : n + 1 ≤ c) (hvb : w.heap[vb]? = some (.cells arrv ev frv)) (hv0 : arrv.size ≠ 0) (hne : vb ≠ b) (hvl : vs.length = 1) (hst : stands w vb vo vs) (hcs : arr.toList.take (n * 1) = cs) (h1c : ∀ v ∈ cs,v.oneCell' = true) (h1v : ∀ v ∈ vs,v.oneCell' = true) :
    Calls Tryz.prog 114 #[.slice (some ⟨b,0,none⟩) n c,.int .i64 0,.slice (some ⟨vb,vo,none⟩) 1 vc] w fun x w' =>
      x = .returned (.slice (some ⟨b,0,none⟩) (n + 1) c) ∧ But (some b) w w' ∧ ∃ A,w'.heap[b]? = some (.cells A e fr) ∧ A.size = arr.size ∧ A.toList.take ((n + 1) * 1) = vs ++ cs := by
  have mixed : Tryz.prog.follows .mixedOrders = true := by kernel_rfl
  have tS := Tryz.underlying26; have tE := Tryz.underlying9; have t3 := Tryz.underlying3; have t4 := Tryz.underlying4
  have zS := Tryz.sizeOf26; have zE := Tryz.sizeOf9
  obtain ⟨i0,hi,hisz⟩ : ∃ i,Tryz.prog.info? 9 = some i ∧ i.size = 1 := by
    obtain ⟨i,hi,h⟩ := Option.map_eq_some_iff.1 (show (Tryz.prog.info? 9).map (·.size) = some 1 by kernel_rfl)
    exact ⟨i,hi,h⟩
  have hal : arr.toList.length = arr.size := Array.length_toList
  have hmul : (n + 1) * 1 ≤ c * 1 := Nat.mul_le_mul_right _ hroom
  have hcl : cs.length = n * 1 := by rw [← hcs,List.length_take,hal]; omega
  have s1 : ∀ W,(Instr.sliceAt 26 (.slice (some ⟨b,0,none⟩) n c) (some (.int .i64 0)) none none).run Tryz.prog W = .ok (.slice (some ⟨b,0,none⟩) n c) W := fun W => by
    rw [z1h Tryz.underlying26 hi (z7y (l := 0) ⟨by omega,by omega⟩)]
    simp [Addr.add_zero']
  have s2 : ∀ W,(Instr.sliceAt 26 (.slice (some ⟨b,0,none⟩) n c) none (some (.int .i64 ((n : Int) + 1))) none).run Tryz.prog W = .ok (.slice (some ⟨b,0,none⟩) (n + 1) c) W := fun W => by
    have := zee (P := Tryz.prog) (w := W) (b := true) (len := n + 1) (cap := c) (k := .i64) (h := (n : Int) + 1) ⟨by omega,by omega⟩ hroom
    rw [z1h Tryz.underlying26 hi (l := 0) (h := n + 1) (m := c) (by
      simp only [Instr.sliceBounds,Sem.run_bind,Sem.run_pure,Result.andThen_ok] at this ⊢
      simpa using this)]
    simp [Addr.add_zero']
  have s3 : ∀ W,(Instr.sliceAt 26 (.slice (some ⟨b,0,none⟩) (n + 1) c) (some (.int .i64 1)) none none).run Tryz.prog W = .ok (.slice (some ⟨b,1,none⟩) n (c - 1)) W := fun W => by
    rw [z1h Tryz.underlying26 hi (z7y (l := 1) ⟨by omega,by omega⟩)]
    have : ¬ (c = 1) := by omega
    simp [hisz,this,Addr.add]
  have s4 : ∀ W,(Instr.sliceAt 26 (.slice (some ⟨b,0,none⟩) (n + 1) c) (some (.int .i64 0)) none none).run Tryz.prog W = .ok (.slice (some ⟨b,0,none⟩) (n + 1) c) W := fun W => by
    rw [z1h Tryz.underlying26 hi (z7y (l := 0) ⟨by omega,by omega⟩)]
    simp [Addr.add_zero']
  have hov : (callFunc 149 #[.slice (some ⟨vb,vo,none⟩) 1 vc,.slice (some ⟨b,1,none⟩) n (c - 1)]).run Tryz.prog w = .ok (.value (.bool false)) w := by
    rw [run_callFunc_extern Tryz.func149 (by kernel_rfl) (by kernel_rfl) (by kernel_rfl) (e := Extern.SlicesOverlaps.overlaps #[26,26] #[4]) (by kernel_rfl)]
    rw [zim w 26 4 9 Tryz.underlying26 1 Tryz.sizeOf9 ⟨vb,vo,none⟩ ⟨b,1,none⟩ 1 vc n (c - 1) hne hvb hv0 hb (by omega) (by
      simp only [World.frozen?,hb]
      have := hth 1 (by omega)
      simpa using this) hmark]
    rfl
  obtain ⟨A1,hA1⟩ : ∃ A1,A1 = (arr.toList.take 1 ++ cs ++ arr.toList.drop (1 + cs.length)).toArray := ⟨_,rfl⟩
  have lA1 : A1.size = arr.size := by rw [hA1,List.size_toArray,z2Y _ _ _ (by omega),hal]
  have c1 : ∀ ty,(Builtin.copy_ #[26,26] ty #[.slice (some ⟨b,1,none⟩) n (c - 1),.slice (some ⟨b,0,none⟩) (n + 1) c]).run Tryz.prog w.drew = .ok (.int .i64 (n : Nat)) (w.drew.setRow b A1) := fun ty => by
    have hload : (loadCells ⟨b,0,none⟩ (n * 1)).run Tryz.prog w.drew = .ok cs.toArray w.drew := by
      have := run_loadCells_list (P := Tryz.prog) w.drew ⟨b,0,none⟩ cs (fun j v hj => by
        rw [z7H,Nat.zero_add]
        show w.cell? ⟨b,j,none⟩ = some v
        simp only [World.cell?,hb]
        rw [← hcs,List.getElem?_take] at hj
        split at hj
        · simpa using hj
        · cases hj)
      rwa [hcl] at this
    have hstore := z0Q Tryz.prog b 1 e fr cs 0 arr w.drew hb hth (by omega) h1c
    have hm : min (n + 1) n = n := by omega
    have := zav (P := Tryz.prog) (w := w.drew) (w' := w.drew.setRow b A1) (t := 26) (u := 26) Tryz.underlying26 hi (base := some ⟨b,1,none⟩) (n := n) (cap := c - 1) (k := n + 1) (v := .slice (some ⟨b,0,none⟩) (n + 1) c) (cs := cs.toArray) rfl
      (by rw [hm,hisz]; exact hload) (fun a ha => by cases ha; rw [hA1]; simpa using hstore) (fun q => by cases q) ty
    rwa [hm] at this
  have hb1 : (w.drew.setRow b A1).heap[b]? = some (.cells A1 e fr) := z5a hb
  obtain ⟨A2,hA2⟩ : ∃ A2,A2 = (A1.toList.take 0 ++ vs ++ A1.toList.drop (0 + vs.length)).toArray := ⟨_,rfl⟩
  have lA2 : A2.size = A1.size := by rw [hA2,List.size_toArray,z2Y _ _ _ (by simp only [Array.length_toList]; omega)]; simp
  have c2 : ∀ ty,(Builtin.copy_ #[26,26] ty #[.slice (some ⟨b,0,none⟩) (n + 1) c,.slice (some ⟨vb,vo,none⟩) 1 vc]).run Tryz.prog (w.drew.setRow b A1) = .ok (.int .i64 (1 : Nat)) ((w.drew.setRow b A1).setRow b A2) := fun ty => by
    have hload : (loadCells ⟨vb,vo,none⟩ (1 * 1)).run Tryz.prog (w.drew.setRow b A1) = .ok vs.toArray (w.drew.setRow b A1) := by
      have := run_loadCells_list (P := Tryz.prog) (w.drew.setRow b A1) ⟨vb,vo,none⟩ vs (fun j v hj => by
        rw [z7H,cell?_of_heap (w := w) (setRow_other w.drew b vb A1 hne)]
        exact hst j v hj)
      rwa [hvl,← Nat.one_mul 1] at this
    have hstore := z0Q Tryz.prog b 0 e fr vs 0 A1 _ hb1 (by rw [lA1]; exact hth) (by omega) h1v
    have hm : min 1 (n + 1) = 1 := by omega
    have := zav (P := Tryz.prog) (w := w.drew.setRow b A1) (w' := (w.drew.setRow b A1).setRow b A2) (t := 26) (u := 26) Tryz.underlying26 hi (base := some ⟨b,0,none⟩) (n := n + 1) (cap := c) (k := 1) (v := .slice (some ⟨vb,vo,none⟩) 1 vc) (cs := vs.toArray) rfl
      (by rw [hm,hisz]; exact hload) (fun a ha => by cases ha; rw [hA2]; simpa using hstore) (fun q => by cases q) ty
    rwa [hm] at this
  have w1 : IntKind.i64.wrap ((n : Int) + 1) = (n : Int) + 1 := by rw [IntKind.wrap_i64]; omega
  have w0 : IntKind.i64.wrap 1 = 1 := by rw [IntKind.wrap_i64]; omega
  have hx3 : ¬ c = 1 := by omega
  have hx4 : ¬ c = 0 := by omega
  have hx5 : (0 : Int) ≤ (n : Int) + 1 := by omega
  have hx6 : (1 : Int) ≤ (n : Int) + 1 := by omega
  have hx1 : ¬ ((n : Int) + 1 > (c : Int)) := by omega
  have hx2 : ¬ ((0 : Int) = (n : Int)) := by omega
  have fin : But (some b) w ((w.drew.setRow b A1).setRow b A2) ∧ ∃ A,((w.drew.setRow b A1).setRow b A2).heap[b]? = some (.cells A e fr) ∧ A.size = arr.size ∧ A.toList.take ((n + 1) * 1) = vs ++ cs := by
    refine ⟨⟨by simp,fun k hk hlt => by rw [setRow_other _ b k _ (fun q => hk (by rw [q])),setRow_other _ b k _ (fun q => hk (by rw [q]))]; rfl,rfl,rfl,rfl⟩,A2,z5a hb1,by rw [lA2,lA1],?_⟩
    rw [hA2,hA1]
    simp only [List.take_zero,List.nil_append,Nat.zero_add,hvl]
    have : (arr.toList.take 1 ++ cs ++ arr.toList.drop (1 + cs.length)).drop 1 = cs ++ arr.toList.drop (1 + cs.length) := by
      rw [List.append_assoc,List.drop_left' (by rw [List.length_take]; omega)]
    rw [this,← List.append_assoc,List.take_left' (by rw [List.length_append,hvl,hcl,Nat.add_mul]; omega)]
  clear hcs hst hsz hmul hal hA1 hA2 lA1 lA2 hcl hmark hth hb1 h1c h1v
  go_enter Tryz.func114,Tryz.ntmps114
  go_wp2_with (simp only [hov])
  go_region_law_o (refine step_copy_runI rfl _ _ 26 26 rfl _ _ (by simp [Act.eval,Act.put]) (by simp [Act.eval,Act.put]) (c1 _) ?_)
  go_wp2_with (at_builtin; refine wpList_copy_runI _ rfl _ _ 26 26 rfl _ _ rfl rfl (c2 _) ?_)
  go_ret
  exact ⟨rfl,fin⟩
theorem zxI (b n c vb vo vc : Nat) (w : World) (arr arrv : Array Value) (e ev : TypeId) (fr frv : Nat × Nat) (cs vs : List Value) (hb : w.heap[b]? = some (.cells arr e fr)) (hsz : arr.size = c * 1)
    (hn : 1 ≤ n) (hnc : n ≤ c) (hn9 : n ≤ 1000000000) (hroom : c < n + 1) (hvb : w.heap[vb]? = some (.cells arrv ev frv)) (hvl : vs.length = 1) (hst : stands w vb vo vs) (hcs : arr.toList.take (n * 1) = cs) (h1c : ∀ v ∈ cs,v.oneCell' = true) (h1v : ∀ v ∈ vs,v.oneCell' = true) :
    Calls Tryz.prog 114 #[.slice (some ⟨b,0,none⟩) n c,.int .i64 0,.slice (some ⟨vb,vo,none⟩) 1 vc] w fun x w' =>
      ∃ G,x = .returned (.slice (some ⟨w.heap.size,0,none⟩) (n + 1) G) ∧ n + 1 ≤ G ∧ But (some w.heap.size) w w' ∧ ∃ A,w'.heap[w.heap.size]? = some (.cells A 9 (0,0)) ∧ A.size = G * 1 ∧ A.toList.take ((n + 1) * 1) = vs ++ cs := by
  have mixed : Tryz.prog.follows .mixedOrders = true := by kernel_rfl
  have tS := Tryz.underlying26; have tE := Tryz.underlying9; have t3 := Tryz.underlying3; have t4 := Tryz.underlying4
  have zS := Tryz.sizeOf26; have zE := Tryz.sizeOf9
  obtain ⟨i0,z,hi,hz,hisz,hzs,hbb⟩ : ∃ i z,Tryz.prog.info? 9 = some i ∧ i.zero = some z ∧ i.size = 1 ∧ z.cells.size = 1 ∧ i.bytes = 16 := by
    obtain ⟨i,hi,h⟩ := Option.map_eq_some_iff.1 (show (Tryz.prog.info? 9).map (fun i => (i.zero,i.size,i.bytes)) = some (some (.string ⟨#[]⟩),1,16) by kernel_rfl)
    simp only [Prod.mk.injEq] at h
    exact ⟨i,(.string ⟨#[]⟩),hi,h.1,h.2.1,by rfl,h.2.2⟩
  have hal : arr.toList.length = arr.size := Array.length_toList
  have hmul : n * 1 ≤ c * 1 := Nat.mul_le_mul_right _ hnc
  have hcl : cs.length = n * 1 := by rw [← hcs,List.length_take,hal]; omega
  have hbw : b < w.heap.size := z0P? hb
  have hvw : vb < w.heap.size := z0P? hvb
  have s1 : ∀ W,(Instr.sliceAt 26 (.slice (some ⟨b,0,none⟩) n c) (some (.int .i64 0)) none none).run Tryz.prog W = .ok (.slice (some ⟨b,0,none⟩) n c) W := fun W => by
    rw [z1h Tryz.underlying26 hi (z7y (l := 0) ⟨by omega,by omega⟩)]
    simp [Addr.add_zero']
  have s2 : ∀ W,(Instr.sliceAt 26 (.slice (some ⟨b,0,none⟩) n c) none (some (.int .i64 0)) none).run Tryz.prog W = .ok (.slice (some ⟨b,0,none⟩) 0 c) W := fun W => by
    rw [z1h Tryz.underlying26 hi (zee (h := 0) ⟨by omega,by omega⟩ hnc)]
    simp [Addr.add_zero']
  have hrz : ∀ ty,(Builtin.append_ #[26,3] ty #[.slice (some ⟨b,0,none⟩) 0 c,.int .i64 ((n : Int) + 1)]).run Tryz.prog w =
      .ok (.slice (some ⟨w.heap.size,0,none⟩) (n + 1) (grownCap w (n + 1) c 9)) (w.drew.alloc (.cells (([] : List Value).toArray ++ Builtin.zeroCells z.cells (n + 1) ++ Builtin.zeroCells z.cells (grownCap w (n + 1) c 9 - (n + 1))) 9)) := fun ty => by
    have h := Lib.run_append_grow_zeros w 26 3 ty 9 i0 z .i64 .i64 Tryz.underlying26 Tryz.underlying3 hi hz (some ⟨b,0,none⟩) 0 c [] (by simp [Builtin.firstCells,loadCells,loadCellsFrom]) (n + 1) (by omega) (by rw [hisz]; decide) (by omega) (by omega) (by rw [hbb]; omega) (by rw [hbb,Nat.zero_add]; exact Nat.le_trans (growslice_fits hroom (by omega)) (by omega))
    simp only [Nat.zero_add] at h
    exact h
  obtain ⟨G,hG⟩ : ∃ G,G = grownCap w (n + 1) c 9 := ⟨_,rfl⟩
  have hGn : n + 1 ≤ G := by rw [hG]; exact grownCap_ge w _ _ _
  obtain ⟨ROW,hROW⟩ : ∃ ROW : Array Value,ROW = ([] : List Value).toArray ++ Builtin.zeroCells z.cells (n + 1) ++ Builtin.zeroCells z.cells (G - (n + 1)) := ⟨_,rfl⟩
  rw [← hG] at hrz
  rw [← hROW] at hrz
  have hRl : ROW.size = G * 1 := by
    rw [hROW]
    simp only [Array.size_append,List.size_toArray,Builtin.zeroCells,Array.size_map,Array.size_range,hzs,List.length_nil]
    rw [Nat.zero_add,← Nat.add_mul]; congr 1; omega
  have hGK : (n + 1) * 1 ≤ G * 1 := Nat.mul_le_mul_right _ hGn
  have hRal : ROW.toList.length = ROW.size := Array.length_toList
  obtain ⟨W1,hW1⟩ : ∃ W1,W1 = w.drew.alloc (.cells ROW 9) := ⟨_,rfl⟩
  have g1 : W1.heap[w.heap.size]? = some (.cells ROW 9 (0,0)) := by rw [hW1]; exact alloc_at w.drew _
  have o1 : ∀ k,k < w.heap.size → W1.heap[k]? = w.heap[k]? := fun k hk => by rw [hW1]; exact (z5K w.drew _).heap k (by simp; omega) hk
  have z1 : W1.heap.size = w.heap.size + 1 := by rw [hW1]; simp
  rw [← hW1] at hrz
  obtain ⟨A1,hA1⟩ : ∃ A1,A1 = (ROW.toList.take 0 ++ vs ++ ROW.toList.drop (0 + vs.length)).toArray := ⟨_,rfl⟩
  have lA1 : A1.size = ROW.size := by rw [hA1,List.size_toArray,z2Y _ _ _ (by omega),hRal]
  have c1 : ∀ ty,(Builtin.copy_ #[26,26] ty #[.slice (some ⟨w.heap.size,0,none⟩) (n + 1) G,.slice (some ⟨vb,vo,none⟩) 1 vc]).run Tryz.prog W1 = .ok (.int .i64 (1 : Nat)) (W1.setRow w.heap.size A1) := fun ty => by
    have hload : (loadCells ⟨vb,vo,none⟩ (1 * 1)).run Tryz.prog W1 = .ok vs.toArray W1 := by
      have := run_loadCells_list (P := Tryz.prog) W1 ⟨vb,vo,none⟩ vs (fun j v hj => by
        rw [z7H,cell?_of_heap (w := w) (o1 vb hvw)]
        exact hst j v hj)
      rwa [hvl,← Nat.one_mul 1] at this
    have hstore := z0Q Tryz.prog w.heap.size 0 9 (0,0) vs 0 ROW _ g1 (zcE _) (by omega) h1v
    have hm : min 1 (n + 1) = 1 := by omega
    have := zav (P := Tryz.prog) (w := W1) (w' := W1.setRow w.heap.size A1) (t := 26) (u := 26) Tryz.underlying26 hi (base := some ⟨w.heap.size,0,none⟩) (n := n + 1) (cap := G) (k := 1) (v := .slice (some ⟨vb,vo,none⟩) 1 vc) (cs := vs.toArray) rfl
      (by rw [hm,hisz]; exact hload) (fun a ha => by cases ha; rw [hA1]; simpa using hstore) (fun q => by cases q) ty
    rwa [hm] at this
  obtain ⟨W2,hW2⟩ : ∃ W2,W2 = W1.setRow w.heap.size A1 := ⟨_,rfl⟩
  rw [← hW2] at c1
  have g2 : W2.drew.heap[w.heap.size]? = some (.cells A1 9 (0,0)) := by rw [hW2]; exact z5a g1
  have o2 : ∀ k,k < w.heap.size → W2.drew.heap[k]? = w.heap[k]? := fun k hk => by rw [hW2]; exact (setRow_other _ _ k _ (by omega)).trans (o1 k hk)
  obtain ⟨A2,hA2⟩ : ∃ A2,A2 = (A1.toList.take 1 ++ cs ++ A1.toList.drop (1 + cs.length)).toArray := ⟨_,rfl⟩
  have lA2 : A2.size = A1.size := by rw [hA2,List.size_toArray,z2Y _ _ _ (by simp only [Array.length_toList]; omega)]; simp
  have c2 : ∀ ty,(Builtin.copy_ #[26,26] ty #[.slice (some ⟨w.heap.size,1,none⟩) n (G - 1),.slice (some ⟨b,0,none⟩) n c]).run Tryz.prog W2.drew = .ok (.int .i64 (n : Nat)) (W2.drew.setRow w.heap.size A2) := fun ty => by
    have hload : (loadCells ⟨b,0,none⟩ (n * 1)).run Tryz.prog W2.drew = .ok cs.toArray W2.drew := by
      have := run_loadCells_list (P := Tryz.prog) W2.drew ⟨b,0,none⟩ cs (fun j v hj => by
        rw [z7H,Nat.zero_add,cell?_of_heap (w := w) (o2 b hbw)]
        simp only [World.cell?,hb]
        rw [← hcs,List.getElem?_take] at hj
        split at hj
        · simpa using hj
        · cases hj)
      rwa [hcl] at this
    have hstore := z0Q Tryz.prog w.heap.size 1 9 (0,0) cs 0 A1 _ g2 (zcE _) (by omega) h1c
    have hm : min n n = n := by omega
    have := zav (P := Tryz.prog) (w := W2.drew) (w' := W2.drew.setRow w.heap.size A2) (t := 26) (u := 26) Tryz.underlying26 hi (base := some ⟨w.heap.size,1,none⟩) (n := n) (cap := G - 1) (k := n) (v := .slice (some ⟨b,0,none⟩) n c) (cs := cs.toArray) rfl
      (by rw [hm,hisz]; exact hload) (fun a ha => by cases ha; rw [hA2]; simpa using hstore) (fun q => by cases q) ty
    rwa [hm] at this
  have w1 : IntKind.i64.wrap ((n : Int) + 1) = (n : Int) + 1 := by rw [IntKind.wrap_i64]; omega
  have w0 : IntKind.i64.wrap 1 = 1 := by rw [IntKind.wrap_i64]; omega
  have hx1 : (c : Int) < (n : Int) + 1 := by omega
  have hx2 : ¬ ((0 : Int) = (n : Int)) := by omega
  have hx3 : ¬ G = 1 := by omega
  have hx4 : ¬ G = 0 := by omega
  have hx5 : (0 : Int) ≤ (n : Int) + 1 := by omega
  have hx6 : (1 : Int) ≤ (n : Int) + 1 := by omega
  have hx7 : ¬ c = 0 := by omega
  have fin : n + 1 ≤ G ∧ But (some w.heap.size) w (W2.drew.setRow w.heap.size A2) ∧ ∃ A,(W2.drew.setRow w.heap.size A2).heap[w.heap.size]? = some (.cells A 9 (0,0)) ∧ A.size = G * 1 ∧ A.toList.take ((n + 1) * 1) = vs ++ cs := by
    refine ⟨hGn,⟨?_,fun k hk hlt => ?_,?_,?_,?_⟩,A2,z5a g2,by rw [lA2,lA1,hRl],?_⟩
    · rw [hW2]; simp [z1]
    · rw [setRow_other _ _ k _ (by omega)]; exact o2 k hlt
    · rw [hW2,hW1]; rfl
    · rw [hW2,hW1]; rfl
    · rw [hW2,hW1]; rfl
    rw [hA2,hA1]
    simp only [List.take_zero,List.nil_append,Nat.zero_add,hvl]
    have : (vs ++ ROW.toList.drop 1).take 1 = vs := by rw [List.take_left' hvl]
    rw [this,List.take_left' (by rw [List.length_append,hvl,hcl,Nat.add_mul]; omega)]
  have hE1 : ∀ x,((w.alloc (.cells ROW 9)).drew).cell? x = W1.cell? x := fun x => by rw [hW1]; rfl
  have hWW : (w.alloc (.cells ROW 9)).drew = W1 := by rw [hW1]; rfl
  clear hcs hst hsz hmul hal hA1 hA2 lA1 lA2 hcl h1c h1v hROW hG hRl g1 g2 o1 o2 z1 hW1 hW2 hGK hRal
  go_enter Tryz.func114,Tryz.ntmps114
  go_wp2_with (first
    | (at_builtin; refine Lib.wpList_append_run _ rfl _ _ _ _ rfl _ _ rfl rfl _ _ (hrz _) ?_)
    | (at_builtin; refine wpList_copy_runI _ rfl _ _ 26 26 rfl _ _ rfl rfl (c1 _) ?_))
  go_region_law_o (refine step_copy_runI rfl _ _ 26 26 rfl _ _ (by simp [Act.eval,Act.put]) (by simp [Act.eval,Act.put]) (c2 _) ?_)
  go_wp2
  go_ret
  exact ⟨G,rfl,fin⟩
theorem zxl [PE.Ground] (a2 a1 : List (El .str)) (h1 : a1.length = 1) (hn : 1 ≤ a2.length) (hn9 : a2.length ≤ 1000000000) (hf : Tryz.prog.funcs[114]? = some Tryz.f114) :
    PE.Spec Tryz.prog 114 [.row 0,.int .i64 0,.lst .str a1 0] [.row .str a2 0] (.row 1) [.dead] [.row .str (a1 ++ a2) 0] := by
  refine zbA hf (by kernel_rfl) fun cx I s w vs hG hw hargs => ?_
  have hh : get (z3U 0 [C.row .str a2 0]) 0 = some (C.row .str a2 0) := by rw [z0U]; rfl
  match vs,hargs with
  | [va,v1,v2],hargs =>
  simp only [z0s,repV] at hargs
  obtain ⟨⟨ha,_⟩,rfl,⟨hl,_⟩,_⟩ := hargs
  have hr := hw.cont 0 _ hh
  simp only [repC] at hr
  obtain ⟨base,c,k1,k2,k3⟩ := hr
  have k2 : a2.length ≤ c := k2
  rw [k1] at ha
  cases ha
  rcases k3 with k3 | ⟨b,rfl,arr,e,fr,q1,q2,q3,q4,q5,q6,q7⟩
  · omega
  have e1 : List.length (α := El .str) a1 = 1 := h1
  have e2 : List.length (α := El .str) a2 = a2.length := rfl
  rw [e1] at hl
  simp only [repD] at hl
  obtain ⟨base2,vc,rfl,_,hx⟩ := hl
  have hcl : (cellsD .str a1).length = 1 := by rw [z0J,e1]; rfl
  rcases hx with hx | ⟨vb,vo,rfl,hx⟩
  · rw [hx] at hcl; simp at hcl
  obtain ⟨cv,r1,r2⟩ := z7d _ _ hx
  have lcv := z0R _ _ r1
  rw [hcl] at lcv
  have hst : stands w vb vo cv := fun j v hj => hw.agree _ _ _ (r2 j v hj)
  have h0 := r2 0 _ (List.getElem?_eq_getElem (by omega))
  have hne : vb ≠ b := by rintro rfl; rw [q6 rfl] at h0; cases h0
  obtain ⟨arrv,ev,frv,hvb,hv0⟩ : ∃ arrv ev frv,w.heap[vb]? = some (.cells arrv ev frv) ∧ arrv.size ≠ 0 := by
    have h0' := hw.agree _ _ _ h0
    simp only [World.cell?] at h0'
    split at h0'
    · rename_i c' e' f' hb'
      refine ⟨_,_,_,hb',fun hz => ?_⟩
      rw [Array.getElem?_eq_none (by omega)] at h0'
      cases h0'
    · cases h0'
  have hsize : PE.size .str = 1 := rfl
  rw [hsize] at q3
  have hmark : ¬ (fr.1 ≤ arr.size ∧ arr.size < fr.2) := q2.2.resolve_left (fun h => by cases h)
  have hk := hw.kill 0
  have hkn : setF (get (z3U 0 [C.row .str a2 0])) 0 .dead 1 = none := by rw [z0A _ _ (by decide),z0U]; rfl
  have hblk : blk s 0 (.row .str a2 0) = some b := by
    obtain ⟨c',rfl⟩ : ∃ c',c = c' + 1 := ⟨c - 1,by omega⟩
    simp [blk,k1]
  have he : made 1 none .str (a1 ++ a2) 0 [] [] = some ⟨.row 1,[(1,.row .str (a1 ++ a2) 0)],[]⟩ := rfl
  have hlen : (a1 ++ a2).length = a2.length + 1 := by rw [List.length_append,h1]; omega
  have hlen' : List.length (α := El .str) (a1 ++ a2) = a2.length + 1 := hlen
  have hhp : ∀ c : C,addF [(1,c)] (setF (get (z3U 0 [C.row .str a2 0])) 0 .dead) = get (z3U 0 ([.dead] ++ [c])) := by
    intro c
    funext i
    rw [z0U]
    match i with
    | 0 => rfl
    | 1 => rfl
    | i + 2 => simp only [addF]; rw [z0A _ _ (by omega),z0A _ _ (by omega),z0U]; simp
  have hal : arr.toList.length = arr.size := Array.length_toList
  have hn2 : a2.length * 1 ≤ c * 1 := Nat.mul_le_mul_right _ k2
  by_cases hroom : a2.length + 1 ≤ c
  · refine (zwG b a2.length c vb vo vc w arr arrv e ev fr frv _ cv q1 q2.1 hmark q3 hn hn9 hroom hvb hv0 hne (by omega) hst rfl (fun v hv => z6M _ _ q4 v hv) (fun v hv => z6M _ _ r1 v hv)).mono ?_
    rintro x w' ⟨rfl,hbut,A,hA,hAs,hAt⟩
    obtain ⟨c0,f1,I',s',g1,g2,g3,g4⟩ := zl9 hk (b := b) hkn (fun i c0 h0 hb' => by
        by_cases hi' : i = 0
        · subst hi'; simp at h0; subst h0; simp [blk] at hb'
        · rw [z0A _ _ hi'] at h0
          exact hi' (hw.apart i 0 c0 _ b h0 hh hb' hblk))
      (hw.own 0 _ b hh hblk) he (cap := c) hbut hA (by rw [hAs]; exact q2) (by rw [hAs,q3,hsize]) (by rw [hlen']; exact hroom)
      (by
        rw [hlen',hsize,hAt,z2P]
        exact z2e _ _ _ _ r1 q4) (fun o v hv => by rw [q6 rfl] at hv; cases hv) (fun _ => q6 rfl) (by decide)
    simp only [List.cons.injEq,Prod.mk.injEq,true_and,and_true] at f1
    subst f1
    rw [hhp] at g3
    rw [hlen'] at g4
    exact ⟨I',s',g1,g2,g3,g4⟩
  · refine (zxI b a2.length c vb vo vc w arr arrv e ev fr frv _ cv q1 q3 hn k2 hn9 (by omega) hvb (by omega) hst rfl (fun v hv => z6M _ _ q4 v hv) (fun v hv => z6M _ _ r1 v hv)).mono ?_
    rintro x w' ⟨G,rfl,hG,hbut,A,hA,hAs,hAt⟩
    obtain ⟨c0,f1,I',s',g1,g2,g3,g4⟩ := zl9 hk (b := w.heap.size) hkn (fun i c0 h0 hb' => by have := hk.zkk h0 hb'; omega)
      (.inl hw.size) he (cap := G) hbut hA (zeE _ _) (by rw [hAs,hsize]) (by rw [hlen']; exact hG)
      (by
        rw [hlen',hsize,hAt,z2P]
        exact z2e _ _ _ _ r1 q4) (fun o v hv => by rw [hw.z2W] at hv; cases hv) (fun _ => hw.z2W) (by decide)
    simp only [List.cons.injEq,Prod.mk.injEq,true_and,and_true] at f1
    subst f1
    rw [hhp] at g3
    rw [hlen'] at g4
    exact ⟨I',s',g1,g2,g3,g4⟩
theorem zuW (b n c vb vo vc : Nat) (w : World) (arr arrv : Array Value) (e ev : TypeId) (fr frv : Nat × Nat) (cs vs : List Value) (hb : w.heap[b]? = some (.cells arr e fr)) (hth : thaw fr arr.size) (hmark : ¬ (fr.1 ≤ arr.size ∧ arr.size < fr.2)) (hsz : arr.size = c * 6)
    (hn : 1 ≤ n) (hn9 : n ≤ 1000000000) (hroom : n + 1 ≤ c) (hvb : w.heap[vb]? = some (.cells arrv ev frv)) (hv0 : arrv.size ≠ 0) (hne : vb ≠ b) (hvl : vs.length = 6) (hst : stands w vb vo vs) (hcs : arr.toList.take (n * 6) = cs) (h1c : ∀ v ∈ cs,v.oneCell' = true) (h1v : ∀ v ∈ vs,v.oneCell' = true) :
    Calls Tryz.prog 115 #[.slice (some ⟨b,0,none⟩) n c,.int .i64 0,.slice (some ⟨vb,vo,none⟩) 1 vc] w fun x w' =>
      x = .returned (.slice (some ⟨b,0,none⟩) (n + 1) c) ∧ But (some b) w w' ∧ ∃ A,w'.heap[b]? = some (.cells A e fr) ∧ A.size = arr.size ∧ A.toList.take ((n + 1) * 6) = vs ++ cs := by
  have mixed : Tryz.prog.follows .mixedOrders = true := by kernel_rfl
  have tS := Tryz.underlying27; have tE := Tryz.underlying29; have t3 := Tryz.underlying3; have t4 := Tryz.underlying4
  have zS := Tryz.sizeOf27; have zE := Tryz.sizeOf29
  obtain ⟨i0,hi,hisz⟩ : ∃ i,Tryz.prog.info? 29 = some i ∧ i.size = 6 := by
    obtain ⟨i,hi,h⟩ := Option.map_eq_some_iff.1 (show (Tryz.prog.info? 29).map (·.size) = some 6 by kernel_rfl)
    exact ⟨i,hi,h⟩
  have hal : arr.toList.length = arr.size := Array.length_toList
  have hmul : (n + 1) * 6 ≤ c * 6 := Nat.mul_le_mul_right _ hroom
  have hcl : cs.length = n * 6 := by rw [← hcs,List.length_take,hal]; omega
  have s1 : ∀ W,(Instr.sliceAt 27 (.slice (some ⟨b,0,none⟩) n c) (some (.int .i64 0)) none none).run Tryz.prog W = .ok (.slice (some ⟨b,0,none⟩) n c) W := fun W => by
    rw [z1h Tryz.underlying27 hi (z7y (l := 0) ⟨by omega,by omega⟩)]
    simp [Addr.add_zero']
  have s2 : ∀ W,(Instr.sliceAt 27 (.slice (some ⟨b,0,none⟩) n c) none (some (.int .i64 ((n : Int) + 1))) none).run Tryz.prog W = .ok (.slice (some ⟨b,0,none⟩) (n + 1) c) W := fun W => by
    have := zee (P := Tryz.prog) (w := W) (b := true) (len := n + 1) (cap := c) (k := .i64) (h := (n : Int) + 1) ⟨by omega,by omega⟩ hroom
    rw [z1h Tryz.underlying27 hi (l := 0) (h := n + 1) (m := c) (by
      simp only [Instr.sliceBounds,Sem.run_bind,Sem.run_pure,Result.andThen_ok] at this ⊢
      simpa using this)]
    simp [Addr.add_zero']
  have s3 : ∀ W,(Instr.sliceAt 27 (.slice (some ⟨b,0,none⟩) (n + 1) c) (some (.int .i64 1)) none none).run Tryz.prog W = .ok (.slice (some ⟨b,6,none⟩) n (c - 1)) W := fun W => by
    rw [z1h Tryz.underlying27 hi (z7y (l := 1) ⟨by omega,by omega⟩)]
    have : ¬ (c = 1) := by omega
    simp [hisz,this,Addr.add]
  have s4 : ∀ W,(Instr.sliceAt 27 (.slice (some ⟨b,0,none⟩) (n + 1) c) (some (.int .i64 0)) none none).run Tryz.prog W = .ok (.slice (some ⟨b,0,none⟩) (n + 1) c) W := fun W => by
    rw [z1h Tryz.underlying27 hi (z7y (l := 0) ⟨by omega,by omega⟩)]
    simp [Addr.add_zero']
  have hov : (callFunc 151 #[.slice (some ⟨vb,vo,none⟩) 1 vc,.slice (some ⟨b,6,none⟩) n (c - 1)]).run Tryz.prog w = .ok (.value (.bool false)) w := by
    rw [run_callFunc_extern Tryz.func151 (by kernel_rfl) (by kernel_rfl) (by kernel_rfl) (e := Extern.SlicesOverlaps.overlaps #[27,27] #[4]) (by kernel_rfl)]
    rw [zim w 27 4 29 Tryz.underlying27 6 Tryz.sizeOf29 ⟨vb,vo,none⟩ ⟨b,6,none⟩ 1 vc n (c - 1) hne hvb hv0 hb (by omega) (by
      simp only [World.frozen?,hb]
      have := hth 6 (by omega)
      simpa using this) hmark]
    rfl
  obtain ⟨A1,hA1⟩ : ∃ A1,A1 = (arr.toList.take 6 ++ cs ++ arr.toList.drop (6 + cs.length)).toArray := ⟨_,rfl⟩
  have lA1 : A1.size = arr.size := by rw [hA1,List.size_toArray,z2Y _ _ _ (by omega),hal]
  have c1 : ∀ ty,(Builtin.copy_ #[27,27] ty #[.slice (some ⟨b,6,none⟩) n (c - 1),.slice (some ⟨b,0,none⟩) (n + 1) c]).run Tryz.prog w.drew = .ok (.int .i64 (n : Nat)) (w.drew.setRow b A1) := fun ty => by
    have hload : (loadCells ⟨b,0,none⟩ (n * 6)).run Tryz.prog w.drew = .ok cs.toArray w.drew := by
      have := run_loadCells_list (P := Tryz.prog) w.drew ⟨b,0,none⟩ cs (fun j v hj => by
        rw [z7H,Nat.zero_add]
        show w.cell? ⟨b,j,none⟩ = some v
        simp only [World.cell?,hb]
        rw [← hcs,List.getElem?_take] at hj
        split at hj
        · simpa using hj
        · cases hj)
      rwa [hcl] at this
    have hstore := z0Q Tryz.prog b 6 e fr cs 0 arr w.drew hb hth (by omega) h1c
    have hm : min (n + 1) n = n := by omega
    have := zav (P := Tryz.prog) (w := w.drew) (w' := w.drew.setRow b A1) (t := 27) (u := 27) Tryz.underlying27 hi (base := some ⟨b,6,none⟩) (n := n) (cap := c - 1) (k := n + 1) (v := .slice (some ⟨b,0,none⟩) (n + 1) c) (cs := cs.toArray) rfl
      (by rw [hm,hisz]; exact hload) (fun a ha => by cases ha; rw [hA1]; simpa using hstore) (fun q => by cases q) ty
    rwa [hm] at this
  have hb1 : (w.drew.setRow b A1).heap[b]? = some (.cells A1 e fr) := z5a hb
  obtain ⟨A2,hA2⟩ : ∃ A2,A2 = (A1.toList.take 0 ++ vs ++ A1.toList.drop (0 + vs.length)).toArray := ⟨_,rfl⟩
  have lA2 : A2.size = A1.size := by rw [hA2,List.size_toArray,z2Y _ _ _ (by simp only [Array.length_toList]; omega)]; simp
  have c2 : ∀ ty,(Builtin.copy_ #[27,27] ty #[.slice (some ⟨b,0,none⟩) (n + 1) c,.slice (some ⟨vb,vo,none⟩) 1 vc]).run Tryz.prog (w.drew.setRow b A1) = .ok (.int .i64 (1 : Nat)) ((w.drew.setRow b A1).setRow b A2) := fun ty => by
    have hload : (loadCells ⟨vb,vo,none⟩ (1 * 6)).run Tryz.prog (w.drew.setRow b A1) = .ok vs.toArray (w.drew.setRow b A1) := by
      have := run_loadCells_list (P := Tryz.prog) (w.drew.setRow b A1) ⟨vb,vo,none⟩ vs (fun j v hj => by
        rw [z7H,cell?_of_heap (w := w) (setRow_other w.drew b vb A1 hne)]
        exact hst j v hj)
      rwa [hvl,← Nat.one_mul 6] at this
    have hstore := z0Q Tryz.prog b 0 e fr vs 0 A1 _ hb1 (by rw [lA1]; exact hth) (by omega) h1v
    have hm : min 1 (n + 1) = 1 := by omega
    have := zav (P := Tryz.prog) (w := w.drew.setRow b A1) (w' := (w.drew.setRow b A1).setRow b A2) (t := 27) (u := 27) Tryz.underlying27 hi (base := some ⟨b,0,none⟩) (n := n + 1) (cap := c) (k := 1) (v := .slice (some ⟨vb,vo,none⟩) 1 vc) (cs := vs.toArray) rfl
      (by rw [hm,hisz]; exact hload) (fun a ha => by cases ha; rw [hA2]; simpa using hstore) (fun q => by cases q) ty
    rwa [hm] at this
  have w1 : IntKind.i64.wrap ((n : Int) + 1) = (n : Int) + 1 := by rw [IntKind.wrap_i64]; omega
  have w0 : IntKind.i64.wrap 1 = 1 := by rw [IntKind.wrap_i64]; omega
  have hx3 : ¬ c = 1 := by omega
  have hx4 : ¬ c = 0 := by omega
  have hx5 : (0 : Int) ≤ (n : Int) + 1 := by omega
  have hx6 : (1 : Int) ≤ (n : Int) + 1 := by omega
  have hx1 : ¬ ((n : Int) + 1 > (c : Int)) := by omega
  have hx2 : ¬ ((0 : Int) = (n : Int)) := by omega
  have fin : But (some b) w ((w.drew.setRow b A1).setRow b A2) ∧ ∃ A,((w.drew.setRow b A1).setRow b A2).heap[b]? = some (.cells A e fr) ∧ A.size = arr.size ∧ A.toList.take ((n + 1) * 6) = vs ++ cs := by
    refine ⟨⟨by simp,fun k hk hlt => by rw [setRow_other _ b k _ (fun q => hk (by rw [q])),setRow_other _ b k _ (fun q => hk (by rw [q]))]; rfl,rfl,rfl,rfl⟩,A2,z5a hb1,by rw [lA2,lA1],?_⟩
    rw [hA2,hA1]
    simp only [List.take_zero,List.nil_append,Nat.zero_add,hvl]
    have : (arr.toList.take 6 ++ cs ++ arr.toList.drop (6 + cs.length)).drop 6 = cs ++ arr.toList.drop (6 + cs.length) := by
      rw [List.append_assoc,List.drop_left' (by rw [List.length_take]; omega)]
    rw [this,← List.append_assoc,List.take_left' (by rw [List.length_append,hvl,hcl,Nat.add_mul]; omega)]
  clear hcs hst hsz hmul hal hA1 hA2 lA1 lA2 hcl hmark hth hb1 h1c h1v
  go_enter Tryz.func115,Tryz.ntmps115
  go_wp2_with (simp only [hov])
  go_region_law_o (refine step_copy_runI rfl _ _ 27 27 rfl _ _ (by simp [Act.eval,Act.put]) (by simp [Act.eval,Act.put]) (c1 _) ?_)
  go_wp2_with (at_builtin; refine wpList_copy_runI _ rfl _ _ 27 27 rfl _ _ rfl rfl (c2 _) ?_)
  go_ret
  exact ⟨rfl,fin⟩
theorem zwk (b n c vb vo vc : Nat) (w : World) (arr arrv : Array Value) (e ev : TypeId) (fr frv : Nat × Nat) (cs vs : List Value) (hb : w.heap[b]? = some (.cells arr e fr)) (hsz : arr.size = c * 6)
    (hn : 1 ≤ n) (hnc : n ≤ c) (hn9 : n ≤ 1000000000) (hroom : c < n + 1) (hvb : w.heap[vb]? = some (.cells arrv ev frv)) (hvl : vs.length = 6) (hst : stands w vb vo vs) (hcs : arr.toList.take (n * 6) = cs) (h1c : ∀ v ∈ cs,v.oneCell' = true) (h1v : ∀ v ∈ vs,v.oneCell' = true) :
    Calls Tryz.prog 115 #[.slice (some ⟨b,0,none⟩) n c,.int .i64 0,.slice (some ⟨vb,vo,none⟩) 1 vc] w fun x w' =>
      ∃ G,x = .returned (.slice (some ⟨w.heap.size,0,none⟩) (n + 1) G) ∧ n + 1 ≤ G ∧ But (some w.heap.size) w w' ∧ ∃ A,w'.heap[w.heap.size]? = some (.cells A 29 (0,0)) ∧ A.size = G * 6 ∧ A.toList.take ((n + 1) * 6) = vs ++ cs := by
  have mixed : Tryz.prog.follows .mixedOrders = true := by kernel_rfl
  have tS := Tryz.underlying27; have tE := Tryz.underlying29; have t3 := Tryz.underlying3; have t4 := Tryz.underlying4
  have zS := Tryz.sizeOf27; have zE := Tryz.sizeOf29
  obtain ⟨i0,z,hi,hz,hisz,hzs,hbb⟩ : ∃ i z,Tryz.prog.info? 29 = some i ∧ i.zero = some z ∧ i.size = 6 ∧ z.cells.size = 6 ∧ i.bytes = 88 := by
    obtain ⟨i,hi,h⟩ := Option.map_eq_some_iff.1 (show (Tryz.prog.info? 29).map (fun i => (i.zero,i.size,i.bytes)) = some (some (.agg #[.int .i64 0,.bool false,.int .i64 0,.string ⟨#[]⟩,.slice none 0 0,.slice none 0 0]),6,88) by kernel_rfl)
    simp only [Prod.mk.injEq] at h
    exact ⟨i,(.agg #[.int .i64 0,.bool false,.int .i64 0,.string ⟨#[]⟩,.slice none 0 0,.slice none 0 0]),hi,h.1,h.2.1,by rfl,h.2.2⟩
  have hal : arr.toList.length = arr.size := Array.length_toList
  have hmul : n * 6 ≤ c * 6 := Nat.mul_le_mul_right _ hnc
  have hcl : cs.length = n * 6 := by rw [← hcs,List.length_take,hal]; omega
  have hbw : b < w.heap.size := z0P? hb
  have hvw : vb < w.heap.size := z0P? hvb
  have s1 : ∀ W,(Instr.sliceAt 27 (.slice (some ⟨b,0,none⟩) n c) (some (.int .i64 0)) none none).run Tryz.prog W = .ok (.slice (some ⟨b,0,none⟩) n c) W := fun W => by
    rw [z1h Tryz.underlying27 hi (z7y (l := 0) ⟨by omega,by omega⟩)]
    simp [Addr.add_zero']
  have s2 : ∀ W,(Instr.sliceAt 27 (.slice (some ⟨b,0,none⟩) n c) none (some (.int .i64 0)) none).run Tryz.prog W = .ok (.slice (some ⟨b,0,none⟩) 0 c) W := fun W => by
    rw [z1h Tryz.underlying27 hi (zee (h := 0) ⟨by omega,by omega⟩ hnc)]
    simp [Addr.add_zero']
  have hrz : ∀ ty,(Builtin.append_ #[27,3] ty #[.slice (some ⟨b,0,none⟩) 0 c,.int .i64 ((n : Int) + 1)]).run Tryz.prog w =
      .ok (.slice (some ⟨w.heap.size,0,none⟩) (n + 1) (grownCap w (n + 1) c 29)) (w.drew.alloc (.cells (([] : List Value).toArray ++ Builtin.zeroCells z.cells (n + 1) ++ Builtin.zeroCells z.cells (grownCap w (n + 1) c 29 - (n + 1))) 29)) := fun ty => by
    have h := Lib.run_append_grow_zeros w 27 3 ty 29 i0 z .i64 .i64 Tryz.underlying27 Tryz.underlying3 hi hz (some ⟨b,0,none⟩) 0 c [] (by simp [Builtin.firstCells,loadCells,loadCellsFrom]) (n + 1) (by omega) (by rw [hisz]; decide) (by omega) (by omega) (by rw [hbb]; omega) (by rw [hbb,Nat.zero_add]; exact Nat.le_trans (growslice_fits hroom (by omega)) (by omega))
    simp only [Nat.zero_add] at h
    exact h
  obtain ⟨G,hG⟩ : ∃ G,G = grownCap w (n + 1) c 29 := ⟨_,rfl⟩
  have hGn : n + 1 ≤ G := by rw [hG]; exact grownCap_ge w _ _ _
  obtain ⟨ROW,hROW⟩ : ∃ ROW : Array Value,ROW = ([] : List Value).toArray ++ Builtin.zeroCells z.cells (n + 1) ++ Builtin.zeroCells z.cells (G - (n + 1)) := ⟨_,rfl⟩
  rw [← hG] at hrz
  rw [← hROW] at hrz
  have hRl : ROW.size = G * 6 := by
    rw [hROW]
    simp only [Array.size_append,List.size_toArray,Builtin.zeroCells,Array.size_map,Array.size_range,hzs,List.length_nil]
    rw [Nat.zero_add,← Nat.add_mul]; congr 1; omega
  have hGK : (n + 1) * 6 ≤ G * 6 := Nat.mul_le_mul_right _ hGn
  have hRal : ROW.toList.length = ROW.size := Array.length_toList
  obtain ⟨W1,hW1⟩ : ∃ W1,W1 = w.drew.alloc (.cells ROW 29) := ⟨_,rfl⟩
  have g1 : W1.heap[w.heap.size]? = some (.cells ROW 29 (0,0)) := by rw [hW1]; exact alloc_at w.drew _
  have o1 : ∀ k,k < w.heap.size → W1.heap[k]? = w.heap[k]? := fun k hk => by rw [hW1]; exact (z5K w.drew _).heap k (by simp; omega) hk
  have z1 : W1.heap.size = w.heap.size + 1 := by rw [hW1]; simp
  rw [← hW1] at hrz
  obtain ⟨A1,hA1⟩ : ∃ A1,A1 = (ROW.toList.take 0 ++ vs ++ ROW.toList.drop (0 + vs.length)).toArray := ⟨_,rfl⟩
  have lA1 : A1.size = ROW.size := by rw [hA1,List.size_toArray,z2Y _ _ _ (by omega),hRal]
  have c1 : ∀ ty,(Builtin.copy_ #[27,27] ty #[.slice (some ⟨w.heap.size,0,none⟩) (n + 1) G,.slice (some ⟨vb,vo,none⟩) 1 vc]).run Tryz.prog W1 = .ok (.int .i64 (1 : Nat)) (W1.setRow w.heap.size A1) := fun ty => by
    have hload : (loadCells ⟨vb,vo,none⟩ (1 * 6)).run Tryz.prog W1 = .ok vs.toArray W1 := by
      have := run_loadCells_list (P := Tryz.prog) W1 ⟨vb,vo,none⟩ vs (fun j v hj => by
        rw [z7H,cell?_of_heap (w := w) (o1 vb hvw)]
        exact hst j v hj)
      rwa [hvl,← Nat.one_mul 6] at this
    have hstore := z0Q Tryz.prog w.heap.size 0 29 (0,0) vs 0 ROW _ g1 (zcE _) (by omega) h1v
    have hm : min 1 (n + 1) = 1 := by omega
    have := zav (P := Tryz.prog) (w := W1) (w' := W1.setRow w.heap.size A1) (t := 27) (u := 27) Tryz.underlying27 hi (base := some ⟨w.heap.size,0,none⟩) (n := n + 1) (cap := G) (k := 1) (v := .slice (some ⟨vb,vo,none⟩) 1 vc) (cs := vs.toArray) rfl
      (by rw [hm,hisz]; exact hload) (fun a ha => by cases ha; rw [hA1]; simpa using hstore) (fun q => by cases q) ty
    rwa [hm] at this
  obtain ⟨W2,hW2⟩ : ∃ W2,W2 = W1.setRow w.heap.size A1 := ⟨_,rfl⟩
  rw [← hW2] at c1
  have g2 : W2.drew.heap[w.heap.size]? = some (.cells A1 29 (0,0)) := by rw [hW2]; exact z5a g1
  have o2 : ∀ k,k < w.heap.size → W2.drew.heap[k]? = w.heap[k]? := fun k hk => by rw [hW2]; exact (setRow_other _ _ k _ (by omega)).trans (o1 k hk)
  obtain ⟨A2,hA2⟩ : ∃ A2,A2 = (A1.toList.take 6 ++ cs ++ A1.toList.drop (6 + cs.length)).toArray := ⟨_,rfl⟩
  have lA2 : A2.size = A1.size := by rw [hA2,List.size_toArray,z2Y _ _ _ (by simp only [Array.length_toList]; omega)]; simp
  have c2 : ∀ ty,(Builtin.copy_ #[27,27] ty #[.slice (some ⟨w.heap.size,6,none⟩) n (G - 1),.slice (some ⟨b,0,none⟩) n c]).run Tryz.prog W2.drew = .ok (.int .i64 (n : Nat)) (W2.drew.setRow w.heap.size A2) := fun ty => by
    have hload : (loadCells ⟨b,0,none⟩ (n * 6)).run Tryz.prog W2.drew = .ok cs.toArray W2.drew := by
      have := run_loadCells_list (P := Tryz.prog) W2.drew ⟨b,0,none⟩ cs (fun j v hj => by
        rw [z7H,Nat.zero_add,cell?_of_heap (w := w) (o2 b hbw)]
        simp only [World.cell?,hb]
        rw [← hcs,List.getElem?_take] at hj
        split at hj
        · simpa using hj
        · cases hj)
      rwa [hcl] at this
    have hstore := z0Q Tryz.prog w.heap.size 6 29 (0,0) cs 0 A1 _ g2 (zcE _) (by omega) h1c
    have hm : min n n = n := by omega
    have := zav (P := Tryz.prog) (w := W2.drew) (w' := W2.drew.setRow w.heap.size A2) (t := 27) (u := 27) Tryz.underlying27 hi (base := some ⟨w.heap.size,6,none⟩) (n := n) (cap := G - 1) (k := n) (v := .slice (some ⟨b,0,none⟩) n c) (cs := cs.toArray) rfl
      (by rw [hm,hisz]; exact hload) (fun a ha => by cases ha; rw [hA2]; simpa using hstore) (fun q => by cases q) ty
    rwa [hm] at this
  have w1 : IntKind.i64.wrap ((n : Int) + 1) = (n : Int) + 1 := by rw [IntKind.wrap_i64]; omega
  have w0 : IntKind.i64.wrap 1 = 1 := by rw [IntKind.wrap_i64]; omega
  have hx1 : (c : Int) < (n : Int) + 1 := by omega
  have hx2 : ¬ ((0 : Int) = (n : Int)) := by omega
  have hx3 : ¬ G = 1 := by omega
  have hx4 : ¬ G = 0 := by omega
  have hx5 : (0 : Int) ≤ (n : Int) + 1 := by omega
  have hx6 : (1 : Int) ≤ (n : Int) + 1 := by omega
  have hx7 : ¬ c = 0 := by omega
  have fin : n + 1 ≤ G ∧ But (some w.heap.size) w (W2.drew.setRow w.heap.size A2) ∧ ∃ A,(W2.drew.setRow w.heap.size A2).heap[w.heap.size]? = some (.cells A 29 (0,0)) ∧ A.size = G * 6 ∧ A.toList.take ((n + 1) * 6) = vs ++ cs := by
    refine ⟨hGn,⟨?_,fun k hk hlt => ?_,?_,?_,?_⟩,A2,z5a g2,by rw [lA2,lA1,hRl],?_⟩
    · rw [hW2]; simp [z1]
    · rw [setRow_other _ _ k _ (by omega)]; exact o2 k hlt
    · rw [hW2,hW1]; rfl
    · rw [hW2,hW1]; rfl
    · rw [hW2,hW1]; rfl
    rw [hA2,hA1]
    simp only [List.take_zero,List.nil_append,Nat.zero_add,hvl]
    have : (vs ++ ROW.toList.drop 6).take 6 = vs := by rw [List.take_left' hvl]
    rw [this,List.take_left' (by rw [List.length_append,hvl,hcl,Nat.add_mul]; omega)]
  have hE1 : ∀ x,((w.alloc (.cells ROW 29)).drew).cell? x = W1.cell? x := fun x => by rw [hW1]; rfl
  have hWW : (w.alloc (.cells ROW 29)).drew = W1 := by rw [hW1]; rfl
  clear hcs hst hsz hmul hal hA1 hA2 lA1 lA2 hcl h1c h1v hROW hG hRl g1 g2 o1 o2 z1 hW1 hW2 hGK hRal
  go_enter Tryz.func115,Tryz.ntmps115
  go_wp2_with (first
    | (at_builtin; refine Lib.wpList_append_run _ rfl _ _ _ _ rfl _ _ rfl rfl _ _ (hrz _) ?_)
    | (at_builtin; refine wpList_copy_runI _ rfl _ _ 27 27 rfl _ _ rfl rfl (c1 _) ?_))
  go_region_law_o (refine step_copy_runI rfl _ _ 27 27 rfl _ _ (by simp [Act.eval,Act.put]) (by simp [Act.eval,Act.put]) (c2 _) ?_)
  go_wp2
  go_ret
  exact ⟨G,rfl,fin⟩
theorem zwq [PE.Ground] (a2 a1 : List (El (.user 3))) (h1 : a1.length = 1) (hn : 1 ≤ a2.length) (hn9 : a2.length ≤ 1000000000) (hf : Tryz.prog.funcs[115]? = some Tryz.f115) :
    PE.Spec Tryz.prog 115 [.row 0,.int .i64 0,.lst (.user 3) a1 0] [.row (.user 3) a2 0] (.row 1) [.dead] [.row (.user 3) (a1 ++ a2) 0] := by
  refine zbA hf (by kernel_rfl) fun cx I s w vs hG hw hargs => ?_
  have hh : get (z3U 0 [C.row (.user 3) a2 0]) 0 = some (C.row (.user 3) a2 0) := by rw [z0U]; rfl
  match vs,hargs with
  | [va,v1,v2],hargs =>
  simp only [z0s,repV] at hargs
  obtain ⟨⟨ha,_⟩,rfl,⟨hl,_⟩,_⟩ := hargs
  have hr := hw.cont 0 _ hh
  simp only [repC] at hr
  obtain ⟨base,c,k1,k2,k3⟩ := hr
  have k2 : a2.length ≤ c := k2
  rw [k1] at ha
  cases ha
  rcases k3 with k3 | ⟨b,rfl,arr,e,fr,q1,q2,q3,q4,q5,q6,q7⟩
  · omega
  have e1 : List.length (α := El (.user 3)) a1 = 1 := h1
  have e2 : List.length (α := El (.user 3)) a2 = a2.length := rfl
  rw [e1] at hl
  simp only [repD] at hl
  obtain ⟨base2,vc,rfl,_,hx⟩ := hl
  have hcl : (cellsD (.user 3) a1).length = 6 := by rw [z0J,e1]; rfl
  rcases hx with hx | ⟨vb,vo,rfl,hx⟩
  · rw [hx] at hcl; simp at hcl
  obtain ⟨cv,r1,r2⟩ := z7d _ _ hx
  have lcv := z0R _ _ r1
  rw [hcl] at lcv
  have hst : stands w vb vo cv := fun j v hj => hw.agree _ _ _ (r2 j v hj)
  have h0 := r2 0 _ (List.getElem?_eq_getElem (by omega))
  have hne : vb ≠ b := by rintro rfl; rw [q6 rfl] at h0; cases h0
  obtain ⟨arrv,ev,frv,hvb,hv0⟩ : ∃ arrv ev frv,w.heap[vb]? = some (.cells arrv ev frv) ∧ arrv.size ≠ 0 := by
    have h0' := hw.agree _ _ _ h0
    simp only [World.cell?] at h0'
    split at h0'
    · rename_i c' e' f' hb'
      refine ⟨_,_,_,hb',fun hz => ?_⟩
      rw [Array.getElem?_eq_none (by omega)] at h0'
      cases h0'
    · cases h0'
  have hsize : PE.size (.user 3) = 6 := rfl
  rw [hsize] at q3
  have hmark : ¬ (fr.1 ≤ arr.size ∧ arr.size < fr.2) := q2.2.resolve_left (fun h => by cases h)
  have hk := hw.kill 0
  have hkn : setF (get (z3U 0 [C.row (.user 3) a2 0])) 0 .dead 1 = none := by rw [z0A _ _ (by decide),z0U]; rfl
  have hblk : blk s 0 (.row (.user 3) a2 0) = some b := by
    obtain ⟨c',rfl⟩ : ∃ c',c = c' + 1 := ⟨c - 1,by omega⟩
    simp [blk,k1]
  have he : made 1 none (.user 3) (a1 ++ a2) 0 [] [] = some ⟨.row 1,[(1,.row (.user 3) (a1 ++ a2) 0)],[]⟩ := rfl
  have hlen : (a1 ++ a2).length = a2.length + 1 := by rw [List.length_append,h1]; omega
  have hlen' : List.length (α := El (.user 3)) (a1 ++ a2) = a2.length + 1 := hlen
  have hhp : ∀ c : C,addF [(1,c)] (setF (get (z3U 0 [C.row (.user 3) a2 0])) 0 .dead) = get (z3U 0 ([.dead] ++ [c])) := by
    intro c
    funext i
    rw [z0U]
    match i with
    | 0 => rfl
    | 1 => rfl
    | i + 2 => simp only [addF]; rw [z0A _ _ (by omega),z0A _ _ (by omega),z0U]; simp
  have hal : arr.toList.length = arr.size := Array.length_toList
  have hn2 : a2.length * 6 ≤ c * 6 := Nat.mul_le_mul_right _ k2
  by_cases hroom : a2.length + 1 ≤ c
  · refine (zuW b a2.length c vb vo vc w arr arrv e ev fr frv _ cv q1 q2.1 hmark q3 hn hn9 hroom hvb hv0 hne (by omega) hst rfl (fun v hv => z6M _ _ q4 v hv) (fun v hv => z6M _ _ r1 v hv)).mono ?_
    rintro x w' ⟨rfl,hbut,A,hA,hAs,hAt⟩
    obtain ⟨c0,f1,I',s',g1,g2,g3,g4⟩ := zl9 hk (b := b) hkn (fun i c0 h0 hb' => by
        by_cases hi' : i = 0
        · subst hi'; simp at h0; subst h0; simp [blk] at hb'
        · rw [z0A _ _ hi'] at h0
          exact hi' (hw.apart i 0 c0 _ b h0 hh hb' hblk))
      (hw.own 0 _ b hh hblk) he (cap := c) hbut hA (by rw [hAs]; exact q2) (by rw [hAs,q3,hsize]) (by rw [hlen']; exact hroom)
      (by
        rw [hlen',hsize,hAt,z2P]
        exact z2e _ _ _ _ r1 q4) (fun o v hv => by rw [q6 rfl] at hv; cases hv) (fun _ => q6 rfl) (by decide)
    simp only [List.cons.injEq,Prod.mk.injEq,true_and,and_true] at f1
    subst f1
    rw [hhp] at g3
    rw [hlen'] at g4
    exact ⟨I',s',g1,g2,g3,g4⟩
  · refine (zwk b a2.length c vb vo vc w arr arrv e ev fr frv _ cv q1 q3 hn k2 hn9 (by omega) hvb (by omega) hst rfl (fun v hv => z6M _ _ q4 v hv) (fun v hv => z6M _ _ r1 v hv)).mono ?_
    rintro x w' ⟨G,rfl,hG,hbut,A,hA,hAs,hAt⟩
    obtain ⟨c0,f1,I',s',g1,g2,g3,g4⟩ := zl9 hk (b := w.heap.size) hkn (fun i c0 h0 hb' => by have := hk.zkk h0 hb'; omega)
      (.inl hw.size) he (cap := G) hbut hA (zeE _ _) (by rw [hAs,hsize]) (by rw [hlen']; exact hG)
      (by
        rw [hlen',hsize,hAt,z2P]
        exact z2e _ _ _ _ r1 q4) (fun o v hv => by rw [hw.z2W] at hv; cases hv) (fun _ => hw.z2W) (by decide)
    simp only [List.cons.injEq,Prod.mk.injEq,true_and,and_true] at f1
    subst f1
    rw [hhp] at g3
    rw [hlen'] at g4
    exact ⟨I',s',g1,g2,g3,g4⟩
end Go.Proofs.YtifmnhcmmoacfaaGreatDoorQ
