/- The law SchemaBounds returns true for every three bytes that it is handed and changes nothing: a number or a text fits its field exactly within the bounds. Conditions: the package-level variables that the row lists hold at the start what the program's text lays in them (the card ties this); no other. -/
import Derived.Test.YtifmnhcmmoacfaaGreatDoorQP3
import Derived.Test.YtifmnhcmmoacfaaGreatDoorQLaw
import Derived.Test.YtifmnhcmmoacfaaGreatDoorQBridge
import Derived.Test.YtifmnhcmmoacfaaGreatDoorCards
import Derived.Test.YtifmnhcmmoacfaaGreatDoorTie
import Derived.ProofKit
import Derived.Lay
import Derived.LaidOnce
import Derived.SevenTiedAt
set_option linter.unusedVariables false
set_option linter.unusedSimpArgs false
namespace Go.Proofs.YtifmnhcmmoacfaaGreatDoor
open Go.ChangeShapes Go.WideShapes Go.ChangeAt Go.RowKit Go.PE

noncomputable instance noGround : PE.Ground := ⟨fun _ _ => none⟩

theorem Tryz.own : ownKnob Tryz.prog.godebug = none := by kernel_rfl

theorem bounds_call (a b c : Int) (ha : 0 ≤ a) (hb : 0 ≤ b) (hc : 0 ≤ c) (W : World) :
    Calls Tryz.prog 3 #[.int .u8 a, .int .u8 b, .int .u8 c] W fun e W' => e = .returned (.bool true) ∧ W'.os = W.os ∧ W'.output = W.output ∧ ∀ i, i < W.heap.size → W'.heap[i]? = W.heap[i]? := by
  refine (spec_calls (fn := Tryz.f3) (I := fun _ _ => none) (W := W) (vs := [.int .u8 a, .int .u8 b, .int .u8 c]) YtifmnhcmmoacfaaGreatDoorQ.f3_eq (by kernel_rfl) (YtifmnhcmmoacfaaGreatDoorQ.law32_SchemaBounds_ok 400 a b c true (YtifmnhcmmoacfaaGreatDoorQ.bounds a b c ha hb hc)) (fun _ _ _ h => h) (fun _ _ _ h => by cases h)
    (by simp only [repVs, repV]; exact ⟨trivial, trivial, trivial, trivial⟩)).mono fun e W' h => ?_
  obtain ⟨v, rfl, ⟨I', s', _, _, hv⟩, h1, _, h2, h3⟩ := h
  simp only [repV] at hv
  subst hv
  exact ⟨rfl, h1, h2, h3⟩

set_option maxRecDepth 100000 in
theorem lifted (os : Os) (started : os.Started) (H : Type) (enc : TypeId × Value → H) :
    ReturnsInHanded {} Tryz.checked os 3 .any (fun w args => (Rows.schemaBoundsSpec.pre enc Tryz.prog Tryz.f3 [] false w args ∧ laidMetH Tryz.prog Rows.schemaBoundsRow.laid w) ∧ sizedMet enc Tryz.prog Tryz.f3 (OpenSpec.ofChange Rows.schemaBoundsSpec) false w args)
      (Rows.schemaBoundsSpec.post enc Tryz.prog Tryz.f3 false true false false) := by
  refine returnsInHanded_of_change_and (C := Tryz.checked) (X := fun w _ => laidMetH Tryz.prog Rows.schemaBoundsRow.laid w) (fun _ _ _ hh h => h.of_heap hh) Tryz.own started (by kernel_rfl) Tryz.func3
    (ChangeSpec.witness_shaped (enc := enc) (C := Tryz.checked) (os := os) (X := fun w _ => laidMetH Tryz.prog Rows.schemaBoundsRow.laid w) false (World.laidAll Tryz.prog os Rows.schemaBoundsRow.laid) #[.int .u8 0, .int .u8 0, .int .u8 0] 8 (World.laidAll_os _ _ _)
      (World.shaped_of_ZipB (by kernel_rfl) (by kernel_rfl)) (by kernel_rfl) (by kernel_rfl) (by kernel_rfl)
      (by rw [MakeChecks.laidMetH_plain _ _ _ (by kernel_rfl)]; exact laidMet_laidAll _ (by kernel_rfl) (by kernel_rfl))) ?_
  intro W base args ds gs before hval0 hW _ _ hL _
  have hval : ∀ (j : Nat) t v, Tryz.f3.params[j]? = some t → args[j]? = some v → Value.okWide Tryz.prog W .any base t v := hval0
  have hW' := hW
  obtain ⟨p, q, hA0, hV, rfl, _, _⟩ := hW
  have hA : DataW.TrodAll enc Tryz.prog W 0 (fun _ => true) true Tryz.f3.params.toList args.toList ds p := hA0
  rw [Tryz.params3] at hA hval
  obtain ⟨v0, v1, v2, d0, d1, d2, p0, p1, p2, rfl, rfl, rfl, h0, h1, h2⟩ := trodAll_three hA
  obtain ⟨rfl, rfl⟩ := trodVars_none hV
  obtain ⟨x0, rfl, rfl, rfl, wx0⟩ := open_int Tryz.underlying5 (hval 0 5 v0 rfl rfl) h0
  obtain ⟨x1, rfl, rfl, rfl, wx1⟩ := open_int Tryz.underlying5 (hval 1 5 v1 rfl rfl) h1
  obtain ⟨x2, rfl, rfl, rfl, wx2⟩ := open_int Tryz.underlying5 (hval 2 5 v2 rfl rfl) h2
  simp only [List.append_nil] at hW'
  have n0 : 0 ≤ x0 := by have : 0 ≤ x0 ∧ x0 ≤ 255 := by simpa [Lit.wf, IntKind.min, IntKind.max, IntKind.signed, IntKind.bits] using wx0
                         exact this.1
  have n1 : 0 ≤ x1 := by have : 0 ≤ x1 ∧ x1 ≤ 255 := by simpa [Lit.wf, IntKind.min, IntKind.max, IntKind.signed, IntKind.bits] using wx1
                         exact this.1
  have n2 : 0 ≤ x2 := by have : 0 ≤ x2 ∧ x2 ≤ 255 := by simpa [Lit.wf, IntKind.min, IntKind.max, IntKind.signed, IntKind.bits] using wx2
                         exact this.1
  refine (bounds_call x0 x1 x2 n0 n1 n2 W).mono fun e W' ⟨he, h1, h2, h3⟩ => ?_
  subst he
  exact ⟨_, rfl, _, _, _, [], [], [], hW', trodAll_mk1 (shut_bool Tryz.underlying4 _), trodAll_mk3 (shut_int Tryz.underlying5 wx0) (shut_int Tryz.underlying5 wx1) (shut_int Tryz.underlying5 wx2), rfl, keptBut_of_same h1 h2 h3, fun h => by cases h⟩

theorem schemaBounds_holds : Rows.SchemaBoundsSaid :=
  OpenClaim.holds_of_wide 3 Tryz.f3 rfl rfl rfl rfl rfl rfl rfl ⟨rfl, rfl, rfl, rfl, rfl⟩ rfl rfl rfl rfl rfl (by kernel_rfl) Tryz.func3 (by kernel_rfl)
    (of_decide_eq_true (by kernel_rfl)) (by unfold Func.isWrapper; first | (rw [if_pos (by decide +kernel)]; kernel_rfl) | (rw [if_neg (by decide +kernel)]; exact ⟨rfl, rfl⟩))
    (fun os started H enc _ => lifted os started H enc)

theorem schemaBounds_card : Rows.SchemaBoundsCardSaid :=
  Claim7.holds_tied_plain_at .later [] [.data, .data, .data, .data, .sentinel, .sentinel, .pinned] true (true, "33315e7b24fa76ca0d0b399982fdd5b241f1a6cd89757ff557b5f543aceb50a0") true
    schemaBounds_holds (fun _ h => by cases h) (by kernel_rfl) (fun _ h => by cases h) schemaBounds_row_tie rfl ⟨rfl, rfl⟩ (by kernel_rfl) rfl
    (fun f fn hf hfn => by
      obtain rfl : f = 3 := Option.some.inj ((show Tryz.prog.funcNamed "keyevent/keyeventlaw32.SchemaBounds" = some 3 by kernel_rfl).symm.trans hf) |>.symm
      obtain rfl : fn = Tryz.f3 := (Option.some.inj (Tryz.func3.symm.trans hfn)).symm
      exact ⟨by kernel_rfl, fun j t ht => by
        rw [Tryz.params3] at ht
        have hm : t ∈ [5, 5, 5] := by simpa using Array.mem_of_getElem? ht
        have hall : ([5, 5, 5].all fun u => !Tryz.prog.wantsStandIn u) = true := by kernel_rfl
        exact (show Tryz.prog.wantsStandIn t = false by simpa using List.all_eq_true.1 hall t hm)⟩)
    (by kernel_rfl)
#print axioms schemaBounds_card
end Go.Proofs.YtifmnhcmmoacfaaGreatDoor
