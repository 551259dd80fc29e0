/- The law CredentialGets returns true for every list of numbers that it is handed and changes nothing: a credential gives each of its attributes by its name, a compact one none, and the digest of an attribute is the one that the credential holds at its place. Conditions: the package-level variables that the row lists hold at the start what the program's text lays in them (the card ties this); no other. -/
import Derived.Test.YtchpeafokjmmeaaGreatDoorQPc
import Derived.Test.YtchpeafokjmmeaaGreatDoorQBb
import Derived.Test.YtchpeafokjmmeaaGreatDoorQEf
import Derived.Test.YtchpeafokjmmeaaGreatDoorCards
import Derived.Test.YtchpeafokjmmeaaGreatDoorTie
import Derived.ProofKit
import Derived.Lay
import Derived.LaidOnce
import Derived.SevenTiedAt
set_option linter.unusedVariables false
set_option linter.unusedSimpArgs false
namespace Go.Proofs.YtchpeafokjmmeaaGreatDoor
open Go.ChangeShapes Go.WideShapes Go.ChangeAt Go.RowKit Go.PE
theorem same_of_heap {W W' : World} {p : MemPlace} (h : W'.heap[p.block]? = W.heap[p.block]?) : W.sameAt W' p := by
  cases p <;> simp only [World.sameAt,World.cell?,MemPlace.block] at h ⊢ <;> rw [h]
theorem Tryz.own : ownKnob Tryz.prog.godebug = none := by kernel_rfl
def zsC : List Int := [0,1,56,2,57,49,28,3,61,58,42,50,38,29,17,4,62,47,59,36,45,43,51,22,53,39,33,30,24,18,12,5,63,55,48,27,60,41,37,16,46,35,44,21,52,32,23,11,54,26,40,15,34,20,31,10,25,14,19,9,13,8,7,6]
theorem zwG {W : World} (h : laidMetH Tryz.prog Rows.credentialGetsRow.laid W) : Lib.TabIs Tryz.prog W "internal/strconv.uint64pow10" .u64 Lib.pow10Tab ∧ Lib.TabIs Tryz.prog W "math/bits.deBruijn64tab" .u8 zsC := by
  rw [MakeChecks.laidMetH_plain _ _ _ (by kernel_rfl)] at h
  have h1 := znF h
  have h2 := znF h1
  have e1 : (("math/bits.deBruijn64tab",Rows.laid_math_bits_deBruijn64tab) : String × DataW Unit) = ("math/bits.deBruijn64tab",Lib.tabData .u8 zsC) := by kernel_rfl
  have e2 : (("internal/strconv.uint64pow10",Rows.laid_internal_strconv_uint64pow10) : String × DataW Unit) = ("internal/strconv.uint64pow10",Lib.tabData .u64 Lib.pow10Tab) := by kernel_rfl
  rw [e1] at h1
  rw [e2] at h2
  exact ⟨Lib.tabIs_of_head (g := 2) (t := 254) (e := 167) (n := 20) (by kernel_rfl) (by kernel_rfl) (by kernel_rfl) (by kernel_rfl) (by kernel_rfl) (by kernel_rfl) h2,
    Lib.tabIs_of_head (g := 5) (t := 288) (e := 5) (n := 64) (by kernel_rfl) (by kernel_rfl) (by kernel_rfl) (by kernel_rfl) (by kernel_rfl) (by kernel_rfl) h1⟩
theorem zyl (v : Value) (xs : List Int) (W : World) (hv : repV (zp4 W) (fun _ => none) (.lst (.int .i64) xs 0) v) (hL : laidMetH Tryz.prog Rows.credentialGetsRow.laid W) :
    Calls Tryz.prog 3 #[v] W fun e W' => e = .returned (.bool true) ∧ W'.os = W.os ∧ W'.output = W.output ∧ ∀ i,i < W.heap.size → W'.heap[i]? = W.heap[i]? := by
  obtain ⟨t1,t2⟩ := zwG hL
  letI : PE.Ground := ⟨zp4 W⟩
  haveI : YtchpeafokjmmeaaGreatDoorQ.Tables := ⟨fun i hi => by
      have := t1.cell (g := 2) (by kernel_rfl) i (by rw [Lib.pow10Tab_length]; exact hi)
      rw [Lib.pow10Tab_at i hi] at this
      exact this,by
      have := t2.cell (g := 5) (by kernel_rfl) 15 (by decide)
      exact this⟩
  refine (zxL (fn := Tryz.f3) (I := zp4 W) (W := W) (vs := [v]) YtchpeafokjmmeaaGreatDoorQ.zDd (by kernel_rfl) (YtchpeafokjmmeaaGreatDoorQ.zgl 70000000 xs true (YtchpeafokjmmeaaGreatDoorQ.gets xs 70000000 (Nat.le_refl _))) (fun _ _ _ h => h) (fun _ _ _ h => h)
    (by simp only [z0v]; exact ⟨hv,trivial⟩)).mono fun e W' h => ?_
  obtain ⟨v,rfl,⟨I',s',_,_,hv⟩,h1,_,h2,h3⟩ := h
  simp only [repV] at hv
  subst hv
  exact ⟨rfl,h1,h2,h3⟩
set_option maxRecDepth 100000 in
theorem lifted (os : Os) (started : os.Started) (H : Type) (enc : TypeId × Value → H) :
    ReturnsInHanded {} Tryz.checked os 3 .any (fun w args => (Rows.credentialGetsSpec.pre enc Tryz.prog Tryz.f3 [] false w args ∧ laidMetH Tryz.prog Rows.credentialGetsRow.laid w) ∧ sizedMet enc Tryz.prog Tryz.f3 (OpenSpec.ofChange Rows.credentialGetsSpec) false w args)
      (Rows.credentialGetsSpec.post enc Tryz.prog Tryz.f3 false true false false) := by
  refine returnsInHanded_of_change_and (C := Tryz.checked) (X := fun w _ => laidMetH Tryz.prog Rows.credentialGetsRow.laid w) (fun _ _ _ hh h => h.of_heap hh) Tryz.own started (by kernel_rfl) Tryz.func3
    (ChangeSpec.witness_shaped (enc := enc) (C := Tryz.checked) (os := os) (X := fun w _ => laidMetH Tryz.prog Rows.credentialGetsRow.laid w) false (World.laidAll Tryz.prog os Rows.credentialGetsRow.laid) #[.slice none 0 0] 8 (World.laidAll_os _ _ _)
      (World.shaped_of_ZipB (by kernel_rfl) (by kernel_rfl)) (by kernel_rfl) (by kernel_rfl) (by kernel_rfl)
      (by rw [MakeChecks.laidMetH_plain _ _ _ (by kernel_rfl)]; exact laidMet_laidAll _ (by kernel_rfl) (by kernel_rfl))) ?_
  intro W base args ds gs before hval0 hW _ _ hL _
  have hval : ∀ (j : Nat) t v,Tryz.f3.params[j]? = some t → args[j]? = some v → Value.okWide Tryz.prog W .any base t v := hval0
  have hW' := hW
  obtain ⟨p,q,hA0,hV,rfl,hlt,_⟩ := hW
  have hA : DataW.TrodAll enc Tryz.prog W 0 (fun _ => true) true Tryz.f3.params.toList args.toList ds p := hA0
  rw [Tryz.params3] at hA hval
  obtain ⟨v0,d0,rfl,rfl,h0⟩ := trodAll_one hA
  obtain ⟨rfl,rfl⟩ := trodVars_none hV
  obtain ⟨xs,hxs⟩ := open_ints (t := 22) (e := 3) Tryz.underlying22 Tryz.underlying3 (by kernel_rfl) (hval 0 22 v0 rfl rfl) h0
  simp only [List.append_nil] at hW'
  refine (zyl v0 xs W hxs hL).mono fun e W' ⟨he,h1,h2,h3⟩ => ?_
  subst he
  have hp0 : ∀ q ∈ p,q.block < W.heap.size := fun q hq => hA.lt q hq
  have hst : DataW.Trod enc Tryz.prog W' 0 (fun b => decide (b < W.heap.size)) true 22 v0 d0 p := Go.WideElems.Trod_stays (by kernel_rfl) (by kernel_rfl) (of_decide_eq_true (by kernel_rfl)) h0 (fun p hp => same_of_heap (h3 _ (hp0 p hp))) (fun p hp => decide_eq_true (hp0 p hp))
  exact ⟨_,rfl,_,_,_,[],p,[],hW',trodAll_mk1 (shut_bool Tryz.underlying4 _),trodAll_mk1 hst,rfl,zqW h1 h2 h3,fun h => by cases h⟩
theorem zj0 : Rows.CredentialGetsSaid :=
  OpenClaim.holds_of_wide 3 Tryz.f3 rfl rfl rfl rfl rfl rfl rfl ⟨rfl,rfl,rfl,rfl,rfl⟩ rfl rfl rfl rfl rfl (by kernel_rfl) Tryz.func3 (by kernel_rfl)
    (of_decide_eq_true (by kernel_rfl)) (by unfold Func.isWrapper; first | (rw [if_pos (by decide +kernel)]; kernel_rfl) | (rw [if_neg (by decide +kernel)]; exact ⟨rfl,rfl⟩))
    (fun os started H enc _ => lifted os started H enc)
theorem credentialGets_card : Rows.CredentialGetsCardSaid :=
  Claim7.holds_tied_plain_at .later [] [.data,.data,.data,.data,.sentinel,.sentinel,.pinned] true (true,"e2e01af6ac6576619067aa8a9f581822247e4083724b38d5388a9437cb4ca0de") true
    zj0 (fun _ h => by cases h) (by kernel_rfl) (fun _ h => by cases h) credentialGets_row_tie rfl ⟨rfl,rfl⟩ (by kernel_rfl) rfl
    (fun f fn hf hfn => by
      obtain rfl : f = 3 := Option.some.inj ((show Tryz.prog.funcNamed "keyevent/keyeventlaw33.CredentialGets" = some 3 by kernel_rfl).symm.trans hf) |>.symm
      obtain rfl : fn = Tryz.f3 := (Option.some.inj (Tryz.func3.symm.trans hfn)).symm
      exact ⟨by kernel_rfl,fun j t ht => by
        rw [Tryz.params3] at ht
        have hm : t ∈ [22] := by simpa using Array.mem_of_getElem? ht
        have hall : ([22].all fun u => !Tryz.prog.wantsStandIn u) = true := by kernel_rfl
        exact (show Tryz.prog.wantsStandIn t = false by simpa using List.all_eq_true.1 hall t hm)⟩)
    (by kernel_rfl)
#print axioms credentialGets_card
end Go.Proofs.YtchpeafokjmmeaaGreatDoor
