import Derived.Test.YtifmnhcmmoacfaaGreatDoorQDefs
set_option linter.unusedVariables false
set_option linter.unusedSimpArgs false
set_option maxRecDepth 100000
namespace Go.Proofs.YtifmnhcmmoacfaaGreatDoorQ
open Go Go.PE

theorem wi64 {n : Int} (h0 : -9223372036854775808 ≤ n) (h1 : n < 9223372036854775808) : w_i64 n = n := by
  have e : w_i64 n = if (decide (n % 18446744073709551616 ≥ 9223372036854775808)) = true then n % 18446744073709551616 - 18446744073709551616 else n % 18446744073709551616 := rfl
  rw [e]
  simp only [decide_eq_true_eq]
  split <;> omega

theorem loop (p0 p1 : Int) (p5 p6 : T_api_Field) (v m : Nat) (hv : v < 1000) : ∀ k j : Nat, j + k = v →
    law32_SchemaBounds_l1 (m + k + 1) p0 p1 v v j p5 p6 (List.replicate j 97 ++ List.replicate k 0) = some (p0, p1, (v : Int), p5, p6, List.replicate v 97)
  | 0, j, h => by
    have : j = v := by omega
    subst this
    rw [law32_SchemaBounds_l1.eq_2]
    simp
  | k + 1, j, h => by
    have hlt : ((j : Int) < (v : Int)) := by omega
    have hw : within (j : Int) (List.replicate j (97 : Int) ++ List.replicate (k + 1) 0).length := by
      simp only [List.length_append, List.length_replicate]
      exact ⟨by omega, by omega⟩
    have hj : w_i64 ((j : Int) + 1) = ((j + 1 : Nat) : Int) := by rw [wi64 (by omega) (by omega)]; rfl
    have hset : (List.replicate j (97 : Int) ++ List.replicate (k + 1) 0).set ((j : Int)).toNat 97 = List.replicate (j + 1) 97 ++ List.replicate k 0 := by
      have e : (List.replicate (k + 1) (0 : Int)).set 0 97 = 97 :: List.replicate k 0 := by rw [List.replicate_succ, List.set_cons_zero]
      rw [List.set_append, if_neg (by simp), Int.toNat_natCast, List.length_replicate, Nat.sub_self, e, List.replicate_succ' (n := j), List.append_assoc]
      rfl
    rw [law32_SchemaBounds_l1.eq_2, if_pos (by simpa using hlt), if_pos hw, if_pos hw, hset, hj]
    exact loop p0 p1 p5 p6 v m hv k (j + 1) (by omega)

theorem number_fits (x lo hi : Int) : schema_Fits 400 (⟨([110] : Str), 2, false, lo, hi⟩ : T_api_Field) ⟨2, false, x, [], [], []⟩ = some (decide (x ≥ lo) && decide (x ≤ hi)) := by kernel_rfl

theorem texts_valid : (List.range 80).all (fun v => node_Valid 400 (⟨3, false, 0, List.replicate v 97, [], []⟩ : T_api_Node) == some true) = true := by kernel_rfl

theorem text_valid {v : Nat} (h : v < 80) : node_Valid 400 (⟨3, false, 0, List.replicate v 97, [], []⟩ : T_api_Node) = some true := by
  have := List.all_eq_true.1 texts_valid v (by simpa using h)
  simpa using this

theorem text_fits {v : Nat} (h : v < 80) (lo hi : Int) : schema_Fits 400 (⟨([116] : Str), 1, false, lo, hi⟩ : T_api_Field) ⟨3, false, 0, List.replicate v 97, [], []⟩ = some (decide ((v : Int) ≥ lo) && decide ((v : Int) ≤ hi)) := by
  rw [schema_Fits.eq_1, text_valid h]
  simp [schema_Fits_1]

theorem number_no (lo hi : Int) : schema_Fits 400 (⟨([110] : Str), 2, false, lo, hi⟩ : T_api_Field) ⟨3, false, 0, [49], [], []⟩ = some false := by kernel_rfl
theorem text_no (lo hi : Int) : schema_Fits 400 (⟨([116] : Str), 1, false, lo, hi⟩ : T_api_Field) ⟨2, false, 1, [], [], []⟩ = some false := by kernel_rfl
theorem digest_fits : (play_Digest 400 ([97] : Str) >>= fun b => schema_Fits 400 (⟨[], 3, false, 0, 0⟩ : T_api_Field) ⟨3, false, 0, b, [], []⟩) = some true := by kernel_rfl
theorem digest_no : schema_Fits 400 (⟨[], 3, false, 0, 0⟩ : T_api_Field) ⟨3, false, 0, [97], [], []⟩ = some false := by kernel_rfl
theorem awake : law32_awake 400 = some true := by kernel_rfl

attribute [local irreducible] law32_SchemaBounds_l1 schema_Fits play_Digest law32_awake

theorem strOf_a (v : Nat) : strOf (List.replicate v 97) = List.replicate v 97 := by simp [strOf, rd8]

theorem bounds (a0 a1 a2 : Int) (h0 : 0 ≤ a0) (h1 : 0 ≤ a1) (h2 : 0 ≤ a2) : law32_SchemaBounds 400 a0 a1 a2 = some true := by
  have e0 : Int.tmod a0 40 = a0 % 40 := Int.tmod_eq_emod_of_nonneg h0
  have e1 : Int.tmod a1 30 = a1 % 30 := Int.tmod_eq_emod_of_nonneg h1
  have e2 : Int.tmod a2 80 = a2 % 80 := Int.tmod_eq_emod_of_nonneg h2
  have r0 : 0 ≤ a0 % 40 ∧ a0 % 40 < 40 := ⟨by omega, by omega⟩
  have r1 : 0 ≤ a1 % 30 ∧ a1 % 30 < 30 := ⟨by omega, by omega⟩
  have r2 : 0 ≤ a2 % 80 ∧ a2 % 80 < 80 := ⟨by omega, by omega⟩
  unfold law32_SchemaBounds
  rw [e0, e1, e2]
  generalize a0 % 40 = a at r0
  generalize a1 % 30 = n at r1
  generalize a2 % 80 = z at r2
  obtain ⟨v, rfl⟩ : ∃ v : Nat, z = v := ⟨z.toNat, by omega⟩
  have hv : v < 80 := by omega
  rw [wi64 (n := a) (by omega) (by omega), wi64 (n := n) (by omega) (by omega), wi64 (n := (v : Int)) (by omega) (by omega), wi64 (n := a - 20) (by omega) (by omega), wi64 (n := a - 20 + n) (by omega) (by omega), wi64 (n := a + n) (by omega) (by omega)]
  have hmk : cMk (v : Int) v 1 := ⟨by omega, by omega, by omega, by omega⟩
  rw [if_pos hmk, Int.toNat_natCast, List.length_replicate]
  have hl := loop a n ⟨[110], 2, false, a - 20, a - 20 + n⟩ ⟨[116], 1, false, a, a + n⟩ v (399 - v) (by omega) v 0 (by omega)
  rw [show 399 - v + v + 1 = 400 by omega] at hl
  have hl' : law32_SchemaBounds_l1 400 a n v v 0 ⟨[110], 2, false, a - 20, a - 20 + n⟩ ⟨[116], 1, false, a, a + n⟩ (List.replicate v 0) = some (a, n, (v : Int), ⟨[110], 2, false, a - 20, a - 20 + n⟩, ⟨[116], 1, false, a, a + n⟩, List.replicate v 97) := by simpa using hl
  rw [hl']
  simp only [Option.bind_eq_bind, Option.bind_some, ref05_Number, ref05_Text, strOf_a, number_fits, text_fits hv, number_no, text_no, digest_no, awake]
  rw [wi64 (n := (v : Int) - 20) (by omega) (by omega), wi64 (n := a + n) (by omega) (by omega)]
  have hd := digest_fits
  have b1 : (decide ((v : Int) - 20 ≥ a - 20) && decide ((v : Int) - 20 ≤ a - 20 + n)) = (decide ((v : Int) ≥ a) && decide ((v : Int) ≤ a + n)) := by
    congr 1 <;> (apply decide_eq_decide.2; omega)
  rw [b1]
  cases hp : play_Digest 400 ([97] : Str) with
  | none => rw [hp] at hd; cases hd
  | some b =>
    rw [hp] at hd
    simp only [Option.bind_eq_bind, Option.bind_some] at hd
    simp [hd]

end Go.Proofs.YtifmnhcmmoacfaaGreatDoorQ
