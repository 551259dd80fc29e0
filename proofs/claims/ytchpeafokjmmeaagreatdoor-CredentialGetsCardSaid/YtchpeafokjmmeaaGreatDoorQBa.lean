/- What holds from some fuel on, and numbers in their kinds. -/
import Derived.Test.YtchpeafokjmmeaaGreatDoorQEa
import Derived.Test.YtchpeafokjmmeaaGreatDoorQTb
import Derived.Test.YtchpeafokjmmeaaGreatDoorQTa
set_option linter.unusedVariables false
set_option linter.unusedSimpArgs false
namespace Go.Proofs.YtchpeafokjmmeaaGreatDoorQ
open Go Go.PE
theorem bs {α β : Type} (x : α) (f : α → Option β) : (some x >>= f) = f x := by
  have h : ∀ y,y = f x → (some x >>= f) = y := fun y e => e ▸ rfl
  exact h _ rfl
def Ev (p : Nat → Prop) : Prop := ∃ N,∀ n,N ≤ n → p n
theorem Ev.all {p : Nat → Prop} (h : ∀ n,p n) : Ev p := ⟨0,fun n _ => h n⟩
theorem Ev.from {p : Nat → Prop} (N : Nat) (h : ∀ n,N ≤ n → p n) : Ev p := ⟨N,h⟩
theorem Ev.mp {p q : Nat → Prop} (h : Ev p) (f : Ev fun n => p n → q n) : Ev q :=
  let ⟨N,a⟩ := h; let ⟨M,b⟩ := f; ⟨N + M,fun n hn => b n (by omega) (a n (by omega))⟩
theorem Ev.map {p q : Nat → Prop} (h : Ev p) (f : ∀ n,p n → q n) : Ev q := h.mp (.all f)
theorem Ev.and {p q : Nat → Prop} (h : Ev p) (g : Ev q) : Ev fun n => p n ∧ q n := h.mp (g.map fun _ b a => ⟨a,b⟩)
theorem Ev.succ {p : Nat → Prop} (h : Ev fun n => p (n + 1)) : Ev p :=
  let ⟨N,a⟩ := h; ⟨N + 1,fun n hn => by obtain ⟨m,rfl⟩ : ∃ m,n = m + 1 := ⟨n - 1,by omega⟩; exact a m (by omega)⟩
theorem Ev.const {p : Prop} (h : Ev fun _ => p) : p := let ⟨N,a⟩ := h; a N (Nat.le_refl N)
theorem Ev.ex {p : Nat → Prop} (h : Ev p) : ∃ n,p n := let ⟨N,a⟩ := h; ⟨N,a N (Nat.le_refl N)⟩
theorem Ev.up {α : Type} {f : Nat → Option α} {r : α} (N : Nat) (h : f N = some r) (up : ∀ n r,f n = some r → f (n + 1) = some r) : Ev fun n => f n = some r :=
  ⟨N,fun n hn => by
    induction n with
    | zero => obtain rfl : N = 0 := by omega
              exact h
    | succ n ih => by_cases e : N = n + 1
                   · subst e; exact h
                   · exact up _ _ (ih (by omega))⟩
theorem Ev.uniq {α : Type} {f : Nat → Option α} {r s : α} (h : Ev fun n => f n = some r) (g : Ev fun n => f n = some s) : r = s :=
  (h.mp (g.map fun _ b a => Option.some.inj (a.symm.trans b))).const
def Ans {α : Type} (f : Nat → Option α) (P : α → Prop) : Prop := ∃ r,P r ∧ Ev fun n => f n = some r
theorem Ans.bind {α β : Type} {f : Nat → Option α} {g : Nat → α → Option β} {P : α → Prop} {Q : β → Prop} (h : Ans f P) (k : ∀ r,P r → Ans (fun n => g n r) Q) : Ans (fun n => f n >>= g n) Q := by
  obtain ⟨r,hr,e⟩ := h
  obtain ⟨s,hs,d⟩ := k r hr
  exact ⟨s,hs,e.mp (d.map fun n b a => by simp only [a,Option.bind_eq_bind,Option.bind_some,b])⟩
theorem Ans.mono {α : Type} {f : Nat → Option α} {P Q : α → Prop} (h : Ans f P) (k : ∀ r,P r → Q r) : Ans f Q := let ⟨r,a,b⟩ := h; ⟨r,k r a,b⟩
theorem Ans.some {α : Type} {r : α} {P : α → Prop} (h : P r) : Ans (fun _ => some r) P := ⟨r,h,.all fun _ => rfl⟩
theorem Ans.ite {α : Type} {c : Prop} [Decidable c] {f : Nat → Option α} {g : Nat → Option α} {P : α → Prop} (h : c) (k : Ans f P) : Ans (fun n => if c then f n else g n) P := by simpa only [if_pos h] using k
theorem wi64 {n : Int} (h0 : -9223372036854775808 ≤ n) (h1 : n < 9223372036854775808) : z07 n = n := by
  have e : z07 n = if (decide (n % 18446744073709551616 ≥ 9223372036854775808)) = true then n % 18446744073709551616 - 18446744073709551616 else n % 18446744073709551616 := rfl
  rw [e]
  simp only [decide_eq_true_eq]
  split <;> omega
theorem wu64 {n : Int} (h0 : 0 ≤ n) (h1 : n < 18446744073709551616) : z3S n = n := by
  have e : z3S n = n % 18446744073709551616 := rfl
  rw [e]; omega
theorem wu32 {n : Int} (h0 : 0 ≤ n) (h1 : n < 4294967296) : z0Z n = n := by
  have e : z0Z n = n % 4294967296 := rfl
  rw [e]; omega
theorem wu8 {n : Int} (h0 : 0 ≤ n) (h1 : n < 256) : w_u8 n = n := by
  have e : w_u8 n = n % 256 := rfl
  rw [e]; omega
theorem zCo (n : Int) : 0 ≤ z0Z n ∧ z0Z n < 4294967296 := by
  have e : z0Z n = n % 4294967296 := rfl
  rw [e]; omega
theorem zDn (n : Int) : 0 ≤ w_u8 n ∧ w_u8 n < 256 := by
  have e : w_u8 n = n % 256 := rfl
  rw [e]; omega
theorem z8L (s : List UInt8) (i : Int) : 0 ≤ bt s i ∧ bt s i < 256 := by
  have := (s.getD i.toNat 0).toNat_lt
  unfold bt; omega
theorem zBL (b : UInt8) : rd8 (wr8 b) = b := by simp [rd8,wr8]
theorem zcs (s : List UInt8) : strOf (bytesOf s) = s := by simp [strOf,bytesOf,Function.comp_def,zBL]
theorem z5V (l : List UInt8) : (bytesOf l).length = l.length := by simp [bytesOf]
theorem z1j (l : List Int) : (strOf l).length = l.length := by simp [strOf]
theorem zeu (a b : List UInt8) : bytesOf (a ++ b) = bytesOf a ++ bytesOf b := by simp [bytesOf]
theorem z4L (a b : List Int) : strOf (a ++ b) = strOf a ++ strOf b := by simp [strOf]
theorem zyF {n : Int} (h0 : 0 ≤ n) (h1 : n < 256) : wr8 (rd8 n) = n := by
  simp only [wr8,rd8,UInt8.toNat_ofNat']; omega
theorem zzX {l : List Int} (h : ∀ x ∈ l,0 ≤ x ∧ x < 256) : bytesOf (strOf l) = l := by
  induction l with
  | nil => rfl
  | cons a r ih => simp only [strOf,bytesOf,List.map_cons,List.map_map] at *; rw [zyF (h a (by simp)).1 (h a (by simp)).2,ih fun x hx => h x (by simp [hx])]
theorem zzz (k : IntKind) (a b : Int) : ior k a b = ior k b a := by simp only [ior,zxU,BitVec.or_comm]
theorem zDv (k : IntKind) (a b : Int) : ixor k a b = ixor k b a := by simp only [ixor,zxU,BitVec.xor_comm]
end Go.Proofs.YtchpeafokjmmeaaGreatDoorQ
set_option maxRecDepth 100000
set_option maxHeartbeats 2000000
namespace Go.Proofs.YtchpeafokjmmeaaGreatDoorQ
open Go Go.PE
def rotR (x k : Int) : Int := ior .u32 (shr .u32 x k) (shl .u32 x (32 - k))
def wordAt (s : Str) (i : Int) : Int := ior .u32 (ior .u32 (ior .u32 (shl .u32 (z0Z (bt s i)) 24) (shl .u32 (z0Z (bt s (i + 1))) 16)) (shl .u32 (z0Z (bt s (i + 2))) 8)) (z0Z (bt s (i + 3)))
def zj7 (s : Str) : Nat → Int → List Int → List Int
  | 0,_,w => w
  | k + 1,t,w => zj7 s k (t + 1) (w.set t.toNat (wordAt s (4 * t)))
def zCz (w : List Int) (t : Int) : Int := z0Z ((z0Z ((z0Z ((ixor .u32 (ixor .u32 (rotR (rd 0 w (t - 2)) 17) (rotR (rd 0 w (t - 2)) 19)) (shr .u32 (rd 0 w (t - 2)) 10)) + (rd 0 w (t - 7)))) + (ixor .u32 (ixor .u32 (rotR (rd 0 w (t - 15)) 7) (rotR (rd 0 w (t - 15)) 18)) (shr .u32 (rd 0 w (t - 15)) 3)))) + (rd 0 w (t - 16)))
def zjF : Nat → Int → List Int → List Int
  | 0,_,w => w
  | k + 1,t,w => zjF k (t + 1) (w.set t.toNat (zCz w t))
def t1F (K w v : List Int) (t : Int) : Int := z0Z ((z0Z ((z0Z ((z0Z ((rd 0 v 7) + (ixor .u32 (ixor .u32 (rotR (rd 0 v 4) 6) (rotR (rd 0 v 4) 11)) (rotR (rd 0 v 4) 25)))) + (ixor .u32 (iand .u32 (rd 0 v 4) (rd 0 v 5)) (iand .u32 (ixor .u32 4294967295 (rd 0 v 4)) (rd 0 v 6))))) + (rd 0 K t))) + (rd 0 w t))
def t2F (v : List Int) : Int := z0Z ((ixor .u32 (ixor .u32 (rotR (rd 0 v 0) 2) (rotR (rd 0 v 0) 13)) (rotR (rd 0 v 0) 22)) + (ixor .u32 (ixor .u32 (iand .u32 (rd 0 v 0) (rd 0 v 1)) (iand .u32 (rd 0 v 0) (rd 0 v 2))) (iand .u32 (rd 0 v 1) (rd 0 v 2))))
def zDp (K w v : List Int) (t : Int) : List Int := [z0Z (t1F K w v t + t2F v),rd 0 v 0,rd 0 v 1,rd 0 v 2,z0Z (rd 0 v 3 + t1F K w v t),rd 0 v 4,rd 0 v 5,rd 0 v 6]
def zsm (K w : List Int) : Nat → Int → List Int → List Int
  | 0,_,v => v
  | k + 1,t,v => zsm K w k (t + 1) (zDp K w v t)
def sumF (h : List Int) : Nat → Int → List Int → List Int
  | 0,_,v => v
  | k + 1,t,v => sumF h k (t + 1) (v.set t.toNat (z0Z (rd 0 v t + rd 0 h t)))
def zfx (h K : List Int) (s : Str) : List Int := sumF h 8 0 (zsm K (zjF 48 16 (zj7 s 16 0 (List.replicate 64 (0 : Int)))) 64 0 h)
theorem zpI (s : Str) : ∀ k t w,(zj7 s k t w).length = w.length
  | 0,_,_ => rfl
  | k + 1,t,w => by rw [zj7,zpI s k]; simp
theorem zmo : ∀ k t w,(zjF k t w).length = w.length
  | 0,_,_ => rfl
  | k + 1,t,w => by rw [zjF,zmo k]; simp
theorem ziQ (K w : List Int) : ∀ k t v,v.length = 8 → (zsm K w k t v).length = 8
  | 0,_,_,h => h
  | k + 1,t,v,h => by rw [zsm]; exact ziQ K w k _ _ rfl
theorem zxg (h : List Int) : ∀ k t v,(sumF h k t v).length = v.length
  | 0,_,_ => rfl
  | k + 1,t,v => by rw [sumF,zxg h k]; simp
theorem ziU {h K : List Int} (s : Str) (hh : h.length = 8) : (zfx h K s).length = 8 := by
  rw [zfx,zxg,ziQ _ _ _ _ _ hh]
theorem z3P (n : Nat) (x k : Int) (h : k ∈ [7,18,17,19,6,11,25,2,13,22]) : z4c n x k = some (rotR x k) := by
  simp only [List.mem_cons,List.not_mem_nil,or_false] at h
  rcases h with h | h | h | h | h | h | h | h | h | h <;> (subst h; rw [rotR,zzz]; rfl)
theorem z3f (n : Nat) (x k : Int) (h : k ∈ [7,18,17,19,6,11,25,2,13,22]) : z3i n x k = some (rotR x k) := by
  simp only [List.mem_cons,List.not_mem_nil,or_false] at h
  rcases h with h | h | h | h | h | h | h | h | h | h <;> (subst h; rfl)
theorem zi7 (s : Str) (j : Nat) (i : Int) (hi : 0 ≤ i) : bt (s.drop j) i = bt s (j + i) := by
  obtain ⟨m,rfl⟩ := Int.eq_ofNat_of_zero_le hi
  simp only [bt,Int.toNat_natCast,← Int.natCast_add,List.getD_eq_getElem?_getD,List.getElem?_drop]
theorem zuh (n : Nat) (s : Str) (t : Int) (h0 : 0 ≤ t) (h1 : 4 * t + 4 ≤ s.length) : zcD n (s.drop (4 * t).toNat) = some (wordAt s (4 * t)) := by
  have hl : (s.drop (4 * t).toNat).length = s.length - (4 * t).toNat := List.length_drop
  have q : (((4 * t).toNat : Nat) : Int) = 4 * t := by omega
  rw [zcD,if_pos ⟨by omega,by omega⟩,if_pos ⟨by omega,by omega⟩,if_pos ⟨by omega,by omega⟩,if_pos ⟨by omega,by omega⟩,wordAt,zi7 _ _ _ (by omega),zi7 _ _ _ (by omega),zi7 _ _ _ (by omega),zi7 _ _ _ (by omega),q,Int.add_zero]
theorem zeP : ∀ (k m : Nat) (t : Int) (s : Str) (a b w : List Int),t + k = 16 → 0 ≤ t → 64 ≤ s.length → w.length = 64 → z4B (m + k + 1) s t a b w = some (a,b,zj7 s k t w)
  | 0,m,t,s,a,b,w,h,h0,hs,hw => by
    obtain rfl : t = 16 := by omega
    rw [z4B.eq_2]; rfl
  | k + 1,m,t,s,a,b,w,h,h0,hs,hw => by
    have e4 : z07 (4 * t) = 4 * t := wi64 (by omega) (by omega)
    have e1 : z07 (t + 1) = t + 1 := wi64 (by omega) (by omega)
    have hw' : within t w.length := ⟨by omega,by omega⟩
    rw [z4B.eq_2,if_pos (by simp; omega),e4,if_pos ⟨by omega,by omega⟩,zuh _ _ _ h0 (by omega),bs,if_pos hw',if_pos hw,if_pos hw',e1]
    exact zeP k m (t + 1) s a b _ (by omega) (by omega) hs (by simpa using hw)
theorem zvI : ∀ (k m : Nat) (t : Int) (s : Str) (a b w : List Int),t + k = 16 → 0 ≤ t → 64 ≤ s.length → w.length = 64 → z2W (m + k + 1) s t a b w = some (a,b,zj7 s k t w)
  | 0,m,t,s,a,b,w,h,h0,hs,hw => by
    obtain rfl : t = 16 := by omega
    rw [z2W.eq_2]; rfl
  | k + 1,m,t,s,a,b,w,h,h0,hs,hw => by
    have e4 : z07 (4 * t) = 4 * t := wi64 (by omega) (by omega)
    have e5 : z07 (4 * t + 1) = 4 * t + 1 := wi64 (by omega) (by omega)
    have e6 : z07 (4 * t + 2) = 4 * t + 2 := wi64 (by omega) (by omega)
    have e7 : z07 (4 * t + 3) = 4 * t + 3 := wi64 (by omega) (by omega)
    have e1 : z07 (t + 1) = t + 1 := wi64 (by omega) (by omega)
    have hw' : within t w.length := ⟨by omega,by omega⟩
    rw [z2W.eq_2,if_pos (by simp; omega),e4,e5,e6,e7,if_pos ⟨by omega,by omega⟩,if_pos ⟨by omega,by omega⟩,if_pos ⟨by omega,by omega⟩,if_pos ⟨by omega,by omega⟩,if_pos hw',if_pos hw,if_pos hw',e1]
    exact zvI k m (t + 1) s a b _ (by omega) (by omega) hs (by simpa using hw)
theorem zeS : ∀ (k m : Nat) (t : Int) (a b w : List Int),t + k = 64 → 16 ≤ t → w.length = 64 → z4x (m + k + 1) t a b w = some (a,b,zjF k t w)
  | 0,m,t,a,b,w,h,h0,hw => by
    obtain rfl : t = 64 := by omega
    rw [z4x.eq_2]; rfl
  | k + 1,m,t,a,b,w,h,h0,hw => by
    have e1 : z07 (t + 1) = t + 1 := wi64 (by omega) (by omega)
    have e2 : z07 (t - 2) = t - 2 := wi64 (by omega) (by omega)
    have e7 : z07 (t - 7) = t - 7 := wi64 (by omega) (by omega)
    have e15 : z07 (t - 15) = t - 15 := wi64 (by omega) (by omega)
    have e16 : z07 (t - 16) = t - 16 := wi64 (by omega) (by omega)
    have h2 : within (t - 2) w.length := ⟨by omega,by omega⟩
    have h7 : within (t - 7) w.length := ⟨by omega,by omega⟩
    have h15 : within (t - 15) w.length := ⟨by omega,by omega⟩
    have h16 : within (t - 16) w.length := ⟨by omega,by omega⟩
    have hw' : within t w.length := ⟨by omega,by omega⟩
    rw [z4x.eq_2,if_pos (by simp; omega),e1,e2,e7,e15,e16,z3f _ _ _ (by simp),z3f _ _ _ (by simp),z3f _ _ _ (by simp),z3f _ _ _ (by simp)]
    simp only [bs,if_pos h2,if_pos h7,if_pos h15,if_pos h16,if_pos hw',if_pos hw]
    exact zeS k m (t + 1) a b _ (by omega) (by omega) (by simpa using hw)
theorem zva : ∀ (k m : Nat) (t : Int) (a b w : List Int),t + k = 64 → 16 ≤ t → w.length = 64 → z2T (m + k + 1) t a b w = some (a,b,zjF k t w)
  | 0,m,t,a,b,w,h,h0,hw => by
    obtain rfl : t = 64 := by omega
    rw [z2T.eq_2]; rfl
  | k + 1,m,t,a,b,w,h,h0,hw => by
    have e1 : z07 (t + 1) = t + 1 := wi64 (by omega) (by omega)
    have e2 : z07 (t - 2) = t - 2 := wi64 (by omega) (by omega)
    have e7 : z07 (t - 7) = t - 7 := wi64 (by omega) (by omega)
    have e15 : z07 (t - 15) = t - 15 := wi64 (by omega) (by omega)
    have e16 : z07 (t - 16) = t - 16 := wi64 (by omega) (by omega)
    have h2 : within (t - 2) w.length := ⟨by omega,by omega⟩
    have h7 : within (t - 7) w.length := ⟨by omega,by omega⟩
    have h15 : within (t - 15) w.length := ⟨by omega,by omega⟩
    have h16 : within (t - 16) w.length := ⟨by omega,by omega⟩
    have hw' : within t w.length := ⟨by omega,by omega⟩
    rw [z2T.eq_2,if_pos (by simp; omega),e1,e2,e7,e15,e16,z3P _ _ _ (by simp),z3P _ _ _ (by simp),z3P _ _ _ (by simp),z3P _ _ _ (by simp)]
    simp only [bs,if_pos h2,if_pos h7,if_pos h15,if_pos h16,if_pos hw',if_pos hw]
    exact zva k m (t + 1) a b _ (by omega) (by omega) (by simpa using hw)
theorem zfG : ∀ (k m : Nat) (t : Int) (a K w v : List Int),t + k = 64 → 0 ≤ t → K.length = 64 → w.length = 64 → v.length = 8 → z4F (m + k + 1) t a K w v = some (a,zsm K w k t v)
  | 0,m,t,a,K,w,v,h,h0,hK,hw,hv => by
    obtain rfl : t = 64 := by omega
    rw [z4F.eq_2]; rfl
  | k + 1,m,t,a,K,w,v,h,h0,hK,hw,hv => by
    have e1 : z07 (t + 1) = t + 1 := wi64 (by omega) (by omega)
    have g0 : within 0 v.length := ⟨by omega,by omega⟩
    have g1 : within 1 v.length := ⟨by omega,by omega⟩
    have g2 : within 2 v.length := ⟨by omega,by omega⟩
    have g3 : within 3 v.length := ⟨by omega,by omega⟩
    have g4 : within 4 v.length := ⟨by omega,by omega⟩
    have g5 : within 5 v.length := ⟨by omega,by omega⟩
    have g6 : within 6 v.length := ⟨by omega,by omega⟩
    have g7 : within 7 v.length := ⟨by omega,by omega⟩
    have gK : within t K.length := ⟨by omega,by omega⟩
    have gw : within t w.length := ⟨by omega,by omega⟩
    rw [z4F.eq_2,if_pos (by simp; omega),e1,z3f _ _ _ (by simp),z3f _ _ _ (by simp),z3f _ _ _ (by simp),z3f _ _ _ (by simp),z3f _ _ _ (by simp),z3f _ _ _ (by simp)]
    simp only [bs,if_pos g0,if_pos g1,if_pos g2,if_pos g3,if_pos g4,if_pos g5,if_pos g6,if_pos g7,if_pos gK,if_pos gw,if_pos hK,if_pos hw,if_pos hv]
    exact zfG k m (t + 1) a K w _ (by omega) (by omega) hK hw rfl
theorem zvp : ∀ (k m : Nat) (t : Int) (a K w v : List Int),t + k = 64 → 0 ≤ t → K.length = 64 → w.length = 64 → v.length = 8 → z3a (m + k + 1) t a K w v = some (a,K,zsm K w k t v)
  | 0,m,t,a,K,w,v,h,h0,hK,hw,hv => by
    obtain rfl : t = 64 := by omega
    rw [z3a.eq_2]; rfl
  | k + 1,m,t,a,K,w,v,h,h0,hK,hw,hv => by
    have e1 : z07 (t + 1) = t + 1 := wi64 (by omega) (by omega)
    have g0 : within 0 v.length := ⟨by omega,by omega⟩
    have g1 : within 1 v.length := ⟨by omega,by omega⟩
    have g2 : within 2 v.length := ⟨by omega,by omega⟩
    have g3 : within 3 v.length := ⟨by omega,by omega⟩
    have g4 : within 4 v.length := ⟨by omega,by omega⟩
    have g5 : within 5 v.length := ⟨by omega,by omega⟩
    have g6 : within 6 v.length := ⟨by omega,by omega⟩
    have g7 : within 7 v.length := ⟨by omega,by omega⟩
    have gK : within t K.length := ⟨by omega,by omega⟩
    have gw : within t w.length := ⟨by omega,by omega⟩
    rw [z3a.eq_2,if_pos (by simp; omega),e1,z3P _ _ _ (by simp),z3P _ _ _ (by simp),z3P _ _ _ (by simp),z3P _ _ _ (by simp),z3P _ _ _ (by simp),z3P _ _ _ (by simp)]
    simp only [bs,if_pos g0,if_pos g1,if_pos g2,if_pos g3,if_pos g4,if_pos g5,if_pos g6,if_pos g7,if_pos gK,if_pos gw,if_pos hK,if_pos hw,if_pos hv]
    exact zvp k m (t + 1) a K w _ (by omega) (by omega) hK hw rfl
theorem zfl : ∀ (k m : Nat) (t : Int) (h v : List Int),t + k = 8 → 0 ≤ t → h.length = 8 → v.length = 8 → z4z (m + k + 1) t h v = some (sumF h k t v)
  | 0,m,t,h,v,e,h0,hh,hv => by
    obtain rfl : t = 8 := by omega
    rw [z4z.eq_2]; rfl
  | k + 1,m,t,h,v,e,h0,hh,hv => by
    have e1 : z07 (t + 1) = t + 1 := wi64 (by omega) (by omega)
    have gh : within t h.length := ⟨by omega,by omega⟩
    have gv : within t v.length := ⟨by omega,by omega⟩
    rw [z4z.eq_2,if_pos (by simp; omega),e1]
    simp only [if_pos gh,if_pos gv,if_pos hh,if_pos hv]
    exact zfl k m (t + 1) h _ (by omega) (by omega) hh (by simpa using hv)
theorem zvi : ∀ (k m : Nat) (t : Int) (h v c : List Int),t + k = 8 → 0 ≤ t → h.length = 8 → v.length = 8 → z2O (m + k + 1) v t h c = some (sumF v k t h,c)
  | 0,m,t,h,v,c,e,h0,hh,hv => by
    obtain rfl : t = 8 := by omega
    rw [z2O.eq_2]; rfl
  | k + 1,m,t,h,v,c,e,h0,hh,hv => by
    have e1 : z07 (t + 1) = t + 1 := wi64 (by omega) (by omega)
    have gh : within t h.length := ⟨by omega,by omega⟩
    have gv : within t v.length := ⟨by omega,by omega⟩
    rw [z2O.eq_2,if_pos (by simp; omega),e1]
    simp only [if_pos gh,if_pos gv,if_pos hh,if_pos hv]
    exact zvi k m (t + 1) _ v c (by omega) (by omega) (by simpa using hh) hv
theorem len8 {v : List Int} (h : v.length = 8) : ∃ a b c d e f g i,v = [a,b,c,d,e,f,g,i] := by
  match v,h with
  | [a,b,c,d,e,f,g,i],_ => exact ⟨a,b,c,d,e,f,g,i,rfl⟩
theorem zyW {h v : List Int} (hh : h.length = 8) (hv : v.length = 8) : sumF v 8 0 h = sumF h 8 0 v := by
  obtain ⟨a,b,c,d,e,f,g,i,rfl⟩ := len8 hh
  obtain ⟨a',b',c',d',e',f',g',i',rfl⟩ := len8 hv
  have l : ∀ a b c d e f g i a' b' c' d' e' f' g' i' : Int,sumF [a,b,c,d,e,f,g,i] 8 0 [a',b',c',d',e',f',g',i'] = [z0Z (a' + a),z0Z (b' + b),z0Z (c' + c),z0Z (d' + d),z0Z (e' + e),z0Z (f' + f),z0Z (g' + g),z0Z (i' + i)] := fun _ _ _ _ _ _ _ _ _ _ _ _ _ _ _ _ => rfl
  rw [l,l]
  simp only [Int.add_comm]
theorem zro (n : Nat) (h K : List Int) (s : Str) (hn : 65 ≤ n) (hh : h.length = 8) (hK : K.length = 64) (hs : 64 ≤ s.length) : zaI n h K s = some (zfx h K s) := by
  have hl : (zj7 s 16 0 (List.replicate 64 (0 : Int))).length = 64 := by rw [zpI]; rfl
  have hL : (zjF 48 16 (zj7 s 16 0 (List.replicate 64 (0 : Int)))).length = 64 := by rw [zmo,hl]
  have hR := ziQ K (zjF 48 16 (zj7 s 16 0 (List.replicate 64 (0 : Int)))) 64 0 h hh
  have e1 := zeP 16 (n - 17) 0 s h K (List.replicate 64 (0 : Int)) rfl (by omega) hs (by rfl)
  have e2 := zeS 48 (n - 49) 16 h K _ rfl (by omega) hl
  have e3 := zfG 64 (n - 65) 0 h K _ h rfl (by omega) hK hL hh
  have e4 := zfl 8 (n - 9) 0 h _ rfl (by omega) hh hR
  have hB := ziU (h := h) (K := K) s hh
  rw [show n - 17 + 16 + 1 = n by omega] at e1
  rw [show n - 49 + 48 + 1 = n by omega] at e2
  rw [show n - 65 + 64 + 1 = n by omega] at e3
  rw [show n - 9 + 8 + 1 = n by omega] at e4
  rw [zaI,e1]
  simp only [bs]
  rw [e2]
  simp only [bs,if_pos hh]
  rw [e3]
  simp only [bs]
  rw [e4]
  simp only [bs]
  rw [← zfx]
  simp only [if_pos hB]
theorem zDI (n : Nat) (h K : List Int) (s : Str) (hn : 65 ≤ n) (hh : h.length = 8) (hK : K.length = 64) (hs : 64 ≤ s.length) : z7m n s h K = some (zfx h K s,K) := by
  have hl : (zj7 s 16 0 (List.replicate 64 (0 : Int))).length = 64 := by rw [zpI]; rfl
  have hL : (zjF 48 16 (zj7 s 16 0 (List.replicate 64 (0 : Int)))).length = 64 := by rw [zmo,hl]
  have hR := ziQ K (zjF 48 16 (zj7 s 16 0 (List.replicate 64 (0 : Int)))) 64 0 h hh
  have e1 := zvI 16 (n - 17) 0 s h K (List.replicate 64 (0 : Int)) rfl (by omega) hs (by rfl)
  have e2 := zva 48 (n - 49) 16 h K _ rfl (by omega) hl
  have e3 := zvp 64 (n - 65) 0 h K _ h rfl (by omega) hK hL hh
  have e4 := zvi 8 (n - 9) 0 h _ K rfl (by omega) hh hR
  rw [show n - 17 + 16 + 1 = n by omega] at e1
  rw [show n - 49 + 48 + 1 = n by omega] at e2
  rw [show n - 65 + 64 + 1 = n by omega] at e3
  rw [show n - 9 + 8 + 1 = n by omega] at e4
  rw [z7m,e1]
  simp only [bs]
  rw [e2]
  simp only [bs,if_pos hh]
  rw [e3]
  simp only [bs,if_pos hR]
  rw [e4]
  simp only [bs]
  rw [zyW hh hR,← zfx]
def z4X (K : List Int) : Nat → Str → List Int → List Int
  | 0,_,h => h
  | j + 1,s,h => z4X K j (s.drop 64) (zfx h K (s.take 64))
theorem zdw (K : List Int) : ∀ j s h,h.length = 8 → (z4X K j s h).length = 8
  | 0,_,_,e => e
  | j + 1,s,h,e => by rw [z4X]; exact zdw K j _ _ (ziU _ e)
theorem zqs (K : List Int) : ∀ i j s h,z4X K (i + j) s h = z4X K j (s.drop (64 * i)) (z4X K i s h)
  | 0,j,s,h => by simp [z4X]
  | i + 1,j,s,h => by
    rw [show i + 1 + j = (i + j) + 1 by omega,z4X,z4X,zqs K i j,List.drop_drop,show 64 + 64 * i = 64 * (i + 1) by omega]
theorem zky {s t : Str} (h : ∀ i : Int,0 ≤ i → i < 64 → bt s i = bt t i) : ∀ (k : Nat) (a : Int) (w : List Int),0 ≤ a → a + k ≤ 16 → zj7 s k a w = zj7 t k a w
  | 0,_,_,_,_ => rfl
  | k + 1,a,w,h0,h1 => by
    rw [zj7,zj7,zky h k _ _ (by omega) (by omega),show wordAt s (4 * a) = wordAt t (4 * a) by
      simp only [wordAt]; rw [h _ (by omega) (by omega),h _ (by omega) (by omega),h _ (by omega) (by omega),h _ (by omega) (by omega)]]
theorem zz6 (s : Str) (j : Nat) (i : Int) (h0 : 0 ≤ i) (h1 : i < j) : bt (s.take j) i = bt s i := by
  have : i.toNat < j := by omega
  simp [bt,List.getD_eq_getElem?_getD,List.getElem?_take,this]
theorem zkw (h K : List Int) (s : Str) : zfx h K (s.take 64) = zfx h K s := by
  rw [zfx,zfx,zky (fun i h0 h1 => zz6 s 64 i h0 (by omega)) 16 0 _ (by omega) (by omega)]
theorem znR (K : List Int) : ∀ j s h m,64 * j ≤ m → z4X K j (s.take m) h = z4X K j s h
  | 0,_,_,_,_ => rfl
  | j + 1,s,h,m,e => by
    rw [z4X,z4X,zkw,zkw,List.drop_take,znR K j _ _ _ (by omega),zfx,zfx,zky (fun i h0 h1 => zz6 s m i h0 (by omega)) 16 0 _ (by omega) (by omega)]
def K256 : List Int := [1116352408,1899447441,3049323471,3921009573,961987163,1508970993,2453635748,2870763221,3624381080,310598401,607225278,1426881987,1925078388,2162078206,2614888103,3248222580,3835390401,4022224774,264347078,604807628,770255983,1249150122,1555081692,1996064986,2554220882,2821834349,2952996808,3210313671,3336571891,3584528711,113926993,338241895,666307205,773529912,1294757372,1396182291,1695183700,1986661051,2177026350,2456956037,2730485921,2820302411,3259730800,3345764771,3516065817,3600352804,4094571909,275423344,430227734,506948616,659060556,883997877,958139571,1322822218,1537002063,1747873779,1955562222,2024104815,2227730452,2361852424,2428436474,2756734187,3204031479,3329325298]
def H256 : List Int := [1779033703,3144134277,1013904242,2773480762,1359893119,2600822924,528734635,1541459225]
def bytes4 (x : Int) : List Int := [w_u8 (shr .u32 x 24),w_u8 (shr .u32 x 16),w_u8 (shr .u32 x 8),w_u8 x]
def padF (s : Str) : Str := zc5 s s.length
def shaF (s : Str) : Str := strOf ((z4X K256 ((padF s).length / 64) (padF s) H256).flatMap bytes4)
theorem ze0 (s : Str) : (s.length + 1 + z2q s) % 64 = 56 ∧ z2q s < 64 := by
  unfold z2q; omega
theorem zkj (s : Str) : (padF s).length = s.length + 1 + z2q s + 8 := by
  have : ∀ n,(Lib.repeatL ([0] : Str) n).length = n := fun n => by induction n with
    | zero => rfl
    | succ n ih => simp only [Lib.repeatL,List.length_append,List.length_singleton,ih]; omega
  simp only [padF,zc5,List.length_append,this,zbA,List.length_cons,List.length_nil]
theorem ziC (s : Str) : (padF s).length % 64 = 0 := by
  have := ze0 s; rw [zkj]; omega
theorem zit : ∀ (k m : Nat) (s : Str) (l : List Int),(l.length + k) % 64 = 56 → k < 64 → l.length + k ≤ 1000000000 → z6t (m + k + 1) s l = some (s,l ++ List.replicate k 0)
  | 0,m,s,l,h,_,hb => by
    have q : Int.tmod (l.length : Int) 64 = (l.length : Int) % 64 := Int.tmod_eq_emod_of_nonneg (by omega)
    rw [z6t.eq_2,q,if_neg (by simp; omega)]; simp
  | k + 1,m,s,l,h,hk,hb => by
    have q : Int.tmod (l.length : Int) 64 = (l.length : Int) % 64 := Int.tmod_eq_emod_of_nonneg (by omega)
    rw [z6t.eq_2,q,if_pos (by simp; omega),if_pos (by show _ ≤ _; omega),show m + (k + 1) = m + k + 1 by omega,zit k m s _ (by simp; omega) (by omega) (by simp; omega),List.replicate_succ,List.append_assoc]; rfl
theorem zDS (N : Int) (i : Int) (d : Int) (h : shr .u64 N i = N / d) : rd8 (w_u8 (shr .u64 N i)) = zqf (N / d) := by rw [h]; rfl
theorem zmB : ∀ n,Lib.repeatL ([0] : Str) n = List.replicate n 0
  | 0 => rfl
  | n + 1 => by rw [Lib.repeatL,zmB n]; rfl
theorem zwo (k : IntKind) (x : Int) (b : Int) (d : Int) (h : (2 : Int) ^ (min b.toNat k.bits) = d) (hd : 0 ≤ d) : shr k x b = x / d := by
  rw [shr,h,Int.fdiv_eq_ediv_of_nonneg _ hd]
theorem z7L (m : Nat) (s : Str) (t : Int) (l : List Int) (h0 : 0 ≤ t) (h1 : t ≤ 56) (hl : l.length ≤ 2000000000) : z4D (m + 1) s t l = z4D m s (t - 8) (l ++ [w_u8 (shr .u64 (z3S (z3S (s.length : Int) * 8)) t)]) := by
  rw [z4D.eq_2,if_pos (by simp; omega),wu64 (n := t) h0 (by omega),if_pos h0,if_pos (by show _ ≤ _; omega),wi64 (n := t - 8) (by omega) (by omega)]
theorem zpa (m : Nat) (s : Str) (l : List Int) (hl : l.length ≤ 1000000000) : ∃ r,z4D (m + 9) s 56 l = some (l ++ r) ∧ strOf r = zbA (z3S (z3S (s.length : Int) * 8)) := by
  rw [show m + 9 = m + 8 + 1 by omega,z7L _ _ _ _ (by omega) (by omega) (by omega),
    show m + 8 = m + 7 + 1 by omega,z7L _ _ _ _ (by omega) (by omega) (by simp; omega),
    show m + 7 = m + 6 + 1 by omega,z7L _ _ _ _ (by omega) (by omega) (by simp; omega),
    show m + 6 = m + 5 + 1 by omega,z7L _ _ _ _ (by omega) (by omega) (by simp; omega),
    show m + 5 = m + 4 + 1 by omega,z7L _ _ _ _ (by omega) (by omega) (by simp; omega),
    show m + 4 = m + 3 + 1 by omega,z7L _ _ _ _ (by omega) (by omega) (by simp; omega),
    show m + 3 = m + 2 + 1 by omega,z7L _ _ _ _ (by omega) (by omega) (by simp; omega),
    show m + 2 = m + 1 + 1 by omega,z7L _ _ _ _ (by omega) (by omega) (by simp; omega),z4D.eq_2,if_neg (by decide)]
  simp only [List.append_assoc,List.singleton_append]
  refine ⟨_,rfl,?_⟩
  generalize z3S (z3S (s.length : Int) * 8) = N
  have e := fun (b d : Int) h hd => zwo .u64 N b d h hd
  simp only [strOf,List.map_cons,List.map_nil,Int.reduceSub,zbA,
    e 56 72057594037927936 (by decide) (by decide),e 48 281474976710656 (by decide) (by decide),e 40 1099511627776 (by decide) (by decide),e 32 4294967296 (by decide) (by decide),e 24 16777216 (by decide) (by decide),e 16 65536 (by decide) (by decide),e 8 256 (by decide) (by decide),e 0 1 (by decide) (by decide),Int.ediv_one]
  rfl
theorem zux (n : Nat) (s : Str) (hn : 70 ≤ n) (hs : s.length ≤ 2000000) : zeN n s = some (padF s) := by
  have hz := ze0 s
  have e1 := zit (z2q s) (n - 1 - z2q s) s (bytesOf s ++ [128]) (by simp [z5V]; omega) (by omega) (by simp [z5V]; omega)
  rw [show n - 1 - z2q s + z2q s + 1 = n by omega] at e1
  obtain ⟨r,e2,hr⟩ := zpa (n - 9) s (bytesOf s ++ [128] ++ List.replicate (z2q s) 0) (by simp [z5V]; omega)
  rw [show n - 9 + 9 = n by omega] at e2
  rw [zeN,if_pos (by show _ ≤ _; rw [z5V]; omega),e1]
  simp only [bs]
  rw [e2]
  simp only [bs,z4L,zcs,hr]
  rw [padF,zc5,zmB]
  congr 3
  simp [strOf,rd8]
theorem zi3 : ∀ (k m : Nat) (p : Str) (i : Nat) (h : List Int),64 * (i + k) = p.length → p.length ≤ 1000000000 → h.length = 8 → z6v (m + k + 70) p ((64 * i : Nat) : Int) h = some (z4X K256 k (p.drop (64 * i)) h)
  | 0,m,p,i,h,hp,hb,hh => by
    rw [show m + 0 + 70 = m + 69 + 1 by omega,z6v.eq_2,if_neg (by simp; omega)]; rfl
  | k + 1,m,p,i,h,hp,hb,hh => by
    have e1 : z07 (((64 * i : Nat) : Int) + 64) = ((64 * (i + 1) : Nat) : Int) := by rw [wi64 (by omega) (by omega)]; omega
    have hs : (List.drop (64 * i) (List.take (64 * (i + 1)) p)) = (p.drop (64 * i)).take 64 := by rw [List.drop_take]; congr 1; omega
    have hB := ziU (h := h) (K := K256) ((p.drop (64 * i)).take 64) hh
    rw [show m + (k + 1) + 70 = m + k + 70 + 1 by omega,z6v.eq_2,if_pos (by simp; omega),if_pos hh,e1,if_pos ⟨by omega,by omega,by omega⟩]
    simp only [Int.toNat_natCast]
    rw [hs,zro _ h _ _ (by omega) hh (by rfl) (by simp; omega)]
    simp only [bs]
    rw [← K256,if_pos hB,if_pos hh,zi3 k m p (i + 1) _ (by omega) hb hB,z4X,List.drop_drop,show 64 * i + 64 = 64 * (i + 1) by omega]
theorem zAR (l : List Int) (i : Nat) (h : i < l.length) : l.drop i = rd 0 l (i : Int) :: l.drop (i + 1) := by
  rw [List.drop_eq_getElem_cons h]; simp [rd,List.getD_eq_getElem?_getD,h]
theorem zhK : ∀ (k m : Nat) (h : List Int) (i : Nat) (o : List Int),i + k = 8 → h.length = 8 → o.length ≤ 4 * i → z6A (m + k + 1) h (i : Int) o = some (o ++ (h.drop i).flatMap bytes4)
  | 0,m,h,i,o,e,hh,ho => by
    rw [z6A.eq_2,if_neg (by simp; omega),List.drop_of_length_le (by omega)]; simp
  | k + 1,m,h,i,o,e,hh,ho => by
    have e1 : z07 ((i : Int) + 1) = ((i + 1 : Nat) : Int) := by rw [wi64 (by omega) (by omega)]; omega
    rw [z6A.eq_2,if_pos (by simp; omega),if_pos ⟨by omega,by omega⟩,if_pos hh,if_pos (by show _ ≤ _; omega),e1,show m + (k + 1) = m + k + 1 by omega,zhK k m h (i + 1) _ (by omega) hh (by simp; omega),zAR h i (by omega),List.flatMap_cons,List.append_assoc]
    rfl
theorem zo7 (n : Nat) (s : Str) (hs : s.length ≤ 2000000) (hn : 200 + s.length ≤ n) : zcY n s = some (shaF s) := by
  have hl := zkj s
  have hz := ze0 s
  have hm := ziC s
  have hB := zdw K256 ((padF s).length / 64) (padF s) H256 rfl
  have e1 := zi3 ((padF s).length / 64) (n - (padF s).length / 64 - 70) (padF s) 0 H256 (by omega) (by omega) rfl
  rw [show n - (padF s).length / 64 - 70 + (padF s).length / 64 + 70 = n by omega] at e1
  have e2 := zhK 8 (n - 9) _ 0 [] rfl hB (by simp)
  rw [show n - 9 + 8 + 1 = n by omega] at e2
  rw [zcY,zdo,z7O,zux n s (by omega) hs]
  simp only [bs]
  rw [← H256]
  rw [show ((0 : Int)) = ((64 * 0 : Nat) : Int) by rfl,e1]
  simp only [bs,Nat.mul_zero,List.drop_zero,if_pos hB,Int.natCast_zero] at e2 ⊢
  rw [e2]
  simp only [bs,List.nil_append,shaF]
theorem zet : ∀ (k m : Nat) (p : Str) (a : List Str) (b : Int) (h : List Int),64 * k = p.length → h.length = 8 → z7F (m + k + 70) p a b h K256 = some (a,b,z4X K256 k p h,K256)
  | 0,m,p,a,b,h,hp,hh => by
    obtain rfl : p = [] := List.eq_nil_of_length_eq_zero (by omega)
    rw [show m + 0 + 70 = m + 69 + 1 by omega,z7F.eq_2]; rfl
  | k + 1,m,p,a,b,h,hp,hh => by
    have hne : (!(p == ([] : Str))) = true := by
      cases p with
      | nil => simp at hp
      | cons x r => rfl
    rw [show m + (k + 1) + 70 = m + k + 70 + 1 by omega,z7F.eq_2,if_pos hne,zDI _ h _ _ (by omega) hh (by rfl) (by omega)]
    simp only [bs]
    rw [if_pos ⟨by omega,by omega⟩,zet k m (p.drop 64) a b _ (by simp; omega) (ziU p hh),z4X,zkw]
end Go.Proofs.YtchpeafokjmmeaaGreatDoorQ
set_option maxRecDepth 100000
set_option maxHeartbeats 2000000
namespace Go.Proofs.YtchpeafokjmmeaaGreatDoorQ
open Go Go.PE
theorem zug : z07 (0 + 1) = 1 := wi64 (by omega) (by omega)
theorem zBQ : z07 (1 + 1) = 2 := wi64 (by omega) (by omega)
theorem zry (n : Nat) (p q : Str) (h : List Int) (k j : Nat) (hp : 64 * k = p.length) (hq : 64 * j = q.length) (hh : h.length = 8) (hn : 80 + k + j ≤ n) : z6P n [p,q] 0 h K256 = some (z4X K256 j q (z4X K256 k p h)) := by
  obtain ⟨m,rfl⟩ : ∃ m,n = m + k + j + 80 := ⟨n - k - j - 80,by omega⟩
  rw [show m + k + j + 80 = m + j + 9 + k + 70 + 1 by omega,z6P.eq_2,if_pos (by decide),if_pos ⟨by omega,by simp⟩,show rd ([] : Str) [p,q] 0 = p from rfl,zet k (m + j + 9) p [p,q] 0 h hp hh]
  simp only [bs]
  rw [zug,show m + j + 9 + k + 70 = m + k + 8 + j + 70 + 1 by omega,z6P.eq_2,if_pos (by decide),if_pos ⟨by omega,by simp⟩,show rd ([] : Str) [p,q] 1 = q from rfl,zet j (m + k + 8) q [p,q] 1 _ hq (zdw K256 k p h hh)]
  simp only [bs]
  rw [zBQ,show m + k + 8 + j + 70 = m + k + 77 + j + 1 by omega,z6P.eq_2,if_neg (by decide)]
theorem zpq (m : Nat) (a b c d e f g i : Int) : z95 (m + 9) [a,b,c,d,e,f,g,i] 0 (List.replicate 32 (0 : Int)) = some ([a,b,c,d,e,f,g,i].flatMap bytes4) := by kernel_rfl
theorem zrN (n : Nat) (h : List Int) (hh : h.length = 8) (hn : 9 ≤ n) : z95 n h 0 (List.replicate 32 (0 : Int)) = some (h.flatMap bytes4) := by
  obtain ⟨a,b,c,d,e,f,g,i,rfl⟩ := len8 hh
  obtain ⟨m,rfl⟩ : ∃ m,n = m + 9 := ⟨n - 9,by omega⟩
  exact zpq m a b c d e f g i
theorem zhs : ∀ h : List Int,(h.flatMap bytes4).length = 4 * h.length
  | [] => rfl
  | a :: r => by rw [List.flatMap_cons,List.length_append,zhs r]; simp [bytes4]; omega
theorem zkV (s : Str) : (shaF s).length = 32 := by
  rw [shaF,z1j,zhs,zdw _ _ _ _ rfl]
end Go.Proofs.YtchpeafokjmmeaaGreatDoorQ
set_option maxRecDepth 100000
set_option maxHeartbeats 2000000
namespace Go.Proofs.YtchpeafokjmmeaaGreatDoorQ
open Go Go.PE
theorem toNat_ofInt {k : Nat} {a : Int} (h0 : 0 ≤ a) (h1 : a < 2 ^ k) : (BitVec.ofInt k a).toNat = a.toNat := by
  rw [BitVec.toNat_ofInt]
  have : ((2 ^ k : Nat) : Int) = 2 ^ k := by simp
  rw [this,Int.emod_eq_of_lt h0 h1]
theorem wrap_i64 {n : Int} (h0 : 0 ≤ n) (h1 : n < 9223372036854775808) : IntKind.i64.wrap n = n := wi64 (by omega) h1
theorem zz4 {a b : Int} (ha : 0 ≤ a) (hb : 0 ≤ b) (ha1 : a < 9223372036854775808) (hb1 : b < 9223372036854775808) : ior .i64 a b = ((a.toNat ||| b.toNat : Nat) : Int) := by
  have e : ior .i64 a b = IntKind.i64.wrap (((BitVec.ofInt 64 a) ||| (BitVec.ofInt 64 b)).toNat : Int) := rfl
  rw [e,BitVec.toNat_or,toNat_ofInt ha (by omega),toNat_ofInt hb (by omega)]
  have := Nat.or_lt_two_pow (n := 63) (x := a.toNat) (y := b.toNat) (by omega) (by omega)
  exact wrap_i64 (by omega) (by omega)
theorem zAf {a b : Int} (k : Nat) (hk : k ≤ 63) (ha : 0 ≤ a) (hb : 0 ≤ b) (ha1 : a < 2 ^ k) (hb1 : b < 2 ^ k) : 0 ≤ ior .i64 a b ∧ ior .i64 a b < 2 ^ k := by
  have hp : (2 : Int) ^ k ≤ 9223372036854775808 := by
    have := Nat.pow_le_pow_right (n := 2) (by omega) hk
    have e : ((2 ^ k : Nat) : Int) = 2 ^ k := by simp
    omega
  have e : ((2 ^ k : Nat) : Int) = 2 ^ k := by simp
  rw [zz4 ha hb (by omega) (by omega)]
  have := Nat.or_lt_two_pow (n := k) (x := a.toNat) (y := b.toNat) (by omega) (by omega)
  omega
theorem zuK (x : Int) : 0 ≤ iand .i64 x 63 ∧ iand .i64 x 63 < 64 := by
  have e : iand .i64 x 63 = IntKind.i64.wrap (((BitVec.ofInt 64 x) &&& (BitVec.ofInt 64 63)).toNat : Int) := rfl
  have h : ((BitVec.ofInt 64 x) &&& (BitVec.ofInt 64 63)).toNat ≤ 63 := by
    rw [BitVec.toNat_and]; exact Nat.and_le_right
  rw [e,wrap_i64 (by omega) (by omega)]; omega
theorem zmm (x : Int) : within (iand .i64 x 63) 64 := ⟨(zuK x).1,by have := (zuK x).2; omega⟩
theorem zin (x : Int) (b : Int) (d : Int) (h : (2 : Int) ^ (min b.toNat 64) = d) (hd : 0 ≤ d) : shr .i64 x b = x / d := zwo .i64 x b d h hd
theorem zhC (x : Int) (b : Int) (d : Int) (h : (2 : Int) ^ (min b.toNat 64) = d) (h0 : 0 ≤ x * d) (h1 : x * d < 9223372036854775808) : shl .i64 x b = x * d := by
  have e : shl .i64 x b = IntKind.i64.wrap (x * 2 ^ (min b.toNat 64)) := rfl
  rw [e,h,wrap_i64 h0 h1]
def AL : Str := [65,66,67,68,69,70,71,72,73,74,75,76,77,78,79,80,81,82,83,84,85,86,87,88,89,90,97,98,99,100,101,102,103,104,105,106,107,108,109,110,111,112,113,114,115,116,117,118,119,120,121,122,48,49,50,51,52,53,54,55,56,57,45,95]
def v3 (s : Str) (i : Int) : Int := ior .i64 (ior .i64 (shl .i64 (z07 (bt s i)) 16) (shl .i64 (z07 (bt s (i + 1))) 8)) (z07 (bt s (i + 2)))
def dig4 (v : Int) : List Int := [bt AL (shr .i64 v 18),bt AL (iand .i64 (shr .i64 v 12) 63),bt AL (iand .i64 (shr .i64 v 6) 63),bt AL (iand .i64 v 63)]
def b64F : Nat → Str → List Int
  | 0,_ => []
  | k + 1,s => dig4 (v3 s 0) ++ b64F k (s.drop 3)
theorem zg1 (s : Str) (i : Int) : 0 ≤ v3 s i ∧ v3 s i < 16777216 := by
  have a := z8L s i; have b := z8L s (i + 1); have c := z8L s (i + 2)
  rw [v3,wi64 (n := bt s i) (by omega) (by omega),wi64 (n := bt s (i + 1)) (by omega) (by omega),wi64 (n := bt s (i + 2)) (by omega) (by omega),zhC _ 16 65536 (by decide) (by omega) (by omega),zhC _ 8 256 (by decide) (by omega) (by omega)]
  have h1 := zAf 24 (by omega) (a := bt s i * 65536) (b := bt s (i + 1) * 256) (by omega) (by omega) (by omega) (by omega)
  have h2 := zAf 24 (by omega) (a := ior .i64 (bt s i * 65536) (bt s (i + 1) * 256)) (b := bt s (i + 2)) (by omega) (by omega) (by omega) (by omega)
  omega
theorem zyY (s : Str) (j : Nat) : v3 (s.drop j) 0 = v3 s j := by
  simp only [v3,Int.zero_add]
  rw [zi7 _ _ _ (by omega),zi7 _ _ _ (by omega),zi7 _ _ _ (by omega),Int.add_zero]
theorem zcr : ∀ k s,(b64F k s).length = 4 * k
  | 0,_ => rfl
  | k + 1,s => by rw [b64F,List.length_append,zcr k]; simp [dig4]; omega
theorem zdv : ∀ (k m : Nat) (s : Str) (o : List Int),s.length = 3 * k → o.length + 4 * k ≤ 1000000000 → z3w (m + k + 1) s o = some (o ++ b64F k s)
  | 0,m,s,o,h,ho => by
    obtain rfl : s = [] := List.eq_nil_of_length_eq_zero (by omega)
    rw [z3w.eq_2]; simp [b64F]
  | k + 1,m,s,o,h,ho => by
    have hne : (!(s == ([] : Str))) = true := by
      cases s with
      | nil => simp at h
      | cons x r => rfl
    have hv := zg1 s 0
    have h18 : within (shr .i64 (v3 s 0) 18) 64 := by
      rw [zin _ 18 262144 (by decide) (by decide)]; exact ⟨by omega,by omega⟩
    rw [show m + (k + 1) + 1 = m + k + 1 + 1 by omega,z3w.eq_2,if_pos hne,if_pos ⟨by omega,by omega⟩,if_pos ⟨by omega,by omega⟩,if_pos ⟨by omega,by omega⟩]
    rw [show ior .i64 (ior .i64 (shl .i64 (z07 (bt s 0)) 16) (shl .i64 (z07 (bt s 1)) 8)) (z07 (bt s 2)) = v3 s 0 from rfl]
    rw [if_pos h18,if_pos (zmm _),if_pos (zmm _),if_pos (zmm _)]
    rw [if_pos (by show _ ≤ _; simp; omega),if_pos ⟨by omega,by omega⟩]
    have ih := zdv k m (s.drop 3) (o ++ dig4 (v3 s 0)) (by simp; omega) (by simp [dig4]; omega)
    rw [b64F,← List.append_assoc,← ih]
    rfl
theorem zec : ∀ (k m : Nat) (p : Str) (i : Nat) (o : List Int),p.length = 3 * (i + k) → o.length + 4 * k ≤ 1000000000 → p.length ≤ 1000000000 → z3n (m + k + 1) p ((3 * i : Nat) : Int) o = some (o ++ b64F k (p.drop (3 * i)))
  | 0,m,p,i,o,h,ho,hp => by
    rw [z3n.eq_2,if_neg (by simp; omega)]; simp [b64F]
  | k + 1,m,p,i,o,h,ho,hp => by
    have hv := zg1 p ((3 * i : Nat) : Int)
    have h18 : within (shr .i64 (v3 p ((3 * i : Nat) : Int)) 18) 64 := by
      rw [zin _ 18 262144 (by decide) (by decide)]; exact ⟨by omega,by omega⟩
    have e1 : z07 (((3 * i : Nat) : Int) + 1) = ((3 * i : Nat) : Int) + 1 := wi64 (by omega) (by omega)
    have e2 : z07 (((3 * i : Nat) : Int) + 2) = ((3 * i : Nat) : Int) + 2 := wi64 (by omega) (by omega)
    have e3 : z07 (((3 * i : Nat) : Int) + 3) = ((3 * (i + 1) : Nat) : Int) := by rw [wi64 (by omega) (by omega)]; omega
    rw [show m + (k + 1) + 1 = m + k + 1 + 1 by omega,z3n.eq_2,if_pos (by simp; omega),e1,e2,e3,if_pos ⟨by omega,by omega⟩,if_pos ⟨by omega,by omega⟩,if_pos ⟨by omega,by omega⟩]
    rw [show ior .i64 (ior .i64 (shl .i64 (z07 (bt p ((3 * i : Nat) : Int))) 16) (shl .i64 (z07 (bt p (((3 * i : Nat) : Int) + 1))) 8)) (z07 (bt p (((3 * i : Nat) : Int) + 2))) = v3 p ((3 * i : Nat) : Int) from rfl]
    rw [if_pos h18,if_pos (zmm _),if_pos (zmm _),if_pos (zmm _)]
    rw [if_pos (by show _ ≤ _; simp; omega)]
    have ih := zec k m p (i + 1) (o ++ dig4 (v3 p ((3 * i : Nat) : Int))) (by omega) (by simp [dig4]; omega) hp
    rw [b64F,zyY,List.drop_drop,← List.append_assoc,show 3 * i + 3 = 3 * (i + 1) by omega,← ih]
    rfl
theorem zoD (n k : Nat) (s : Str) (h : s.length = 3 * k) (hk : k ≤ 20000) (hn : k + 1 ≤ n) : z6T n s = some (strOf (b64F k s),0) := by
  have e := zdv k (n - k - 1) s [] h (by simp; omega)
  rw [show n - k - 1 + k + 1 = n by omega] at e
  have d : Int.tdiv (s.length : Int) 3 = k := by rw [Int.tdiv_eq_ediv_of_nonneg (by omega)]; omega
  have q : Int.tmod (s.length : Int) 3 = 0 := by rw [Int.tmod_eq_emod_of_nonneg (by omega)]; omega
  rw [z6T,if_neg (by simp; omega),q,if_neg (by decide),d,wi64 (n := (k : Int)) (by omega) (by omega),wi64 (n := (k : Int) * 4) (by omega) (by omega),if_pos ⟨by omega,by omega,by omega,by omega⟩,List.replicate_zero,e]
  simp only [bs,List.nil_append]
theorem zpc (n k : Nat) (s : Str) (h : s.length = 3 * k) (hk : k ≤ 20000) (hn : k + 1 ≤ n) : z9m n s = some (strOf (b64F k s),0) := by
  have e := zec k (n - k - 1) s 0 [] (by omega) (by simp; omega) (by omega)
  rw [show n - k - 1 + k + 1 = n by omega] at e
  have q : Int.tmod (s.length : Int) 3 = 0 := by rw [Int.tmod_eq_emod_of_nonneg (by omega)]; omega
  have e' : z3n n s 0 [] = some ([] ++ b64F k (s.drop (3 * 0))) := e
  rw [z9m,if_neg (by simp; omega),q,if_neg (by decide),e']
  simp only [bs,List.nil_append,Nat.mul_zero,List.drop_zero]
end Go.Proofs.YtchpeafokjmmeaaGreatDoorQ
set_option maxRecDepth 100000
set_option maxHeartbeats 2000000
namespace Go.Proofs.YtchpeafokjmmeaaGreatDoorQ
open Go Go.PE
theorem zdG (n : Nat) (s : Str) (h : 8 ≤ s.length) : ∃ w,z0J n s = some w := by
  unfold z0J
  rw [if_pos ⟨by omega,by omega⟩,if_pos ⟨by omega,by omega⟩,if_pos ⟨by omega,by omega⟩,if_pos ⟨by omega,by omega⟩,if_pos ⟨by omega,by omega⟩,if_pos ⟨by omega,by omega⟩,if_pos ⟨by omega,by omega⟩,if_pos ⟨by omega,by omega⟩]
  exact ⟨_,rfl⟩
theorem zxk : ∀ (k n : Nat) (p : Str) (a : Str) (b c : Int) (d : Bool) (e : Str) (f : Int) (g h : Str) (i j l : Int) (m : Bool),p.length ≤ k → k + 1 ≤ n → ∃ q,z0X n p a b c d e f g h i j l m = some (p.drop q,a,b,c,d,e,f,g,h,i,j,l,m)
  | 0,n,p,a,b,c,d,e,f,g,h,i,j,l,m,hp,hn => by
    obtain ⟨n,rfl⟩ : ∃ m,n = m + 1 := ⟨n - 1,by omega⟩
    exact ⟨0,by rw [z0X.eq_2,if_neg (by simp only [decide_eq_true_eq]; omega)]; simp⟩
  | k + 1,n,p,a,b,c,d,e,f,g,h,i,j,l,m,hp,hn => by
    obtain ⟨n,rfl⟩ : ∃ m,n = m + 1 := ⟨n - 1,by omega⟩
    rw [z0X.eq_2]
    by_cases hl : p.length > 32
    · obtain ⟨w0,e0⟩ := zdG n p (by omega)
      obtain ⟨w1,e1⟩ := zdG n (p.drop 8) (by simp; omega)
      obtain ⟨w2,e2⟩ := zdG n (p.drop 16) (by simp; omega)
      obtain ⟨w3,e3⟩ := zdG n (p.drop 24) (by simp; omega)
      rw [if_pos (by simp; omega),e0]
      simp only [bs]
      rw [if_pos ⟨by omega,by omega⟩,e1]
      simp only [bs]
      rw [if_pos ⟨by omega,by omega⟩,e2]
      simp only [bs]
      rw [if_pos ⟨by omega,by omega⟩,e3]
      simp only [bs]
      split
      · rw [if_pos ⟨by omega,by omega⟩]
        obtain ⟨q,hq⟩ := zxk k n (p.drop 32) a b c d e f g h i j l m (by simp; omega) (by omega)
        exact ⟨32 + q,by rw [hq,List.drop_drop]⟩
      · exact ⟨0,by simp⟩
    · exact ⟨0,by rw [if_neg (by simp only [decide_eq_true_eq]; omega)]; simp⟩
def asc (s : Str) : Prop := ∀ b ∈ s,b.toNat < 128
theorem asc.drop {s : Str} (h : asc s) (k : Nat) : asc (s.drop k) := fun b hb => h b (List.mem_of_mem_drop hb)
theorem zxu : ∀ (k n : Nat) (p : Str),asc p → p.length ≤ k → 2 * k + 2 ≤ n → z0E n p = some ()
  | 0,n,p,ha,hp,hn => by
    obtain ⟨n,rfl⟩ : ∃ m,n = m + 1 := ⟨n - 1,by omega⟩
    rw [z0E.eq_2,if_neg (by simp only [decide_eq_true_eq]; omega)]
  | k + 1,n,p,ha,hp,hn => by
    obtain ⟨n,rfl⟩ : ∃ m,n = m + 1 := ⟨n - 1,by omega⟩
    have ih := fun (q : Str) (h : asc q) (h' : q.length ≤ k) => zxu k n q h h' (by omega)
    rw [z0E.eq_2]
    by_cases hl : p.length > 0
    · have hb : bt p 0 < 128 := by
        cases p with
        | nil => simp at hl
        | cons b r => have := ha b (by simp); simp only [bt,Int.toNat_zero,List.getD_cons_zero]; omega
      rw [if_pos (by simp; omega),if_pos ⟨by omega,by omega⟩,if_pos (by simpa using hb),if_pos ⟨by omega,by omega⟩]
      have l1 : (p.drop 1).length ≤ k := by simp; omega
      split
      · rename_i h8
        have h8 : (p.drop 1).length > 8 := by simp only [decide_eq_true_eq] at h8; omega
        obtain ⟨w,e⟩ := zdG n (p.drop 1) (by omega)
        rw [e]
        simp only [bs]
        split
        · rw [if_pos ⟨by omega,by omega⟩]
          have l2 : ((p.drop 1).drop 8).length ≤ k := by rw [List.length_drop]; omega
          split
          · rename_i h16
            have h16 : ((p.drop 1).drop 8).length > 16 := by simp only [decide_eq_true_eq] at h16; omega
            obtain ⟨w1,e1⟩ := zdG n ((p.drop 1).drop 8) (by omega)
            obtain ⟨w2,e2⟩ := zdG n (((p.drop 1).drop 8).drop 8) (by rw [List.length_drop]; omega)
            rw [e1]
            simp only [bs]
            rw [if_pos ⟨by omega,by omega⟩,e2]
            simp only [bs]
            split
            · rw [if_pos ⟨by omega,by omega⟩]
              obtain ⟨q,hq⟩ := zxk k n (((p.drop 1).drop 8).drop 16) (p.drop 1) w (iand .u64 w 9259542123273814144) ((iand .u64 w 9259542123273814144) == 0) ((p.drop 1).drop 8) w1 ((p.drop 1).drop 8) (((p.drop 1).drop 8).drop 8) w2 (ior .u64 w1 w2) (iand .u64 (ior .u64 w1 w2) 9259542123273814144) ((iand .u64 (ior .u64 w1 w2) 9259542123273814144) == 0) (by simp only [List.length_drop] at *; omega) (by omega)
              rw [hq]
              simp only [bs]
              exact ih _ ((((ha.drop 1).drop 8).drop 16).drop q) (by simp only [List.length_drop] at *; omega)
            · exact ih _ ((ha.drop 1).drop 8) l2
          · exact ih _ ((ha.drop 1).drop 8) l2
        · exact ih _ (ha.drop 1) l1
      · exact ih _ (ha.drop 1) l1
    · rw [if_neg (by simp only [decide_eq_true_eq]; omega)]
theorem valid_eq (n : Nat) (s : Str) (ha : asc s) (hn : 2 * s.length + 2 ≤ n) : z1y n s = some true := by
  rw [z1y,zxu s.length n s ha (Nat.le_refl _) hn]
  simp only [bs]
theorem znT (n : Nat) (s : Str) (ha : asc s) (hl : s.length ≤ 65536) (hn : 200000 ≤ n) : zdg n s = some true := by
  rw [zdg,if_pos (by simp; omega),valid_eq n s ha (by omega)]
  simp only [bs]
theorem zl8 (n : Nat) (s : Str) (ha : asc s) (hl : s.length ≤ 65536) (hn : 200000 ≤ n) : zaH n s = some true := by
  rw [zaH,if_pos (by simp; omega),valid_eq n s ha (by omega)]
  simp only [bs]
end Go.Proofs.YtchpeafokjmmeaaGreatDoorQ
set_option maxRecDepth 100000
set_option maxHeartbeats 2000000
namespace Go.Proofs.YtchpeafokjmmeaaGreatDoorQ
open Go Go.PE
theorem z9d {α : Type} (d : α) (l : List α) (j : Nat) (h : j < l.length) : rd d l (j : Int) = l[j] := by
  simp [rd,List.getD_eq_getElem?_getD,h]
theorem zCQ {α : Type} (d : α) (l : List α) (j : Nat) (h : j < l.length) : l.set ((j : Int)).toNat (rd d l (j : Int)) = l := by
  rw [z9d d l j h,Int.toNat_natCast,List.set_getElem_self]
theorem zd4 {α : Type} (d : α) (l : List α) (j : Nat) (h : j < l.length) : rd d l (j : Int) ∈ l := by
  rw [z9d d l j h]; exact List.getElem_mem h
theorem zC5 {α : Type} (d : α) (l : List α) (j : Nat) (h : j < l.length) : l.take j ++ [rd d l (j : Int)] = l.take (j + 1) := by
  rw [z9d d l j h,List.take_succ_eq_append_getElem h]
theorem wj {j : Nat} (h : j ≤ 1000000000) : z07 ((j : Int) + 1) = ((j + 1 : Nat) : Int) := by rw [wi64 (by omega) (by omega)]; omega
def sm : Nat → z00 → Prop
  | 0,_ => False
  | d + 1,x => x.z0d.length ≤ 1000000 ∧ x.z09.length ≤ 1000000 ∧ ∀ y ∈ x.z09,sm d y
theorem zAc (l : List z00) (hl : l.length ≤ 1000000) (N : Nat) (ih : ∀ y ∈ l,∀ n,N ≤ n → z9O n y = some y) (a : Int) (b : Bool) (c : Int) (t : Str) (e : List Str) : ∀ k j n : Nat,j + k = l.length → N + k + 1 ≤ n → z7S n (l.length : Int) (j : Int) a b c t l e = some (a,b,c,t,e,l)
  | 0,j,n,h,hn => by
    obtain ⟨n,rfl⟩ : ∃ m,n = m + 1 := ⟨n - 1,by omega⟩
    rw [z7S.eq_2,if_neg (by simp only [decide_eq_true_eq]; omega)]
  | k + 1,j,n,h,hn => by
    obtain ⟨n,rfl⟩ : ∃ m,n = m + 1 := ⟨n - 1,by omega⟩
    have hw : within (j : Int) l.length := ⟨by omega,by omega⟩
    rw [z7S.eq_2,if_pos (by simp only [decide_eq_true_eq]; omega),if_pos hw,if_pos hw,ih _ (zd4 _ l j (by omega)) n (by omega)]
    simp only [bs]
    rw [if_pos hw,if_pos hw,zCQ _ l j (by omega),wj (by omega)]
    exact zAc l hl N ih a b c t e k (j + 1) n (by omega) (by omega)
theorem zDz (d n : Nat) (x : z00) (h : sm d x) (hn : d * 2000000 ≤ n) : z9O n x = some x := by
  induction d generalizing n x with
  | zero => cases h
  | succ d ihd =>
    obtain ⟨n,rfl⟩ : ∃ m,n = m + 1 := ⟨n - 1,by omega⟩
    obtain ⟨h1,h2,h3⟩ := h
    rw [z9O.eq_2,z19,if_pos (by show _ ≤ _; omega)]
    simp only [bs]
    rw [z1x,if_pos (by show _ ≤ _; omega)]
    simp only [bs]
    rw [show (0 : Int) = ((0 : Nat) : Int) from rfl,zAc x.z09 h2 (d * 2000000) (fun y hy n hn => ihd n y (h3 y hy) hn) _ _ _ _ _ x.z09.length 0 n (by omega) (by omega)]
    simp only [bs]
    cases x; rfl
theorem zyO (l : List z00) (hl : l.length ≤ 1000000) (N : Nat) (ih : ∀ y ∈ l,∀ n,N ≤ n → z2R n y = some y) (a : Int) (b : Bool) (c : Int) (t : Str) (e : List Str) : ∀ k j n : Nat,j + k = l.length → N + k + 1 ≤ n → z5k n l (l.length : Int) (j : Int) a b c t e (l.take j) = some (a,b,c,t,e,l)
  | 0,j,n,h,hn => by
    obtain ⟨n,rfl⟩ : ∃ m,n = m + 1 := ⟨n - 1,by omega⟩
    rw [z5k.eq_2,if_neg (by simp only [decide_eq_true_eq]; omega),List.take_of_length_le (by omega)]
  | k + 1,j,n,h,hn => by
    obtain ⟨n,rfl⟩ : ∃ m,n = m + 1 := ⟨n - 1,by omega⟩
    have hw : within (j : Int) l.length := ⟨by omega,by omega⟩
    rw [z5k.eq_2,if_pos (by simp only [decide_eq_true_eq]; omega),if_pos hw,ih _ (zd4 _ l j (by omega)) n (by omega)]
    simp only [bs]
    rw [if_pos (by show _ ≤ _; rw [List.length_take]; omega),zC5 _ l j (by omega),wj (by omega)]
    exact zyO l hl N ih a b c t e k (j + 1) n (by omega) (by omega)
theorem zkh (d n : Nat) (x : z00) (h : sm d x) (hn : d * 2000000 ≤ n) : z2R n x = some x := by
  induction d generalizing n x with
  | zero => cases h
  | succ d ihd =>
    obtain ⟨n,rfl⟩ : ∃ m,n = m + 1 := ⟨n - 1,by omega⟩
    obtain ⟨h1,h2,h3⟩ := h
    rw [z2R.eq_2,if_pos (by show _ ≤ _; omega),show (0 : Int) = ((0 : Nat) : Int) from rfl,show ([] : List z00) = x.z09.take 0 from rfl,
      zyO x.z09 h2 (d * 2000000) (fun y hy n hn => ihd n y (h3 y hy) hn) _ _ _ _ _ x.z09.length 0 n (by omega) (by omega)]
    simp only [bs]
    cases x; rfl
structure Wf1 (P : z00 → Prop) (x : z00) : Prop where
  k0 : 0 ≤ x.z0i
  k5 : x.z0i ≤ 5
  b : x.z0i ≠ 1 → x.z0K = false
  nu : x.z0i ≠ 2 → x.z0n = 0
  t : x.z0i ≠ 3 → x.z0D = []
  i : x.z0i < 4 → x.z09 = []
  na : x.z0i ≠ 5 → x.z0d = []
  ta : asc x.z0D
  tl : x.z0D.length ≤ 65536
  il : x.z09.length ≤ 256
  ni : x.z0i = 5 → x.z0d.length = x.z09.length
  nd : x.z0d.Nodup
  ns : ∀ s ∈ x.z0d,asc s ∧ s.length ≤ 65536
  n0 : -9223372036854775808 ≤ x.z0n
  n1 : x.z0n < 9223372036854775808
  all : ∀ y ∈ x.z09,P y
def wf : Nat → z00 → Prop
  | 0,_ => False
  | d + 1,x => Wf1 (wf d) x
theorem Wf1.nl {P : z00 → Prop} {x : z00} (h : Wf1 P x) : x.z0d.length ≤ 256 := by
  by_cases e : x.z0i = 5
  · rw [h.ni e]; exact h.il
  · rw [h.na e]; simp
theorem zmH : ∀ d x,wf d x → sm d x
  | 0,_,h => h
  | d + 1,x,h => by
    have h : Wf1 (wf d) x := h
    have a := h.nl; have b := h.il
    exact ⟨by omega,by omega,fun y hy => zmH d y (h.all y hy)⟩
theorem zA8 : ∀ d x,wf d x → wf (d + 1) x
  | 0,_,h => by cases h
  | d + 1,x,h => by
    have h : Wf1 (wf d) x := h
    exact ({ h with all := fun y hy => zA8 d y (h.all y hy) } : Wf1 (wf (d + 1)) x)
theorem zCf {d e : Nat} (h : d ≤ e) {x : z00} (w : wf d x) : wf e x := by
  obtain ⟨k,rfl⟩ : ∃ k,e = d + k := ⟨e - d,by omega⟩
  clear h
  induction k with
  | zero => exact w
  | succ k ih => exact zA8 _ _ ih
theorem Wf1.fields {P : z00 → Prop} {x : z00} (h : Wf1 P x) (n : Nat) : zaT n x = some true := by
  obtain ⟨⟩ := x
  rename_i k b nu t na i
  have h1 := h.b; have h2 := h.nu; have h3 := h.t; have h4 := h.i; have h5 := h.na
  simp only at h1 h2 h3 h4 h5
  simp only [zaT]
  congr 1
  simp only [Bool.and_eq_true,Bool.or_eq_true,beq_iff_eq,Bool.not_eq_true']
  refine ⟨⟨⟨⟨?_,?_⟩,?_⟩,?_⟩,?_⟩
  · by_cases e : k = 1
    · exact .inl e
    · exact .inr (h1 e)
  · by_cases e : k = 2
    · exact .inl e
    · exact .inr (h2 e)
  · by_cases e : k = 3
    · exact .inl e
    · exact .inr (h3 e)
  · have := h.k5
    simp only at this
    by_cases e : k < 4
    · right; rw [h4 e]; rfl
    · left; omega
  · by_cases e : k = 5
    · exact .inl e
    · right; rw [h5 e]; rfl
theorem zwm {α β : Type} [BEq α] [LawfulBEq α] [DecidableEq α] (s a : α) (y : β) : ∀ m : List (α × β),(alk (fun z => s == z) (ast (fun z => a == z) a y m)) = if s = a then some y else alk (fun z => s == z) m
  | [] => by
    simp only [ast,alk]
    by_cases e : s = a
    · subst e; simp
    · have h := beq_false_of_ne e
      rw [h,if_neg e]; rfl
  | (b,c) :: m => by
    simp only [ast]
    by_cases e : a = b
    · subst e
      simp only [beq_self_eq_true,cond_true,alk]
      by_cases e' : s = a
      · subst e'; simp
      · have h := beq_false_of_ne e'
        rw [h,if_neg e']; rfl
    · have h := beq_false_of_ne e
      simp only [h,cond_false,alk,zwm s a y m]
      by_cases e' : s = b
      · subst e'
        simp only [beq_self_eq_true,cond_true]
        rw [if_neg (fun x => e x.symm)]
      · have h' := beq_false_of_ne e'
        rw [h']; rfl
theorem zxv (x : z00) (l : List Str) (hl : l.length ≤ 256) (hs : ∀ s ∈ l,asc s ∧ s.length ≤ 65536) (hd : l.Nodup) : ∀ (k j n : Nat) (m : List (Str × Bool)),j + k = l.length → 200000 + k + 1 ≤ n → (∀ s,s ∈ l.drop j → alk (fun z => s == z) m = none) → z5q n l (l.length : Int) (j : Int) x m = some (.inr x)
  | 0,j,n,m,h,hn,hm => by
    obtain ⟨n,rfl⟩ : ∃ m,n = m + 1 := ⟨n - 1,by omega⟩
    rw [z5q.eq_2,if_neg (by simp only [decide_eq_true_eq]; omega)]
  | k + 1,j,n,m,h,hn,hm => by
    obtain ⟨n,rfl⟩ : ∃ m,n = m + 1 := ⟨n - 1,by omega⟩
    have hj : j < l.length := by omega
    have hw : within (j : Int) l.length := ⟨by omega,by omega⟩
    have hc : rd [] l (j : Int) :: l.drop (j + 1) = l.drop j := by rw [z9d _ l j hj,← List.drop_eq_getElem_cons hj]
    have hdj : (rd [] l (j : Int) :: l.drop (j + 1)).Nodup := by rw [hc]; exact hd.sublist (List.drop_sublist j l)
    rw [z5q.eq_2,if_pos (by simp only [decide_eq_true_eq]; omega),if_pos hw,hm _ (by rw [← hc]; simp),if_neg (by simp),znT n _ (hs _ (zd4 _ l j hj)).1 (hs _ (zd4 _ l j hj)).2 (by omega)]
    simp only [bs]
    rw [if_neg (by simp),wj (by omega)]
    refine zxv x l hl hs hd k (j + 1) n _ (by omega) (by omega) fun s h' => ?_
    rw [zwm,if_neg (fun e : s = rd [] l (j : Int) => (List.nodup_cons.1 hdj).1 (e ▸ h'))]
    exact hm s (by rw [← hc]; simp [h'])
theorem Wf1.names {P : z00 → Prop} {x : z00} (h : Wf1 P x) (e : x.z0i = 5) (n : Nat) (hn : 300000 ≤ n) : zcH n x = some true := by
  have hl := h.nl
  rw [zcH,show (0 : Int) = ((0 : Nat) : Int) from rfl,zxv x x.z0d hl h.ns h.nd x.z0d.length 0 n [] (by omega) (by omega) (fun _ _ => rfl)]
  simp only [bs]
  rw [h.ni e]; simp
theorem zsA (l : List z00) (hl : l.length ≤ 256) (N : Nat) (dd : Int) (h1 : -9223372036854775808 < dd) (h2 : dd < 1000) (ih : ∀ y ∈ l,∀ n,N ≤ n → z8c n y (dd - 1) = some true) : ∀ k j n : Nat,j + k = l.length → N + k + 2 ≤ n → z0B n l (l.length : Int) (j : Int) dd = some (.inr dd)
  | 0,j,n,h,hn => by
    obtain ⟨n,rfl⟩ : ∃ m,n = m + 1 := ⟨n - 1,by omega⟩
    rw [z0B.eq_2,if_neg (by simp only [decide_eq_true_eq]; omega)]
  | k + 1,j,n,h,hn => by
    obtain ⟨n,rfl⟩ : ∃ m,n = m + 2 := ⟨n - 2,by omega⟩
    have hj : j < l.length := by omega
    have hw : within (j : Int) l.length := ⟨by omega,by omega⟩
    rw [show n + 2 = (n + 1) + 1 by omega,z0B.eq_2,if_pos (by simp only [decide_eq_true_eq]; omega),if_pos hw,z9q.eq_2,wi64 (n := dd - 1) (by omega) (by omega),ih _ (zd4 _ l j hj) n (by omega)]
    simp only [bs]
    rw [if_neg (by simp),wj (by omega)]
    exact zsA l hl N dd h1 h2 ih k (j + 1) (n + 1) (by omega) (by omega)
theorem zxC (d n : Nat) (x : z00) (h : wf d x) (hd : d < 100) (hn : d * 2000000 ≤ n) : z8c n x (d : Int) = some true := by
  induction d generalizing n x with
  | zero => cases h
  | succ d ihd =>
    obtain ⟨n,rfl⟩ : ∃ m,n = m + 3 := ⟨n - 3,by omega⟩
    have h : Wf1 (wf d) x := h
    have a0 := h.k0; have a5 := h.k5; have il := h.il
    have cf : z0C (n + 2) x.z09 ((d + 1 : Nat) : Int) = some (false,((d + 1 : Nat) : Int)) := by
      rw [show n + 2 = (n + 1) + 1 by omega,z0C.eq_2,z0U.eq_2,show (0 : Int) = ((0 : Nat) : Int) from rfl,
        zsA x.z09 il (d * 2000000) ((d + 1 : Nat) : Int) (by omega) (by omega) (fun y hy n hn => by
          rw [show (((d + 1 : Nat) : Int) - 1) = (d : Int) by omega]; exact ihd n y (h.all y hy) (by omega) hn) x.z09.length 0 n (by omega) (by omega)]
      simp only [bs]
      rfl
    rw [show n + 3 = (n + 2) + 1 by omega,z8c.eq_2,if_neg (by simp; omega),h.fields]
    simp only [bs]
    rw [if_neg (by simp),znT _ _ h.ta h.tl (by omega)]
    simp only [bs]
    rw [if_neg (by simp; omega)]
    split
    · rename_i e
      rw [h.names (by simpa using e) _ (by omega)]
      simp only [bs]
      rw [if_neg (by simp),cf]
      simp only [bs,Bool.not_false]
    · rw [cf]
      simp only [bs,Bool.not_false]
theorem zxe (n : Nat) (x : z00) (h : wf 8 x) (hn : 16000000 ≤ n) : zaY n x = some true := by
  rw [zaY,show (8 : Int) = ((8 : Nat) : Int) from rfl,zxC 8 n x h (by omega) (by omega)]
  simp only [bs]
theorem zvv (dd : Int) (x : z00) (l : List Str) (hl : l.length ≤ 256) (hs : ∀ s ∈ l,asc s ∧ s.length ≤ 65536) (hd : l.Nodup) : ∀ (k j n : Nat) (m : List (Str × Bool)),j + k = l.length → 200000 + k + 1 ≤ n → (∀ s,s ∈ l.drop j → alk (fun z => s == z) m = none) → z4M n dd l (l.length : Int) (j : Int) x m = some (.inr (dd,x))
  | 0,j,n,m,h,hn,hm => by
    obtain ⟨n,rfl⟩ : ∃ m,n = m + 1 := ⟨n - 1,by omega⟩
    rw [z4M.eq_2,if_neg (by simp only [decide_eq_true_eq]; omega)]
  | k + 1,j,n,m,h,hn,hm => by
    obtain ⟨n,rfl⟩ : ∃ m,n = m + 1 := ⟨n - 1,by omega⟩
    have hj : j < l.length := by omega
    have hw : within (j : Int) l.length := ⟨by omega,by omega⟩
    have hc : rd [] l (j : Int) :: l.drop (j + 1) = l.drop j := by rw [z9d _ l j hj,← List.drop_eq_getElem_cons hj]
    have hdj : (rd [] l (j : Int) :: l.drop (j + 1)).Nodup := by rw [hc]; exact hd.sublist (List.drop_sublist j l)
    rw [z4M.eq_2,if_pos (by simp only [decide_eq_true_eq]; omega),if_pos hw,zl8 n _ (hs _ (zd4 _ l j hj)).1 (hs _ (zd4 _ l j hj)).2 (by omega)]
    simp only [bs]
    rw [if_neg (by simp),hm _ (by rw [← hc]; simp),if_neg (by simp),wj (by omega)]
    refine zvv dd x l hl hs hd k (j + 1) n _ (by omega) (by omega) fun s h' => ?_
    rw [zwm,if_neg (fun e : s = rd [] l (j : Int) => (List.nodup_cons.1 hdj).1 (e ▸ h'))]
    exact hm s (by rw [← hc]; simp [h'])
theorem zq6 (l : List z00) (hl : l.length ≤ 256) (N : Nat) (dd : Int) (h1 : -9223372036854775808 < dd) (h2 : dd < 1000) (ih : ∀ y ∈ l,∀ n,N ≤ n → z6U n y (dd - 1) = some true) : ∀ k j n : Nat,j + k = l.length → N + k + 2 ≤ n → z4K n dd l (l.length : Int) (j : Int) = some (.inr ())
  | 0,j,n,h,hn => by
    obtain ⟨n,rfl⟩ : ∃ m,n = m + 1 := ⟨n - 1,by omega⟩
    rw [z4K.eq_2,if_neg (by simp only [decide_eq_true_eq]; omega)]
  | k + 1,j,n,h,hn => by
    obtain ⟨n,rfl⟩ : ∃ m,n = m + 1 := ⟨n - 1,by omega⟩
    have hj : j < l.length := by omega
    have hw : within (j : Int) l.length := ⟨by omega,by omega⟩
    rw [z4K.eq_2,if_pos (by simp only [decide_eq_true_eq]; omega),if_pos hw,wi64 (n := dd - 1) (by omega) (by omega),ih _ (zd4 _ l j hj) n (by omega)]
    simp only [bs]
    rw [if_neg (by simp),wj (by omega)]
    exact zq6 l hl N dd h1 h2 ih k (j + 1) n (by omega) (by omega)
theorem zwD (d n : Nat) (x : z00) (h : wf d x) (hd : d < 100) (hn : d * 2000000 ≤ n) : z6U n x (d : Int) = some true := by
  induction d generalizing n x with
  | zero => cases h
  | succ d ihd =>
    obtain ⟨n,rfl⟩ : ∃ m,n = m + 1 := ⟨n - 1,by omega⟩
    have h : Wf1 (wf d) x := h
    have a0 := h.k0; have a5 := h.k5; have il := h.il; have nl := h.nl
    have g1 := h.b; have g2 := h.nu; have g3 := h.t; have g4 := h.i; have g5 := h.na; have g6 := h.ni
    rw [z6U.eq_2,if_neg,zl8 _ _ h.ta h.tl (by omega)]
    · simp only [bs]
      rw [if_neg,show (0 : Int) = ((0 : Nat) : Int) from rfl,zvv _ x x.z0d nl h.ns h.nd x.z0d.length 0 n [] (by omega) (by omega) (fun _ _ => rfl)]
      · simp only [bs]
        rw [zq6 x.z09 il (d * 2000000) ((d + 1 : Nat) : Int) (by omega) (by omega) (fun y hy n hn => by
            rw [show (((d + 1 : Nat) : Int) - 1) = (d : Int) by omega]; exact ihd n y (h.all y hy) (by omega) hn) x.z09.length 0 n (by omega) (by omega)]
        simp only [bs]
      · simp only [Bool.or_eq_true,Bool.and_eq_true,decide_eq_true_eq,bne_iff_ne,beq_iff_eq,Bool.not_true]
        rintro ((h | h) | ⟨h,h'⟩)
        · cases h
        · omega
        · exact h' (by rw [g6 h])
    · simp only [Bool.or_eq_true,Bool.and_eq_true,decide_eq_true_eq,bne_iff_ne,beq_iff_eq,Bool.not_eq_true']
      rintro (((((((h | h) | h) | ⟨h,h'⟩) | ⟨h,h'⟩) | ⟨h,h'⟩) | ⟨h,h'⟩) | ⟨h,h'⟩)
      · omega
      · omega
      · omega
      · rw [g1 h'] at h; cases h
      · exact h (g2 h')
      · rw [g3 h'] at h; cases h
      · rw [g4 h'] at h; simp at h
      · rw [g5 h'] at h; simp at h
theorem zd7 (n : Nat) (x : z00) (h : wf 8 x) (hn : 16000000 ≤ n) : z3J n x = some true := by
  rw [z3J,show (8 : Int) = ((8 : Nat) : Int) from rfl,zwD 8 n x h (by omega) (by omega)]
  simp only [bs]
end Go.Proofs.YtchpeafokjmmeaaGreatDoorQ
set_option maxRecDepth 100000
set_option maxHeartbeats 2000000
namespace Go.Proofs.YtchpeafokjmmeaaGreatDoorQ
open Go Go.PE
def esc (c : Int) : Option Int := alk (fun y => c == y) (ast (fun y => 13 == y) 13 114 (ast (fun y => 12 == y) 12 102 (ast (fun y => 10 == y) 10 110 (ast (fun y => 9 == y) 9 116 (ast (fun y => 8 == y) 8 98 (ast (fun y => 92 == y) 92 92 (ast (fun y => 34 == y) 34 34 ([] : List (Int × Int)))))))))
def escB (c : Int) : Bool := (alk (fun y => c == y) (ast (fun y => 13 == y) 13 114 (ast (fun y => 12 == y) 12 102 (ast (fun y => 10 == y) 10 110 (ast (fun y => 9 == y) 9 116 (ast (fun y => 8 == y) 8 98 (ast (fun y => 92 == y) 92 92 (ast (fun y => 34 == y) 34 34 ([] : List (Int × Int)))))))))).isSome
def HX : Str := [48,49,50,51,52,53,54,55,56,57,97,98,99,100,101,102]
def qch (c : Int) : List Int := if escB c then [92,(esc c).getD 0] else if (decide (c < 32)) then [92,117,48,48,bt HX (shr .u8 c 4),bt HX (iand .u8 c 15)] else [c]
def rqch (c : Int) : List Int :=
  if ((c == 34) || (c == 92)) then [92,c]
  else if (((((c == 8) || (c == 9)) || (c == 10)) || (c == 12)) || (c == 13)) then [92,bt ([98,116,110,63,102,114] : Str) (w_u8 (c - 8))]
  else if (decide (c < 32)) then [92,117,48,48,bt ([48,49] : Str) (w_u8 (Int.tdiv c 16)),bt ([48,49,50,51,52,53,54,55,56,57,97,98,99,100,101,102] : Str) (Int.tmod c 16)]
  else [c]
theorem zuN (s : Str) (i : Int) : ∃ k : Fin 256,bt s i = ((k.val : Nat) : Int) := ⟨⟨(s.getD i.toNat 0).toNat,(s.getD i.toNat 0).toNat_lt⟩,rfl⟩
theorem zzw : ∀ k : Fin 256,rqch ((k.val : Nat) : Int) = qch ((k.val : Nat) : Int) := by decide +kernel
theorem zCF : ∀ k : Fin 256,within (shr .u8 ((k.val : Nat) : Int) 4) 16 ∧ within (iand .u8 ((k.val : Nat) : Int) 15) 16 := by decide +kernel
theorem zCC : ∀ k : Fin 256,(((((((k.val : Nat) : Int) == 8) || (((k.val : Nat) : Int) == 9)) || (((k.val : Nat) : Int) == 10)) || (((k.val : Nat) : Int) == 12)) || (((k.val : Nat) : Int) == 13)) = true → within (w_u8 (((k.val : Nat) : Int) - 8)) 6 := by decide +kernel
theorem zDt : ∀ k : Fin 256,((k.val : Nat) : Int) < 32 → within (w_u8 (Int.tdiv ((k.val : Nat) : Int) 16)) 2 ∧ within (Int.tmod ((k.val : Nat) : Int) 16) 16 := by decide +kernel
theorem zCZ : ∀ k : Fin 256,(qch ((k.val : Nat) : Int)).length ≤ 6 ∧ 1 ≤ (qch ((k.val : Nat) : Int)).length ∧ ∀ x ∈ qch ((k.val : Nat) : Int),0 ≤ x ∧ x < 256 := by decide +kernel
theorem zz2 (s : Str) (i : Int) : rqch (bt s i) = qch (bt s i) := by obtain ⟨k,e⟩ := zuN s i; rw [e]; exact zzw k
theorem zwC (s : Str) (i : Int) : (qch (bt s i)).length ≤ 6 := by obtain ⟨k,e⟩ := zuN s i; rw [e]; exact (zCZ k).1
def qF (s : Str) : List Int := (bytesOf s).flatMap qch
def z4k (s : Str) : List Int := 34 :: (qF s ++ [34])
theorem bytes_at (s : Str) (j : Nat) (h : j < s.length) : (bytesOf s).drop j = bt s (j : Int) :: (bytesOf s).drop (j + 1) := by
  rw [List.drop_eq_getElem_cons (by rw [z5V]; exact h)]
  congr 1
  simp [bytesOf,wr8,bt,List.getD_eq_getElem?_getD,h]
theorem zAv (s : Str) : (qF s).length ≤ 6 * s.length := by
  have : ∀ l : List UInt8,((bytesOf l).flatMap qch).length ≤ 6 * l.length := fun l => by
    induction l with
    | nil => simp [bytesOf]
    | cons a r ih =>
      have h := zwC [a] 0
      have e : bt [a] 0 = wr8 a := rfl
      rw [e] at h
      simp only [bytesOf,List.map_cons,List.flatMap_cons,List.length_append,List.length_cons] at *
      omega
  exact this s
theorem zvk (s : Str) (hs : s.length ≤ 1000000) : ∀ k j n b,j + k = s.length → k + 1 ≤ n → b.length + 6 * k ≤ 2000000000000 → z1T n s (s.length : Int) (j : Int) b = some (b ++ ((bytesOf s).drop j).flatMap qch)
  | 0,j,n,b,h,hn,hb => by
    obtain ⟨n,rfl⟩ : ∃ m,n = m + 1 := ⟨n - 1,by omega⟩
    rw [z1T.eq_2,if_neg (by simp only [decide_eq_true_eq]; omega),List.drop_of_length_le (by rw [z5V]; omega)]; simp
  | k + 1,j,n,b,h,hn,hb => by
    obtain ⟨n,rfl⟩ : ∃ m,n = m + 1 := ⟨n - 1,by omega⟩
    have hj : j < s.length := by omega
    have hw : within (j : Int) s.length := ⟨by omega,by omega⟩
    have ih := fun b' (hb' : b'.length + 6 * k ≤ 2000000000000) => zvk s hs k (j + 1) n b' (by omega) (by omega) hb'
    have hq : b ++ ((bytesOf s).drop j).flatMap qch = (b ++ qch (bt s (j : Int))) ++ ((bytesOf s).drop (j + 1)).flatMap qch := by
      rw [bytes_at s j hj,List.flatMap_cons,List.append_assoc]
    have hg : (within (shr .u8 (bt s (j : Int)) 4) 16 ∧ within (iand .u8 (bt s (j : Int)) 15) 16) := by
      obtain ⟨f,e⟩ := zuN s (j : Int); rw [e]; exact zCF f
    rw [z1T.eq_2,if_pos (by simp only [decide_eq_true_eq]; omega),if_pos hw,hq,wj (by omega)]
    have hl := zwC s (j : Int)
    rw [← ih _ (by rw [List.length_append]; omega)]
    generalize bt s (j : Int) = c at hl hg ⊢
    unfold qch at hl ⊢
    by_cases e1 : escB c
    · rw [if_pos e1] at hl ⊢
      refine (if_pos (show _ from e1)).trans ?_
      rw [if_pos (by show _ ≤ _; simp; omega)]
      rfl
    · rw [if_neg e1] at hl ⊢
      refine (if_neg (show _ from e1)).trans ?_
      by_cases e2 : (decide (c < 32)) = true
      · rw [if_pos e2] at hl ⊢
        rw [if_pos e2,if_pos hg.1,if_pos hg.2,if_pos (by show _ ≤ _; simp; omega)]
        rfl
      · rw [if_neg e2] at hl ⊢
        rw [if_neg e2,if_pos (by show _ ≤ _; omega)]
theorem zr0 (n : Nat) (s : Str) (b : List Int) (hs : s.length ≤ 1000000) (hb : b.length ≤ 1000000000000) (hn : 2000000 ≤ n) : z3R n s b = some (b ++ z4k s) := by
  have h := zAv s
  rw [z3R,z9f]
  simp only [bs]
  rw [if_pos (by show _ ≤ _; omega),show (0 : Int) = ((0 : Nat) : Int) from rfl,zvk s hs s.length 0 n (b ++ [34]) (by omega) (by omega) (by simp; omega)]
  simp only [bs,List.drop_zero]
  rw [← qF,if_pos (by show _ ≤ _; simp; omega)]
  simp [z4k]
theorem zvr (s : Str) (hs : s.length ≤ 1000000) : ∀ k j n b,j + k = s.length → k + 1 ≤ n → b.length + 6 * k ≤ 2000000000000 → z2J n s (s.length : Int) (j : Int) b = some (b ++ ((bytesOf s).drop j).flatMap qch)
  | 0,j,n,b,h,hn,hb => by
    obtain ⟨n,rfl⟩ : ∃ m,n = m + 1 := ⟨n - 1,by omega⟩
    rw [z2J.eq_2,if_neg (by simp only [decide_eq_true_eq]; omega),List.drop_of_length_le (by rw [z5V]; omega)]; simp
  | k + 1,j,n,b,h,hn,hb => by
    obtain ⟨n,rfl⟩ : ∃ m,n = m + 1 := ⟨n - 1,by omega⟩
    have hj : j < s.length := by omega
    have hw : within (j : Int) s.length := ⟨by omega,by omega⟩
    have ih := fun b' (hb' : b'.length + 6 * k ≤ 2000000000000) => zvr s hs k (j + 1) n b' (by omega) (by omega) hb'
    have hl := zwC s (j : Int)
    have hq : b ++ ((bytesOf s).drop j).flatMap qch = (b ++ rqch (bt s (j : Int))) ++ ((bytesOf s).drop (j + 1)).flatMap qch := by
      rw [bytes_at s j hj,List.flatMap_cons,List.append_assoc,zz2]
    rw [← zz2] at hl
    have h2 := (fun f => by obtain ⟨k,e⟩ := zuN s (j : Int); rw [e] at f ⊢; exact zCC k f : (((((bt s (j : Int) == 8) || (bt s (j : Int) == 9)) || (bt s (j : Int) == 10)) || (bt s (j : Int) == 12)) || (bt s (j : Int) == 13)) = true → within (w_u8 (bt s (j : Int) - 8)) 6)
    have h3 := (fun f => by obtain ⟨k,e⟩ := zuN s (j : Int); rw [e] at f ⊢; exact zDt k f : bt s (j : Int) < 32 → within (w_u8 (Int.tdiv (bt s (j : Int)) 16)) 2 ∧ within (Int.tmod (bt s (j : Int)) 16) 16)
    rw [z2J.eq_2,if_pos (by simp only [decide_eq_true_eq]; omega),if_pos hw,hq,wj (by omega)]
    rw [← ih _ (by rw [List.length_append]; omega)]
    generalize bt s (j : Int) = c at hl h2 h3 ⊢
    unfold rqch at hl ⊢
    split
    · rename_i e1
      rw [if_pos e1] at hl
      rw [if_pos (by show _ ≤ _; omega)]
    · rename_i e1
      rw [if_neg e1] at hl
      split
      · rename_i e2
        rw [if_pos e2] at hl
        rw [if_pos (h2 e2),if_pos (by show _ ≤ _; simp; omega)]
      · rename_i e2
        rw [if_neg e2] at hl
        split
        · rename_i e3
          rw [if_pos e3] at hl
          have e4 := h3 (by simpa using e3)
          rw [if_pos e4.1,if_pos e4.2,if_pos (by show _ ≤ _; simp; omega)]
        · rw [if_pos (by show _ ≤ _; omega)]
theorem zvg (n : Nat) (s : Str) (hs : s.length ≤ 1000000) (hn : 2000000 ≤ n) : z8V n s = some (strOf (z4k s)) := by
  have h := zAv s
  rw [z8V,show (0 : Int) = ((0 : Nat) : Int) from rfl,zvr s hs s.length 0 n [34] (by omega) (by omega) (by simp; omega)]
  simp only [bs,List.drop_zero]
  rw [← qF,if_pos (by show _ ≤ _; simp; omega)]
  simp [z4k]
theorem zvo (n : Nat) (x : Int) (b : List Int) (h0 : -9223372036854775808 ≤ x) (h1 : x < 9223372036854775808) (hb : b.length ≤ 1000000000000) : z2C n x 10 b = some (b ++ bytesOf (Lib.itoa x)) := by
  rw [z2C,z1i]
  have eu : z3S x = x % 18446744073709551616 := rfl
  have ev : z3S (0 - x % 18446744073709551616) = (0 - x % 18446744073709551616) % 18446744073709551616 := rfl
  by_cases hx : x < 0
  · rw [if_pos (by simpa using hx),if_pos (by show _ ≤ _; omega),eu,ev,z18,if_pos ⟨rfl,by omega,by omega,by simp; omega⟩]
    simp only [bs]
    rw [Lib.itoa,if_pos hx,show ((0 - x % 18446744073709551616) % 18446744073709551616).toNat = x.natAbs by omega,List.append_assoc]
    rfl
  · rw [if_neg (by simpa using hx),eu,z18,if_pos ⟨rfl,by omega,by omega,by omega⟩]
    simp only [bs]
    rw [Lib.itoa,if_neg hx,show (x % 18446744073709551616).toNat = x.toNat by omega]
def z3p (f : z00 → List Int) (m : Bool) : Bool → List Str → List z00 → List Int
  | _,_,[] => []
  | first,ns,x :: r => (if first then [] else [44]) ++ ((if m then z4k (ns.headD []) ++ [58] else []) ++ (f x ++ z3p f m false ns.tail r))
def encF : Nat → z00 → List Int
  | 0,_ => []
  | d + 1,x =>
    if x.z0i = 0 then bytesOf ([110,117,108,108] : Str)
    else if x.z0i = 1 then (if x.z0K then bytesOf ([116,114,117,101] : Str) else bytesOf ([102,97,108,115,101] : Str))
    else if x.z0i = 2 then bytesOf (Lib.itoa x.z0n)
    else if x.z0i = 3 then z4k x.z0D
    else if x.z0i = 5 then 123 :: (z3p (encF d) true true x.z0d x.z09 ++ [125])
    else 91 :: (z3p (encF d) false true x.z0d x.z09 ++ [93])
theorem zn4 {α : Type} (d : α) (l : List α) (j : Nat) (h : j < l.length) : l.drop j = rd d l (j : Int) :: l.drop (j + 1) := by
  rw [z9d d l j h,List.drop_eq_getElem_cons h]
theorem zAy (x : z00) (mk : Str) (f : z00 → List Int) (N : Nat) (hN : 2000000 ≤ N) (hl : x.z09.length ≤ 1000000) (hm : x.z0i = 5 → x.z0d.length = x.z09.length) (hs : ∀ s ∈ x.z0d,s.length ≤ 1000000)
    (ih : ∀ y ∈ x.z09,∀ n b,N ≤ n → b.length + (f y).length ≤ 1000000000000 → z3G n y b = some (b ++ f y)) :
    ∀ k j n b,j + k = x.z09.length → N + 2 * k + 2 ≤ n → b.length + (z3p f (x.z0i == 5) (j == 0) (x.z0d.drop j) (x.z09.drop j)).length ≤ 1000000000000 → z3N n mk x.z09 (x.z09.length : Int) (j : Int) b x = some (mk,b ++ z3p f (x.z0i == 5) (j == 0) (x.z0d.drop j) (x.z09.drop j))
  | 0,j,n,b,h,hn,hb => by
    obtain ⟨n,rfl⟩ : ∃ m,n = m + 1 := ⟨n - 1,by omega⟩
    rw [z3N.eq_2,if_neg (by simp only [decide_eq_true_eq]; omega),List.drop_of_length_le (l := x.z09) (by omega)]
    simp [z3p]
  | k + 1,j,n,b,h,hn,hb => by
    obtain ⟨n,rfl⟩ : ∃ m,n = m + 2 := ⟨n - 2,by omega⟩
    have hj : j < x.z09.length := by omega
    have hw : within (j : Int) x.z09.length := ⟨by omega,by omega⟩
    have nxt := zAy x mk f N hN hl hm hs ih k (j + 1) n
    rw [show ((j + 1 == 0) = false) from rfl] at nxt
    rw [zn4 z00.dft x.z09 j hj,z3p,List.tail_drop] at hb ⊢
    have hx := zd4 z00.dft x.z09 j hj
    generalize hy : rd z00.dft x.z09 (j : Int) = y at hb hx ⊢
    have j2 : ∀ b',b'.length + ((if (x.z0i == 5) = true then z4k ((x.z0d.drop j).headD []) ++ [58] else []) ++ (f y ++ z3p f (x.z0i == 5) false (x.z0d.drop (j + 1)) (x.z09.drop (j + 1)))).length ≤ 1000000000000 →
        z5N (n + 1) mk (j : Int) x.z09 (x.z09.length : Int) (j : Int) b' x y = some (mk,b' ++ ((if (x.z0i == 5) = true then z4k ((x.z0d.drop j).headD []) ++ [58] else []) ++ (f y ++ z3p f (x.z0i == 5) false (x.z0d.drop (j + 1)) (x.z09.drop (j + 1))))) := by
      intro b' hb'
      rw [z5N.eq_2,wj (by omega)]
      by_cases e : (x.z0i == 5) = true
      · simp only [e,if_true] at hb' nxt ⊢
        have hn' : j < x.z0d.length := by rw [hm (by simpa using e)]; exact hj
        rw [zn4 [] x.z0d j hn',List.headD_cons] at hb' ⊢
        have hns := hs _ (zd4 [] x.z0d j hn')
        generalize rd [] x.z0d (j : Int) = s at hb' hns ⊢
        simp only [List.length_append,List.length_cons,List.length_nil] at hb'
        rw [if_pos ⟨by omega,by omega⟩,zr0 n s b' hns (by omega) (by omega)]
        simp only [bs]
        rw [if_pos (by show _ ≤ _; simp only [List.length_append]; omega),ih y hx n _ (by omega) (by simp only [List.length_append,List.length_cons,List.length_nil]; omega)]
        simp only [bs]
        rw [nxt _ (by omega) (by omega) (by simp only [List.length_append,List.length_cons,List.length_nil]; omega)]
        simp only [List.append_assoc]
      · simp only [e,if_false,List.nil_append,Bool.false_eq_true] at hb' nxt ⊢
        simp only [List.length_append] at hb'
        rw [ih y hx n _ (by omega) (by omega)]
        simp only [bs]
        rw [nxt _ (by omega) (by omega) (by simp only [List.length_append]; omega)]
        simp only [List.append_assoc]
    rw [show n + 2 = (n + 1) + 1 by omega,z3N.eq_2,if_pos (by simp only [decide_eq_true_eq]; omega),if_pos hw]
    rw [hy]
    by_cases e : (j == 0) = true
    · have e0 : j = 0 := by simpa using e
      rw [if_neg (by simp only [decide_eq_true_eq]; omega)]
      simp only [e,if_true,List.nil_append] at hb ⊢
      exact j2 b hb
    · have e0 : j ≠ 0 := by simpa using e
      rw [if_pos (by simp only [decide_eq_true_eq]; omega),if_pos (by show _ ≤ _; omega)]
      simp only [e,if_false,Bool.false_eq_true] at hb ⊢
      rw [j2 (b ++ [44]) (by simp only [List.length_append,List.length_cons,List.length_nil] at hb ⊢; omega)]
      simp only [List.append_assoc]
theorem zDm (d n : Nat) (x : z00) (b : List Int) (h : wf d x) (hn : d * 3000000 + 2000000 ≤ n) (hb : b.length + (encF d x).length ≤ 1000000000000) : z3G n x b = some (b ++ encF d x) := by
  induction d generalizing n x b with
  | zero => cases h
  | succ d ihd =>
    obtain ⟨n,rfl⟩ : ∃ m,n = m + 2 := ⟨n - 2,by omega⟩
    have h : Wf1 (wf d) x := h
    have h0 := h.k0; have h5 := h.k5; have hl := h.il; have hns := h.ns; have htl := h.tl; have nl := h.nl
    have loop := fun mk b hb => zAy x mk (encF d) (d * 3000000 + 2000000) (by omega) (by omega) h.ni (fun s hs => by have := (hns s hs).2; omega) (fun y hy n b hn hb => ihd n y b (h.all y hy) hn hb) x.z09.length 0 n b (by omega) (by omega) hb
    simp only [Int.natCast_zero,List.drop_zero,beq_self_eq_true] at loop
    rw [show n + 2 = (n + 1) + 1 by omega,z3G.eq_2]
    simp only [encF,beq_iff_eq] at hb ⊢
    by_cases e0 : x.z0i = 0
    · rw [if_pos e0] at hb ⊢
      rw [if_pos e0,if_pos (by show _ ≤ _; omega)]
    rw [if_neg e0] at hb ⊢
    rw [if_neg e0]
    by_cases e1 : x.z0i = 1
    · rw [if_pos e1] at hb ⊢
      rw [if_pos e1,z2Z,z1a]
      split <;> (rename_i e; simp only [e,if_true,if_false,Bool.false_eq_true] at hb ⊢; rw [if_pos (by show _ ≤ _; omega)]; simp only [bs])
    rw [if_neg e1] at hb ⊢
    rw [if_neg e1]
    by_cases e2 : x.z0i = 2
    · rw [if_pos e2] at hb ⊢
      rw [if_pos e2,zvo _ _ _ h.n0 h.n1 (by omega)]
      simp only [bs]
    rw [if_neg e2] at hb ⊢
    rw [if_neg e2]
    by_cases e3 : x.z0i = 3
    · rw [if_pos e3] at hb ⊢
      rw [if_pos e3,zr0 _ _ _ (by omega) (by omega) (by omega)]
      simp only [bs]
    rw [if_neg e3] at hb ⊢
    rw [if_neg e3]
    by_cases e5 : x.z0i = 5
    · have ek : (x.z0i == 5) = true := by simpa using e5
      rw [ek] at loop
      rw [if_pos e5] at hb ⊢
      simp only [List.length_cons,List.length_append,List.length_nil] at hb
      rw [if_pos e5,z5T.eq_2,if_pos ⟨by omega,by simp⟩,if_pos (by show _ ≤ _; omega),loop _ _ (by simp only [List.length_append,List.length_cons,List.length_nil]; omega)]
      simp only [bs]
      rw [if_pos ⟨by omega,by simp⟩,if_pos (by show _ ≤ _; simp only [List.length_append,List.length_cons,List.length_nil]; omega)]
      simp only [List.append_assoc]
      rfl
    · have ek : (x.z0i == 5) = false := by simpa using e5
      rw [ek] at loop
      rw [if_neg e5] at hb ⊢
      simp only [List.length_cons,List.length_append,List.length_nil] at hb
      rw [if_neg e5,z5T.eq_2,if_pos ⟨by omega,by simp⟩,if_pos (by show _ ≤ _; omega),loop _ _ (by simp only [List.length_append,List.length_cons,List.length_nil]; omega)]
      simp only [bs]
      rw [if_pos ⟨by omega,by simp⟩,if_pos (by show _ ≤ _; simp only [List.length_append,List.length_cons,List.length_nil]; omega)]
      simp only [List.append_assoc]
      rfl
end Go.Proofs.YtchpeafokjmmeaaGreatDoorQ
set_option maxRecDepth 100000
set_option maxHeartbeats 2000000
namespace Go.Proofs.YtchpeafokjmmeaaGreatDoorQ
open Go Go.PE
theorem zzd (x : z00) (mk : Str) (f : z00 → List Int) (N : Nat) (hN : 2000000 ≤ N) (hl : x.z09.length ≤ 1000000) (hm : x.z0i = 5 → x.z0d.length = x.z09.length) (hs : ∀ s ∈ x.z0d,s.length ≤ 1000000)
    (ih : ∀ y ∈ x.z09,∀ n b,N ≤ n → b.length + (f y).length ≤ 1000000000000 → z3G n y b = some (b ++ f y)) :
    ∀ k j n b,j + k = x.z09.length → N + 2 * k + 2 ≤ n → b.length + (z3p f (x.z0i == 5) (j == 0) (x.z0d.drop j) (x.z09.drop j)).length ≤ 1000000000000 → z6Q n mk x.z09 (x.z09.length : Int) (j : Int) b x = some (mk,b ++ z3p f (x.z0i == 5) (j == 0) (x.z0d.drop j) (x.z09.drop j))
  | 0,j,n,b,h,hn,hb => by
    obtain ⟨n,rfl⟩ : ∃ m,n = m + 1 := ⟨n - 1,by omega⟩
    rw [z6Q.eq_2,if_neg (by simp only [decide_eq_true_eq]; omega),List.drop_of_length_le (l := x.z09) (by omega)]
    simp [z3p]
  | k + 1,j,n,b,h,hn,hb => by
    obtain ⟨n,rfl⟩ : ∃ m,n = m + 2 := ⟨n - 2,by omega⟩
    have hj : j < x.z09.length := by omega
    have hw : within (j : Int) x.z09.length := ⟨by omega,by omega⟩
    have nxt   := zzd x mk f N hN hl hm hs ih k (j + 1) n
    rw [show ((j + 1 == 0) = false) from rfl] at nxt
    rw [zn4 z00.dft x.z09 j hj,z3p,List.tail_drop] at hb ⊢
    have hx := zd4 z00.dft x.z09 j hj
    generalize hy : rd z00.dft x.z09 (j : Int) = y at hb hx ⊢
    have j2 : ∀ b',b'.length + ((if (x.z0i == 5) = true then z4k ((x.z0d.drop j).headD []) ++ [58] else []) ++ (f y ++ z3p f (x.z0i == 5) false (x.z0d.drop (j + 1)) (x.z09.drop (j + 1)))).length ≤ 1000000000000 →
        z9b (n + 1) mk (j : Int) x.z09 (x.z09.length : Int) (j : Int) b' x y = some (mk,b' ++ ((if (x.z0i == 5) = true then z4k ((x.z0d.drop j).headD []) ++ [58] else []) ++ (f y ++ z3p f (x.z0i == 5) false (x.z0d.drop (j + 1)) (x.z09.drop (j + 1))))) := by
      intro b' hb'
      rw [z9b.eq_2,wj (by omega)]
      by_cases e : (x.z0i == 5) = true
      · simp only [e,if_true] at hb' nxt ⊢
        have hn' : j < x.z0d.length := by rw [hm (by simpa using e)]; exact hj
        rw [zn4 [] x.z0d j hn',List.headD_cons] at hb' ⊢
        have hns := hs _ (zd4 [] x.z0d j hn')
        generalize rd [] x.z0d (j : Int) = s at hb' hns ⊢
        simp only [List.length_append,List.length_cons,List.length_nil] at hb'
        rw [if_pos ⟨by omega,by omega⟩,zr0 n s b' hns (by omega) (by omega)]
        simp only [bs]
        rw [if_pos (by show _ ≤ _; simp only [List.length_append]; omega),ih y hx n _ (by omega) (by simp only [List.length_append,List.length_cons,List.length_nil]; omega)]
        simp only [bs]
        rw [nxt _ (by omega) (by omega) (by simp only [List.length_append,List.length_cons,List.length_nil]; omega)]
        simp only [List.append_assoc]
      · simp only [e,if_false,List.nil_append,Bool.false_eq_true] at hb' nxt ⊢
        simp only [List.length_append] at hb'
        rw [ih y hx n _ (by omega) (by omega)]
        simp only [bs]
        rw [nxt _ (by omega) (by omega) (by simp only [List.length_append]; omega)]
        simp only [List.append_assoc]
    rw [show n + 2 = (n + 1) + 1 by omega,z6Q.eq_2,if_pos (by simp only [decide_eq_true_eq]; omega),if_pos hw]
    rw [hy]
    by_cases e : (j == 0) = true
    · have e0 : j = 0 := by simpa using e
      rw [if_neg (by simp only [decide_eq_true_eq]; omega)]
      simp only [e,if_true,List.nil_append] at hb ⊢
      exact j2 b hb
    · have e0 : j ≠ 0 := by simpa using e
      rw [if_pos (by simp only [decide_eq_true_eq]; omega),if_pos (by show _ ≤ _; omega)]
      simp only [e,if_false,Bool.false_eq_true] at hb ⊢
      rw [j2 (b ++ [44]) (by simp only [List.length_append,List.length_cons,List.length_nil] at hb ⊢; omega)]
      simp only [List.append_assoc]
theorem zCl (d n : Nat) (x : z00) (h : wf (d + 1) x) (hk : 4 ≤ x.z0i) (hn : (d + 1) * 3000000 + 2000000 ≤ n) (hb : (encF (d + 1) x).length ≤ 1000000000) : zdY n x = some (encF (d + 1) x) := by
  have h : Wf1 (wf d) x := h
  have h0 := h.k0; have h5 := h.k5; have hl := h.il; have hns := h.ns; have htl := h.tl; have nl := h.nl
  have hN : 2000000 ≤ d * 3000000 + 2000000 := Nat.le_add_left _ _
  have hn1 : d * 3000000 + 2000000 + 2 * x.z09.length + 2 ≤ n := by
    clear hb
    omega
  have loop := fun mk b hb => zzd x mk (encF d) (d * 3000000 + 2000000) hN (by omega) h.ni (fun s hs => by have := (hns s hs).2; omega) (fun y hy n b hn hb => zDm d n y b (h.all y hy) hn hb) x.z09.length 0 n b (by omega) hn1 hb
  simp only [Int.natCast_zero,List.drop_zero,beq_self_eq_true] at loop
  rw [zdY]
  simp only [encF,beq_iff_eq] at hb ⊢
  have g0 : ¬ x.z0i = 0 := by omega
  have g1 : ¬ x.z0i = 1 := by omega
  have g2 : ¬ x.z0i = 2 := by omega
  have g3 : ¬ x.z0i = 3 := by omega
  simp only [if_neg g0,if_neg g1,if_neg g2,if_neg g3] at hb ⊢
  by_cases e5 : x.z0i = 5
  · have ek : (x.z0i == 5) = true := by simpa using e5
    rw [ek] at loop
    simp only [if_pos e5] at hb ⊢
    simp only [List.length_cons,List.length_append,List.length_nil] at hb
    rw [zb2,if_pos ⟨by omega,by simp⟩,loop _ _ (by simp only [List.length_append,List.length_cons,List.length_nil,encF] at hb ⊢; omega)]
    simp only [bs]
    rw [if_pos ⟨by omega,by simp⟩,if_pos (by show _ ≤ _; simp only [List.length_append,List.length_cons,List.length_nil]; omega)]
    rfl
  · have ek : (x.z0i == 5) = false := by simpa using e5
    rw [ek] at loop
    simp only [if_neg e5] at hb ⊢
    simp only [List.length_cons,List.length_append,List.length_nil] at hb
    rw [zb2,if_pos ⟨by omega,by simp⟩,loop _ _ (by simp only [List.length_append,List.length_cons,List.length_nil]; omega)]
    simp only [bs]
    rw [if_pos ⟨by omega,by simp⟩,if_pos (by show _ ≤ _; simp only [List.length_append,List.length_cons,List.length_nil]; omega)]
    rfl
theorem put_eq (n : Nat) (x : z00) (h : wf 8 x) (hk : 4 ≤ x.z0i) (hn : 30000000 ≤ n) (hb : (encF 8 x).length ≤ 1000000000) : zdY n x = some (encF 8 x) := by
  have hn' : (7 + 1) * 3000000 + 2000000 ≤ n := by omega
  have q := zCl 7 n x h hk hn'
  exact q hb
theorem zrD (n : Nat) (x : z00) (h : wf 8 x) (hk : 4 ≤ x.z0i) (hn : 30000000 ≤ n) (hb : (encF 8 x).length ≤ 65536) : zaV n x = some (strOf (encF 8 x),0) := by
  rw [zaV,z9V,zxe n x h (by omega)]
  simp only [bs]
  rw [if_neg (by simp),put_eq n x h hk hn (by omega)]
  simp only [bs]
  rw [if_neg (by simp only [decide_eq_true_eq]; omega)]
  simp only [bs]
theorem zxl (x : z00) (f : z00 → List Int) (N : Nat) (hN : 2000000 ≤ N) (hl : x.z09.length ≤ 1000000) (hm : x.z0i = 5 → x.z0d.length = x.z09.length) (hs : ∀ s ∈ x.z0d,s.length ≤ 1000000)
    (ih : ∀ y ∈ x.z09,∀ n,N ≤ n → (f y).length ≤ 1000000000000 → z5L n y = some (strOf (f y))) :
    ∀ k j n (b : Str),j + k = x.z09.length → N + 2 * k + 2 ≤ n → b.length + (z3p f (x.z0i == 5) (j == 0) (x.z0d.drop j) (x.z09.drop j)).length ≤ 1000000000000 → z3g n b x.z09 (x.z09.length : Int) (j : Int) x = some (b ++ strOf (z3p f (x.z0i == 5) (j == 0) (x.z0d.drop j) (x.z09.drop j)),x)
  | 0,j,n,b,h,hn,hb => by
    obtain ⟨n,rfl⟩ : ∃ m,n = m + 1 := ⟨n - 1,by omega⟩
    rw [z3g.eq_2,if_neg (by simp only [decide_eq_true_eq]; omega),List.drop_of_length_le (l := x.z09) (by omega)]
    simp [z3p,strOf]
  | k + 1,j,n,b,h,hn,hb => by
    obtain ⟨n,rfl⟩ : ∃ m,n = m + 2 := ⟨n - 2,by omega⟩
    have hj : j < x.z09.length := by omega
    have hw : within (j : Int) x.z09.length := ⟨by omega,by omega⟩
    have nxt := zxl x f N hN hl hm hs ih k (j + 1) n
    rw [show ((j + 1 == 0) = false) from rfl] at nxt
    rw [zn4 z00.dft x.z09 j hj,z3p,List.tail_drop] at hb ⊢
    have hx := zd4 z00.dft x.z09 j hj
    generalize hy : rd z00.dft x.z09 (j : Int) = y at hb hx ⊢
    have j2 : ∀ b' : Str,b'.length + ((if (x.z0i == 5) = true then z4k ((x.z0d.drop j).headD []) ++ [58] else []) ++ (f y ++ z3p f (x.z0i == 5) false (x.z0d.drop (j + 1)) (x.z09.drop (j + 1)))).length ≤ 1000000000000 →
        z5R (n + 1) b' (j : Int) x.z09 (x.z09.length : Int) (j : Int) x y = some (b' ++ strOf ((if (x.z0i == 5) = true then z4k ((x.z0d.drop j).headD []) ++ [58] else []) ++ (f y ++ z3p f (x.z0i == 5) false (x.z0d.drop (j + 1)) (x.z09.drop (j + 1)))),x) := by
      intro b' hb'
      rw [z5R.eq_2,wj (by omega)]
      by_cases e : (x.z0i == 5) = true
      · simp only [e,if_true] at hb' nxt ⊢
        have hn' : j < x.z0d.length := by rw [hm (by simpa using e)]; exact hj
        rw [zn4 [] x.z0d j hn',List.headD_cons] at hb' ⊢
        have hns := hs _ (zd4 [] x.z0d j hn')
        generalize rd [] x.z0d (j : Int) = s at hb' hns ⊢
        simp only [List.length_append,List.length_cons,List.length_nil] at hb'
        rw [if_pos ⟨by omega,by omega⟩,zvg n s hns (by omega)]
        simp only [bs]
        have e58 : ([58] : Str) = strOf [58] := rfl
        rw [if_pos (by show _ ≤ _; simp only [z1j]; omega),if_pos (by show _ ≤ _; simp only [List.length_append,z1j,List.length_cons,List.length_nil]; omega),ih y hx n (by omega) (by omega)]
        simp only [bs]
        rw [if_pos (by show _ ≤ _; simp only [List.length_append,z1j,List.length_cons,List.length_nil]; omega),nxt _ (by omega) (by omega) (by simp only [List.length_append,z1j,List.length_cons,List.length_nil]; omega)]
        simp only [List.append_assoc,z4L,e58]
      · simp only [e,if_false,List.nil_append,Bool.false_eq_true] at hb' nxt ⊢
        simp only [List.length_append] at hb'
        rw [ih y hx n (by omega) (by omega)]
        simp only [bs]
        rw [if_pos (by show _ ≤ _; simp only [z1j]; omega),nxt _ (by omega) (by omega) (by simp only [List.length_append,z1j]; omega)]
        simp only [List.append_assoc,z4L]
    rw [show n + 2 = (n + 1) + 1 by omega,z3g.eq_2,if_pos (by simp only [decide_eq_true_eq]; omega),if_pos hw]
    rw [hy]
    by_cases e : (j == 0) = true
    · have e0 : j = 0 := by simpa using e
      rw [if_neg (by simp only [decide_eq_true_eq]; omega)]
      simp only [e,if_true,List.nil_append] at hb ⊢
      exact j2 b hb
    · have e0 : j ≠ 0 := by simpa using e
      rw [if_pos (by simp only [decide_eq_true_eq]; omega),if_pos (by show _ ≤ _; omega)]
      simp only [e,if_false,Bool.false_eq_true] at hb ⊢
      rw [j2 (b ++ [44]) (by simp only [List.length_append,List.length_cons,List.length_nil] at hb ⊢; omega)]
      simp only [List.append_assoc,z4L]
      rfl
theorem zzL (d n : Nat) (x : z00) (h : wf d x) (hn : d * 3000000 + 2000000 ≤ n) (hb : (encF d x).length ≤ 1000000000000) : z5L n x = some (strOf (encF d x)) := by
  induction d generalizing n x with
  | zero => cases h
  | succ d ihd =>
    obtain ⟨n,rfl⟩ : ∃ m,n = m + 1 := ⟨n - 1,by omega⟩
    have h : Wf1 (wf d) x := h
    have h0 := h.k0; have h5 := h.k5; have hl := h.il; have hns := h.ns; have htl := h.tl; have nl := h.nl
    have loop := fun hb => zxl x (encF d) (d * 3000000 + 2000000) (by omega) (by omega) h.ni (fun s hs => by have := (hns s hs).2; omega) (fun y hy n hn hb => ihd n y (h.all y hy) hn hb) x.z09.length 0 n [] (by omega) (by omega) hb
    simp only [Int.natCast_zero,List.drop_zero,beq_self_eq_true,List.nil_append] at loop
    rw [z5L.eq_2]
    simp only [encF,beq_iff_eq] at hb ⊢
    by_cases e0 : x.z0i = 0
    · rw [if_pos e0] at hb ⊢
      rw [if_neg (by omega),if_neg (by omega),if_neg (by omega),if_neg (by omega),if_neg (by omega)]
      rfl
    rw [if_neg e0] at hb ⊢
    by_cases e1 : x.z0i = 1
    · rw [if_pos e1] at hb ⊢
      rw [if_pos e1,strconv_FormatBool,internal_strconv_FormatBool]
      split <;> (rename_i e; simp only [bs,zcs])
    rw [if_neg e1] at hb ⊢
    rw [if_neg e1]
    by_cases e2 : x.z0i = 2
    · rw [if_pos e2] at hb ⊢
      have n0 := h.n0; have n1 := h.n1
      rw [if_pos e2,strconv_Itoa,internal_strconv_Itoa,if_pos ⟨by omega,by omega⟩]
      simp only [bs,zcs]
    rw [if_neg e2] at hb ⊢
    rw [if_neg e2]
    by_cases e3 : x.z0i = 3
    · rw [if_pos e3] at hb ⊢
      rw [if_pos e3,zvg _ _ (by omega) (by omega)]
      simp only [bs]
    rw [if_neg e3] at hb ⊢
    rw [if_neg e3]
    by_cases e5 : x.z0i = 5
    · have ek : (x.z0i == 5) = true := by simpa using e5
      rw [ek] at loop
      rw [if_pos e5] at hb ⊢
      simp only [List.length_cons,List.length_append,List.length_nil] at hb
      rw [if_neg (by omega),if_pos e5,loop (by simp only [List.length_nil]; omega)]
      simp only [bs]
      rw [if_pos e5,if_pos (by show _ ≤ _; simp only [z1j]; omega),if_pos (by show _ ≤ _; simp only [List.length_append,z1j,List.length_cons,List.length_nil]; omega)]
      rw [show ∀ l : List Int,(123 : Int) :: (l ++ [125]) = [123] ++ l ++ [125] from fun l => rfl,z4L,z4L]
      rfl
    · have ek : (x.z0i == 5) = false := by simpa using e5
      rw [ek] at loop
      rw [if_neg e5] at hb ⊢
      simp only [List.length_cons,List.length_append,List.length_nil] at hb
      rw [if_pos (by omega),loop (by simp only [List.length_nil]; omega)]
      simp only [bs]
      rw [if_neg e5,if_pos (by show _ ≤ _; simp only [z1j]; omega),if_pos (by show _ ≤ _; simp only [List.length_append,z1j,List.length_cons,List.length_nil]; omega)]
      rw [if_neg e5,show ∀ l : List Int,(91 : Int) :: (l ++ [93]) = [91] ++ l ++ [93] from fun l => rfl,z4L,z4L]
      rfl
theorem zsz (n : Nat) (x : z00) (h : wf 8 x) (hn : 30000000 ≤ n) (hb : (encF 8 x).length ≤ 65536) : z7I n x = some (strOf (encF 8 x),0) := by
  rw [z7I,zd7 n x h (by omega)]
  simp only [bs]
  rw [if_neg (by simp),zzL 8 n x h (by omega) (by omega)]
  simp only [bs]
  rw [if_neg (by simp only [decide_eq_true_eq,z1j]; omega)]
theorem znw (n : Nat) (x : z00) (h : wf 8 x) (hn : 30000000 ≤ n) (hb : (encF 8 x).length ≤ 65536) : z3Q n 1 x = some (strOf (encF 8 x),0) := by
  rw [z3Q,if_pos (by decide),zsz n x h hn hb]
  simp only [bs]
end Go.Proofs.YtchpeafokjmmeaaGreatDoorQ
set_option maxRecDepth 100000
set_option maxHeartbeats 2000000
namespace Go.Proofs.YtchpeafokjmmeaaGreatDoorQ
open Go Go.PE
def DG : Str := [48,49,50,51,52,53,54,55,56,57,97,98,99,100,101,102,103,104,105,106,107,108,109,110,111,112,113,114,115,116,117,118,119,120,121,122]
def hd (n : Nat) : Int := bt DG ((n % 16 : Nat) : Int)
theorem zBR (u : Nat) (h : u < 9223372036854775808) : iand .i64 (u : Int) 15 = ((u % 16 : Nat) : Int) := by
  have e : iand .i64 (u : Int) 15 = z07 (((BitVec.ofInt 64 (u : Int)) &&& (BitVec.ofInt 64 15)).toNat : Int) := rfl
  rw [e,BitVec.toNat_and,toNat_ofInt (by omega) (by omega),toNat_ofInt (by omega) (by omega)]
  rw [show ((15 : Int)).toNat = 2 ^ 4 - 1 from rfl,Nat.and_two_pow_sub_one_eq_mod,Int.toNat_natCast,wi64 (by omega) (by omega)]
def hex6 (u : Nat) : List Int := [hd (u / 1048576),hd (u / 65536),hd (u / 4096),hd (u / 256),hd (u / 16),hd u]
theorem zyZ (u : Nat) (hu : u < 16777216) : ∀ (k m : Nat) (o : List Int),k ≤ 6 → o.length + k ≤ 100 → z4N (m + k + 1) (u : Int) ((k : Int) - 1) o = some (o ++ (match k with | 6 => hex6 u | 5 => (hex6 u).drop 1 | 4 => (hex6 u).drop 2 | 3 => (hex6 u).drop 3 | 2 => (hex6 u).drop 4 | 1 => (hex6 u).drop 5 | _ => []))
  | 0,m,o,hk,ho => by rw [z4N.eq_2,if_neg (by decide)]; simp
  | k + 1,m,o,hk,ho => by
    have e4 : z3S (z07 (4 * (((k + 1 : Nat) : Int) - 1))) = ((4 * k : Nat) : Int) := by rw [wi64 (by omega) (by omega),wu64 (by omega) (by omega)]; omega
    have e1 : z07 (((k + 1 : Nat) : Int) - 1 - 1) = (k : Int) - 1 := by rw [wi64 (by omega) (by omega)]; omega
    have es : ∀ d : Nat,(2 : Int) ^ (min (((4 * k : Nat) : Int)).toNat 64) = (d : Int) → iand .i64 (shr .i64 (u : Int) ((4 * k : Nat) : Int)) 15 = ((u / d % 16 : Nat) : Int) := fun d hd => by
      rw [zwo .i64 _ _ (d : Int) hd (by omega),show ((u : Int) / (d : Int)) = ((u / d : Nat) : Int) from (Int.natCast_ediv u d).symm,zBR _ (Nat.lt_of_le_of_lt (Nat.div_le_self u d) (by omega))]
    have hb : ∀ d : Nat,u / d % 16 < 16 := fun d => Nat.mod_lt _ (by omega)
    rw [show m + (k + 1) + 1 = m + k + 1 + 1 by omega,z4N.eq_2,if_pos (by simp only [decide_eq_true_eq]; omega),e4,e1,if_pos (by show _ ≤ _; omega)]
    have step : ∀ d : Nat,iand .i64 (shr .i64 (u : Int) ((4 * k : Nat) : Int)) 15 = ((u / d % 16 : Nat) : Int) → (if within (iand .i64 (shr .i64 (u : Int) ((4 * k : Nat) : Int)) 15) 16 then if fits ((o.length + ([(bt ([48,49,50,51,52,53,54,55,56,57,97,98,99,100,101,102] : Str) (iand .i64 (shr .i64 (u : Int) ((4 * k : Nat) : Int)) 15))]).length) * 1) then z4N (m + k + 1) (u : Int) ((k : Int) - 1) (o ++ [(bt ([48,49,50,51,52,53,54,55,56,57,97,98,99,100,101,102] : Str) (iand .i64 (shr .i64 (u : Int) ((4 * k : Nat) : Int)) 15))]) else none else none) = z4N (m + k + 1) (u : Int) ((k : Int) - 1) (o ++ [hd (u / d)]) := fun d e => by
      have h16 := hb d
      rw [e,if_pos ⟨by omega,by omega⟩,if_pos (by show _ ≤ _; simp; omega)]
      have : ∀ x : Fin 16,bt ([48,49,50,51,52,53,54,55,56,57,97,98,99,100,101,102] : Str) ((x.val : Nat) : Int) = bt DG ((x.val : Nat) : Int) := by decide
      rw [this ⟨u / d % 16,h16⟩]
      rfl
    have ih := zyZ u hu k m
    have hk' : k = 0 ∨ k = 1 ∨ k = 2 ∨ k = 3 ∨ k = 4 ∨ k = 5 := by omega
    rcases hk' with rfl | rfl | rfl | rfl | rfl | rfl
    · rw [step 1 (es 1 (by decide)),ih _ (by omega) (by simp; omega)]; simp [hex6]
    · rw [step 16 (es 16 (by decide)),ih _ (by omega) (by simp; omega)]; simp [hex6]
    · rw [step 256 (es 256 (by decide)),ih _ (by omega) (by simp; omega)]; simp [hex6]
    · rw [step 4096 (es 4096 (by decide)),ih _ (by omega) (by simp; omega)]; simp [hex6]
    · rw [step 65536 (es 65536 (by decide)),ih _ (by omega) (by simp; omega)]; simp [hex6]
    · rw [step 1048576 (es 1048576 (by decide)),ih _ (by omega) (by simp; omega)]; simp [hex6]
theorem zBY (n u : Nat) (hu : u < 16777216) (hn : 10 ≤ n) : z8D n (u : Int) 6 = some (strOf (hex6 u)) := by
  have e := zyZ u hu 6 (n - 7) [] (by omega) (by simp)
  rw [show n - 7 + 6 + 1 = n by omega] at e
  rw [z8D,show z07 (6 - 1) = (((6 : Nat) : Int) - 1) from wi64 (by omega) (by omega),e]
  simp only [bs,List.nil_append]
theorem zBq (n : Nat) : z8D (n + 10) 1 1 = some [49] := by kernel_rfl
theorem zBc (n : Nat) : z8D (n + 10) 0 1 = some [48] := by kernel_rfl
def verF (p : Str) (u : Nat) : Str := p ++ [49] ++ [48] ++ [74,83,79,78] ++ strOf (hex6 u) ++ [95]
structure zwR (p : Str) : Prop where
  len : p.length = 4
  b : ∀ n u,z5S (n + 10) 0 ⟨p,1,0,1,u⟩ = some (.inr ⟨p,1,0,1,u⟩)
  c : ∀ n u,z5S (n + 10) 0 ⟨p,0,0,1,u⟩ = some (.inr ⟨p,0,0,1,u⟩)
theorem zCn : zwR ([83,67,72,77] : Str) := ⟨rfl,fun n u => by kernel_rfl,fun n u => by kernel_rfl⟩
theorem zyc : zwR ([67,82,69,68] : Str) := ⟨rfl,fun n u => by kernel_rfl,fun n u => by kernel_rfl⟩
theorem zkp (n u : Nat) (p : Str) (hp : zwR p) (hu : u < 16777216) (hn : 20 ≤ n) : z9j n ⟨p,1,0,1,(u : Int)⟩ = some (verF p u,0) := by
  obtain ⟨n,rfl⟩ : ∃ m,n = m + 10 := ⟨n - 10,by omega⟩
  have l := hp.len
  rw [z9j,z99,if_neg (by simp [l]),hp.b]
  simp only [bs]
  rw [if_neg (by simp; omega),zBq]
  simp only [bs]
  rw [if_pos (by show _ ≤ _; simp; omega),zBc]
  simp only [bs]
  rw [if_pos (by show _ ≤ _; simp; omega),if_pos (by decide),show (rd [] ([[],([74,83,79,78] : Str),([67,66,79,82] : Str),([77,71,80,75] : Str)]) 1) = ([74,83,79,78] : Str) from rfl,
    if_pos (by show _ ≤ _; simp; omega),zBY _ u hu (by omega)]
  simp only [bs]
  rw [if_pos (by show _ ≤ _; simp [z1j,hex6]; omega),if_pos (by show _ ≤ _; simp [z1j,hex6]; omega)]
  rfl
end Go.Proofs.YtchpeafokjmmeaaGreatDoorQ
set_option maxRecDepth 100000
set_option maxHeartbeats 2000000
namespace Go.Proofs.YtchpeafokjmmeaaGreatDoorQ
open Go Go.PE
theorem zwI (n : Nat) (s : Str) (hs : s.length ≤ 2000000) (hn : 200 + s.length ≤ n) : ziV n s = some (shaF s) := by
  have hl := zkj s
  have hz := ze0 s
  have hm := ziC s
  have hB := zdw K256 ((padF s).length / 64) (padF s) H256 rfl
  have d : Int.tdiv (s.length : Int) 64 = ((s.length / 64 : Nat) : Int) := by rw [Int.tdiv_eq_ediv_of_nonneg (by omega)]; omega
  have e : z07 (z07 (Int.tdiv (s.length : Int) 64) * 64) = ((64 * (s.length / 64) : Nat) : Int) := by
    rw [d,wi64 (n := ((s.length / 64 : Nat) : Int)) (by omega) (by omega),wi64 (by omega) (by omega)]; omega
  have hp : padF s = s.take (64 * (s.length / 64)) ++ zc5 (s.drop (64 * (s.length / 64))) s.length := by
    have hz' : z2q (s.drop (64 * (s.length / 64))) = z2q s := by
      simp only [z2q,List.length_drop]; omega
    rw [padF,zc5,zc5,hz',← List.append_assoc,← List.append_assoc,← List.append_assoc,List.take_append_drop]
  have hr : (zc5 (s.drop (64 * (s.length / 64))) (s.length : Int)).length = (padF s).length - 64 * (s.length / 64) := by
    have := congrArg List.length hp
    rw [List.length_append,List.length_take] at this
    omega
  rw [ziV,zeY,z8J]
  simp only [bs]
  rw [e,if_pos ⟨by omega,by omega⟩,if_pos ⟨by omega,by omega⟩,Int.toNat_natCast,zqS,if_pos (by rw [List.length_drop]; omega)]
  simp only [bs]
  have e1 := zry n (s.take (64 * (s.length / 64))) (zc5 (s.drop (64 * (s.length / 64))) s.length) H256 (s.length / 64) ((padF s).length / 64 - s.length / 64) (by rw [List.length_take]; omega) (by rw [hr]; omega) rfl (by omega)
  have e2 : z4X K256 ((padF s).length / 64 - s.length / 64) (zc5 (s.drop (64 * (s.length / 64))) s.length) (z4X K256 (s.length / 64) (s.take (64 * (s.length / 64))) H256) = z4X K256 ((padF s).length / 64) (padF s) H256 := by
    have a := zqs K256 (s.length / 64) ((padF s).length / 64 - s.length / 64) (padF s) H256
    rw [show s.length / 64 + ((padF s).length / 64 - s.length / 64) = (padF s).length / 64 by omega] at a
    have b1 : (padF s).drop (64 * (s.length / 64)) = zc5 (s.drop (64 * (s.length / 64))) s.length := by
      rw [hp,List.drop_append_of_le_length (by rw [List.length_take]; omega),List.drop_of_length_le (by rw [List.length_take]; omega),List.nil_append]
    have b2 : s.take (64 * (s.length / 64)) = (padF s).take (64 * (s.length / 64)) := by
      rw [hp,List.take_append_of_le_length (by rw [List.length_take]; omega),List.take_take,Nat.min_self]
    rw [a,b1,b2,znR K256 _ _ _ _ (Nat.le_refl _)]
  rw [e2] at e1
  rw [← H256,← K256,e1]
  simp only [bs]
  rw [if_pos hB,zrN n _ hB (by omega)]
  simp only [bs]
  rw [if_pos (by rw [zhs,hB]),shaF]
def zqU (c : Int) : Option z04 := (alk (fun y => c == y) (ast (fun y => 8 == y) 8 (⟨([49,65,65,76] : Str),6⟩ : z04) (ast (fun y => 7 == y) 7 (⟨([83] : Str),626⟩ : z04) (ast (fun y => 6 == y) 6 (⟨([77] : Str),2⟩ : z04) (ast (fun y => 5 == y) 5 (⟨([48,65] : Str),16⟩ : z04) (ast (fun y => 4 == y) 4 (⟨([65] : Str),32⟩ : z04) (ast (fun y => 3 == y) 3 (⟨([66] : Str),32⟩ : z04) (ast (fun y => 2 == y) 2 (⟨([68] : Str),32⟩ : z04) (ast (fun y => 1 == y) 1 (⟨([69] : Str),32⟩ : z04) ([] : List (Int × z04)))))))))))
theorem zki (n : Nat) (c : Int) (s : Str) : z7a n ⟨c,s⟩ =
  z5a n >>= fun b2 =>
  if (!(zqU c).isSome) then some ([],7)
  else
    if ((s.length : Int) != ((zqU c).getD z04.dft).zdI) then some ([],8)
    else
      z0T n ((zqU c).getD z04.dft) >>= fun b6 =>
      strings_Repeat ([0] : Str) b6 >>= fun b8 =>
      if fits (b8.length + s.length) then
      z6T n (b8 ++ s) >>= fun b11 =>
      z0T n ((zqU c).getD z04.dft) >>= fun b13 =>
      if cLo b13 b11.1.length then
      if fits ((((zqU c).getD z04.dft).z3L).length + (b11.1.drop (b13).toNat).length) then some ((((zqU c).getD z04.dft).z3L ++ (b11.1.drop (b13).toNat)),0)
      else none
      else none
      else none := rfl
def zwh (cs : Str) (l k : Nat) (s : Str) : Str := cs ++ (strOf (b64F k (List.replicate l 0 ++ s))).drop l
theorem zfu (n : Nat) (c : Int) (cs s : Str) (r l k : Nat) (hf : zqU c = some ⟨cs,(r : Int)⟩) (hl : Int.tmod (z07 (3 - (Int.tmod (r : Int) 3))) 3 = (l : Int)) (l2 : l ≤ 2) (hs : s.length = r) (hk : l + r = 3 * k) (k1 : k ≤ 1000) (hcs : cs.length ≤ 4) (hn : 2000 ≤ n) : z4y n c s = some (zwh cs l k s) := by
  have hb := zcr k (List.replicate l 0 ++ s)
  have lead : z0T n ⟨cs,(r : Int)⟩ = some (l : Int) := by rw [z0T,hl]
  rw [z4y,zki,z5a,hf]
  simp only [bs,Option.isSome_some,Bool.not_true,Option.getD_some]
  rw [if_neg (by decide),if_neg (by simp only [bne_iff_ne]; omega),lead]
  simp only [bs]
  rw [strings_Repeat,if_pos ⟨by omega,by simp; omega,by omega⟩,Int.toNat_natCast,zmB]
  simp only [bs]
  rw [if_pos (by show _ ≤ _; simp only [List.length_replicate]; omega),zoD n k _ (by simp only [List.length_append,List.length_replicate]; omega) (by omega) (by omega)]
  simp only [bs]
  rw [if_pos ⟨by omega,by rw [z1j]; omega⟩,if_pos (by show _ ≤ _; simp only [List.length_drop,z1j]; omega)]
  simp only [bs]
  rfl
theorem zlC (n : Nat) (c : Int) (cs s : Str) (r l k : Nat) (hf : z9r n c = some (cs,true)) (hr : zdp n c = some (r : Int)) (hl : Int.tmod (z07 (3 - (Int.tmod (r : Int) 3))) 3 = (l : Int)) (l2 : l ≤ 2) (hs : s.length = r) (hk : l + r = 3 * k) (k1 : k ≤ 1000) (hcs : cs.length ≤ 4) (hn : 2000 ≤ n) : z9l n c s = some (zwh cs l k s) := by
  have hb := zcr k (List.replicate l 0 ++ s)
  have lead : z7j n c = some (l : Int) := by rw [z7j,hr]; simp only [bs]; rw [hl]
  have tk : ([0,0] : Str).take l = List.replicate l 0 := by
    have : l = 0 ∨ l = 1 ∨ l = 2 := by omega
    rcases this with rfl | rfl | rfl <;> rfl
  rw [z9l,zbg,hf]
  simp only [bs,Bool.not_true]
  rw [if_neg (by decide),hr]
  simp only [bs]
  rw [if_neg (by simp only [bne_iff_ne]; omega),lead]
  simp only [bs]
  rw [if_pos ⟨by omega,by omega⟩,Int.toNat_natCast,tk,if_pos (by show _ ≤ _; simp only [List.length_replicate]; omega),zpc n k _ (by simp only [List.length_append,List.length_replicate]; omega) (by omega) (by omega)]
  simp only [bs]
  rw [if_pos ⟨by omega,by rw [z1j]; omega⟩,if_pos (by show _ ≤ _; simp only [List.length_drop,z1j]; omega)]
  simp only [bs]
  rfl
def digF (s : Str) : Str := zwh [69] 1 11 (shaF s)
theorem zrS (n : Nat) (s : Str) (hs : s.length ≤ 1000000) (hn : 2000000 ≤ n) : zay n s = some (digF s) := by
  rw [zay,zwI n s (by omega) (by omega)]
  simp only [bs]
  rw [zfu n 1 [69] (shaF s) 32 1 11 rfl (by decide) (by omega) (zkV s) (by omega) (by omega) (by decide) (by omega)]
  simp only [bs,digF]
theorem zd0 (n : Nat) (s : Str) (hs : s.length ≤ 1000000) (hn : 2000000 ≤ n) : z6C n s = some (digF s) := by
  rw [z6C,zo7 n s (by omega) (by omega)]
  simp only [bs]
  rw [zlC n 1 [69] (shaF s) 32 1 11 rfl rfl (by decide) (by omega) (zkV s) (by omega) (by omega) (by decide) (by omega)]
  simp only [bs,digF]
def zkZ (b : UInt8) : Bool := 32 ≤ b.toNat && b.toNat < 128 && b.toNat != 34 && b.toNat != 92
def plain (s : Str) : Prop := ∀ b ∈ s,zkZ b = true
theorem plain.asc {s : Str} (h : plain s) : asc s := fun b hb => by have := h b hb; simp only [zkZ,Bool.and_eq_true,decide_eq_true_eq] at this; omega
theorem zzC : ∀ k : Fin 256,zkZ (UInt8.ofNat k.val) = true → qch ((k.val : Nat) : Int) = [((k.val : Nat) : Int)] := by decide +kernel
theorem zyM (b : UInt8) (h : zkZ b = true) : qch (wr8 b) = [wr8 b] := by
  have := zzC ⟨b.toNat,b.toNat_lt⟩ (by simpa using h)
  exact this
theorem plain.q {s : Str} (h : plain s) : qF s = bytesOf s := by
  have : ∀ l : List UInt8,(∀ b ∈ l,zkZ b = true) → (bytesOf l).flatMap qch = bytesOf l := fun l => by
    induction l with
    | nil => intro _; rfl
    | cons a r ih =>
      intro h
      simp only [bytesOf,List.map_cons,List.flatMap_cons] at *
      rw [zyM a (h a (by simp)),ih fun b hb => h b (by simp [hb])]; rfl
  exact this s h
theorem plain.zfv {s : Str} (h : plain s) : (z4k s).length = s.length + 2 := by
  rw [z4k,h.q]; simp [z5V]
theorem plain.append {a b : Str} (h : plain a) (g : plain b) : plain (a ++ b) := fun x hx => by
  rcases List.mem_append.1 hx with h' | h'
  · exact h x h'
  · exact g x h'
theorem zA7 : ∀ k : Fin 64,zkZ (rd8 (bt AL ((k.val : Nat) : Int))) = true := by decide +kernel
theorem zzU {i : Int} (h0 : 0 ≤ i) (h1 : i < 64) : zkZ (rd8 (bt AL i)) = true := by
  obtain ⟨m,rfl⟩ := Int.eq_ofNat_of_zero_le h0
  exact zA7 ⟨m,by omega⟩
theorem zxN (v : Int) (h0 : 0 ≤ v) (h1 : v < 16777216) : plain (strOf (dig4 v)) := by
  have a : 0 ≤ shr .i64 v 18 ∧ shr .i64 v 18 < 64 := by rw [zin _ 18 262144 (by decide) (by decide)]; omega
  have b := zuK (shr .i64 v 12); have c := zuK (shr .i64 v 6); have d := zuK v
  intro x hx
  simp only [strOf,dig4,List.map_cons,List.map_nil,List.mem_cons,List.not_mem_nil,or_false] at hx
  rcases hx with rfl | rfl | rfl | rfl
  · exact zzU a.1 a.2
  · exact zzU b.1 b.2
  · exact zzU c.1 c.2
  · exact zzU d.1 d.2
theorem zuF : ∀ k s,plain (strOf (b64F k s))
  | 0,_ => fun x hx => by cases hx
  | k + 1,s => by rw [b64F,z4L]; exact (zxN _ (zg1 s 0).1 (zg1 s 0).2).append (zuF k _)
theorem plain.drop {s : Str} (h : plain s) (k : Nat) : plain (s.drop k) := fun b hb => h b (List.mem_of_mem_drop hb)
theorem zqk {cs : Str} (l k : Nat) (s : Str) (h : plain cs) : plain (zwh cs l k s) := h.append ((zuF k _).drop l)
theorem zuA {cs : Str} (l k : Nat) (s : Str) : (zwh cs l k s).length = cs.length + (4 * k - l) := by
  rw [zwh,List.length_append,List.length_drop,z1j,zcr]
theorem zg0 (s : Str) : (digF s).length = 44 := by rw [digF,zuA]; rfl
theorem ziS (s : Str) : plain (digF s) := zqk _ _ _ (by unfold plain; decide)
end Go.Proofs.YtchpeafokjmmeaaGreatDoorQ
