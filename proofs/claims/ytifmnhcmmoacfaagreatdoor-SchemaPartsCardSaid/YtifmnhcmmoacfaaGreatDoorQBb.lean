/- Digests and salts as texts: what the program's and the document's code compute. -/
import Derived.Test.YtifmnhcmmoacfaaGreatDoorQBa
set_option linter.unusedVariables false
set_option linter.unusedSimpArgs false
set_option maxRecDepth 100000
set_option maxHeartbeats 2000000
namespace Go.Proofs.YtifmnhcmmoacfaaGreatDoorQ
open Go Go.PE
theorem zvr (n : Nat) (s : Str) (hs : s.length ≤ 2000000) (hn : 200 + s.length ≤ n) : zhs n s = some (shaF s) := by
  have hl := ziM s
  have hz := zdb s
  have hm := zgO s
  have hB := zcs K256 ((padF s).length / 64) (padF s) H256 rfl
  have d : Int.tdiv (s.length : Int) 64 = ((s.length / 64 : Nat) : Int) := by rw [Int.tdiv_eq_ediv_of_nonneg (by omega)]; omega
  have e : z0a (z0a (Int.tdiv (s.length : Int) 64) * 64) = ((64 * (s.length / 64) : Nat) : Int) := by
    rw [d,wi64 (n := ((s.length / 64 : Nat) : Int)) (by omega) (by omega),wi64 (by omega) (by omega)]; omega
  have hp : padF s = s.take (64 * (s.length / 64)) ++ zbt (s.drop (64 * (s.length / 64))) s.length := by
    have hz' : z1R (s.drop (64 * (s.length / 64))) = z1R s := by
      simp only [z1R,List.length_drop]; omega
    rw [padF,zbt,zbt,hz',← List.append_assoc,← List.append_assoc,← List.append_assoc,List.take_append_drop]
  have hr : (zbt (s.drop (64 * (s.length / 64))) (s.length : Int)).length = (padF s).length - 64 * (s.length / 64) := by
    have := congrArg List.length hp
    rw [List.length_append,List.length_take] at this
    omega
  rw [zhs,ze7,z8w]
  simp only [bs]
  rw [e,if_pos ⟨by omega,by omega⟩,if_pos ⟨by omega,by omega⟩,Int.toNat_natCast,zop,if_pos (by rw [List.length_drop]; omega)]
  simp only [bs]
  have e1 := zqR n (s.take (64 * (s.length / 64))) (zbt (s.drop (64 * (s.length / 64))) s.length) H256 (s.length / 64) ((padF s).length / 64 - s.length / 64) (by rw [List.length_take]; omega) (by rw [hr]; omega) rfl (by omega)
  have e2 : z4D K256 ((padF s).length / 64 - s.length / 64) (zbt (s.drop (64 * (s.length / 64))) s.length) (z4D K256 (s.length / 64) (s.take (64 * (s.length / 64))) H256) = z4D K256 ((padF s).length / 64) (padF s) H256 := by
    have a := znK K256 (s.length / 64) ((padF s).length / 64 - s.length / 64) (padF s) H256
    rw [show s.length / 64 + ((padF s).length / 64 - s.length / 64) = (padF s).length / 64 by omega] at a
    have b1 : (padF s).drop (64 * (s.length / 64)) = zbt (s.drop (64 * (s.length / 64))) s.length := by
      rw [hp,List.drop_append_of_le_length (by rw [List.length_take]; omega),List.drop_of_length_le (by rw [List.length_take]; omega),List.nil_append]
    have b2 : s.take (64 * (s.length / 64)) = (padF s).take (64 * (s.length / 64)) := by
      rw [hp,List.take_append_of_le_length (by rw [List.length_take]; omega),List.take_take,Nat.min_self]
    rw [a,b1,b2,zmE K256 _ _ _ _ (Nat.le_refl _)]
  rw [e2] at e1
  rw [← H256,← K256,e1]
  simp only [bs]
  rw [if_pos hB,zq6 n _ hB (by omega)]
  simp only [bs]
  rw [if_pos (by rw [zgj,hB]),shaF]
def zp9 (c : Int) : Option z02 := (alk (fun y => c == y) (ast (fun y => 8 == y) 8 (⟨([49,65,65,76] : Str),6⟩ : z02) (ast (fun y => 7 == y) 7 (⟨([83] : Str),626⟩ : z02) (ast (fun y => 6 == y) 6 (⟨([77] : Str),2⟩ : z02) (ast (fun y => 5 == y) 5 (⟨([48,65] : Str),16⟩ : z02) (ast (fun y => 4 == y) 4 (⟨([65] : Str),32⟩ : z02) (ast (fun y => 3 == y) 3 (⟨([66] : Str),32⟩ : z02) (ast (fun y => 2 == y) 2 (⟨([68] : Str),32⟩ : z02) (ast (fun y => 1 == y) 1 (⟨([69] : Str),32⟩ : z02) ([] : List (Int × z02)))))))))))
theorem zj9 (n : Nat) (c : Int) (s : Str) : z6U n ⟨c,s⟩ =
  z4C n >>= fun b2 =>
  if (!(zp9 c).isSome) then some ([],7)
  else
    if ((s.length : Int) != ((zp9 c).getD z02.dft).zcT) then some ([],8)
    else
      z0L n ((zp9 c).getD z02.dft) >>= fun b6 =>
      strings_Repeat ([0] : Str) b6 >>= fun b8 =>
      if fits (b8.length + s.length) then
      z6v n (b8 ++ s) >>= fun b11 =>
      z0L n ((zp9 c).getD z02.dft) >>= fun b13 =>
      if cLo b13 b11.1.length then
      if fits ((((zp9 c).getD z02.dft).z3q).length + (b11.1.drop (b13).toNat).length) then some ((((zp9 c).getD z02.dft).z3q ++ (b11.1.drop (b13).toNat)),0)
      else none
      else none
      else none := rfl
def zwp (cs : Str) (l k : Nat) (s : Str) : Str := cs ++ (strOf (b64F k (List.replicate l 0 ++ s))).drop l
theorem zlN (n : Nat) (c : Int) (cs s : Str) (r l k : Nat) (hf : zp9 c = some ⟨cs,(r : Int)⟩) (hl : Int.tmod (z0a (3 - (Int.tmod (r : Int) 3))) 3 = (l : Int)) (l2 : l ≤ 2) (hs : s.length = r) (hk : l + r = 3 * k) (k1 : k ≤ 1000) (hcs : cs.length ≤ 4) (hn : 2000 ≤ n) : z7b n c s = some (zwp cs l k s) := by
  have hb := znA k (List.replicate l 0 ++ s)
  have lead : z0L n ⟨cs,(r : Int)⟩ = some (l : Int) := by rw [z0L,hl]
  rw [z7b,zj9,z4C,hf]
  simp only [bs,Option.isSome_some,Bool.not_true,Option.getD_some]
  rw [if_neg (by decide),if_neg (by simp only [bne_iff_ne]; omega),lead]
  simp only [bs]
  rw [strings_Repeat,if_pos ⟨by omega,by simp; omega,by omega⟩,Int.toNat_natCast,zl5]
  simp only [bs]
  rw [if_pos (by show _ ≤ _; simp only [List.length_replicate]; omega),zmT n k _ (by simp only [List.length_append,List.length_replicate]; omega) (by omega) (by omega)]
  simp only [bs]
  rw [if_pos ⟨by omega,by rw [z1f]; omega⟩,if_pos (by show _ ≤ _; simp only [List.length_drop,z1f]; omega)]
  simp only [bs]
  rfl
theorem zt4 (n : Nat) (c : Int) (cs s : Str) (r l k : Nat) (hf : zec n c = some (cs,true)) (hr : zeG n c = some (r : Int)) (hl : Int.tmod (z0a (3 - (Int.tmod (r : Int) 3))) 3 = (l : Int)) (l2 : l ≤ 2) (hs : s.length = r) (hk : l + r = 3 * k) (k1 : k ≤ 1000) (hcs : cs.length ≤ 4) (hn : 2000 ≤ n) : zbT n c s = some (zwp cs l k s) := by
  have hb := znA k (List.replicate l 0 ++ s)
  have lead : zbQ n c = some (l : Int) := by rw [zbQ,hr]; simp only [bs]; rw [hl]
  have tk : ([0,0] : Str).take l = List.replicate l 0 := by
    have : l = 0 ∨ l = 1 ∨ l = 2 := by omega
    rcases this with rfl | rfl | rfl <;> rfl
  rw [zbT,zaW,hf]
  simp only [bs,Bool.not_true]
  rw [if_neg (by decide),hr]
  simp only [bs]
  rw [if_neg (by simp only [bne_iff_ne]; omega),lead]
  simp only [bs]
  rw [if_pos ⟨by omega,by omega⟩,Int.toNat_natCast,tk,if_pos (by show _ ≤ _; simp only [List.length_replicate]; omega),znW n k _ (by simp only [List.length_append,List.length_replicate]; omega) (by omega) (by omega)]
  simp only [bs]
  rw [if_pos ⟨by omega,by rw [z1f]; omega⟩,if_pos (by show _ ≤ _; simp only [List.length_drop,z1f]; omega)]
  simp only [bs]
  rfl
def digF (s : Str) : Str := zwp [69] 1 11 (shaF s)
theorem zq4 (n : Nat) (s : Str) (hs : s.length ≤ 1000000) (hn : 2000000 ≤ n) : zaa n s = some (digF s) := by
  rw [zaa,zvr n s (by omega) (by omega)]
  simp only [bs]
  rw [zlN n 1 [69] (shaF s) 32 1 11 rfl (by decide) (by omega) (znu s) (by omega) (by omega) (by decide) (by omega)]
  simp only [bs,digF]
theorem zgA (n : Nat) (s : Str) (hs : s.length ≤ 1000000) (hn : 2000000 ≤ n) : z7z n s = some (digF s) := by
  rw [z7z,zmc n s (by omega) (by omega)]
  simp only [bs]
  rw [zt4 n 1 [69] (shaF s) 32 1 11 rfl rfl (by decide) (by omega) (znu s) (by omega) (by omega) (by decide) (by omega)]
  simp only [bs,digF]
def zjP (b : UInt8) : Bool := 32 ≤ b.toNat && b.toNat < 128 && b.toNat != 34 && b.toNat != 92
def plain (s : Str) : Prop := ∀ b ∈ s,zjP b = true
theorem plain.asc {s : Str} (h : plain s) : asc s := fun b hb => by have := h b hb; simp only [zjP,Bool.and_eq_true,decide_eq_true_eq] at this; omega
theorem zyC : ∀ k : Fin 256,zjP (UInt8.ofNat k.val) = true → qch ((k.val : Nat) : Int) = [((k.val : Nat) : Int)] := by decide +kernel
theorem zy8 (b : UInt8) (h : zjP b = true) : qch (wr8 b) = [wr8 b] := by
  have := zyC ⟨b.toNat,b.toNat_lt⟩ (by simpa using h)
  exact this
theorem plain.q {s : Str} (h : plain s) : qF s = bytesOf s := by
  have : ∀ l : List UInt8,(∀ b ∈ l,zjP b = true) → (bytesOf l).flatMap qch = bytesOf l := fun l => by
    induction l with
    | nil => intro _; rfl
    | cons a r ih =>
      intro h
      simp only [bytesOf,List.map_cons,List.flatMap_cons] at *
      rw [zy8 a (h a (by simp)),ih fun b hb => h b (by simp [hb])]; rfl
  exact this s h
theorem plain.zkH {s : Str} (h : plain s) : (z5L s).length = s.length + 2 := by
  rw [z5L,h.q]; simp [z6A]
theorem plain.append {a b : Str} (h : plain a) (g : plain b) : plain (a ++ b) := fun x hx => by
  rcases List.mem_append.1 hx with h' | h'
  · exact h x h'
  · exact g x h'
theorem zyK : ∀ k : Fin 64,zjP (rd8 (bt AL ((k.val : Nat) : Int))) = true := by decide +kernel
theorem zym {i : Int} (h0 : 0 ≤ i) (h1 : i < 64) : zjP (rd8 (bt AL i)) = true := by
  obtain ⟨m,rfl⟩ := Int.eq_ofNat_of_zero_le h0
  exact zyK ⟨m,by omega⟩
theorem zwN (v : Int) (h0 : 0 ≤ v) (h1 : v < 16777216) : plain (strOf (dig4 v)) := by
  have a : 0 ≤ shr .i64 v 18 ∧ shr .i64 v 18 < 64 := by rw [zv0 _ 18 262144 (by decide) (by decide)]; omega
  have b := zu3 (shr .i64 v 12); have c := zu3 (shr .i64 v 6); have d := zu3 v
  intro x hx
  simp only [strOf,dig4,List.map_cons,List.map_nil,List.mem_cons,List.not_mem_nil,or_false] at hx
  rcases hx with rfl | rfl | rfl | rfl
  · exact zym a.1 a.2
  · exact zym b.1 b.2
  · exact zym c.1 c.2
  · exact zym d.1 d.2
theorem zuk : ∀ k s,plain (strOf (b64F k s))
  | 0,_ => fun x hx => by cases hx
  | k + 1,s => by rw [b64F,z4c]; exact (zwN _ (znz s 0).1 (znz s 0).2).append (zuk k _)
theorem plain.drop {s : Str} (h : plain s) (k : Nat) : plain (s.drop k) := fun b hb => h b (List.mem_of_mem_drop hb)
theorem zuS {cs : Str} (l k : Nat) (s : Str) (h : plain cs) : plain (zwp cs l k s) := h.append ((zuk k _).drop l)
theorem zxY {cs : Str} (l k : Nat) (s : Str) : (zwp cs l k s).length = cs.length + (4 * k - l) := by
  rw [zwp,List.length_append,List.length_drop,z1f,znA]
theorem zjX (s : Str) : (digF s).length = 44 := by rw [digF,zxY]; rfl
theorem zed (s : Str) : plain (digF s) := zuS _ _ _ (by unfold plain; decide)
end Go.Proofs.YtifmnhcmmoacfaaGreatDoorQ
set_option maxRecDepth 100000
set_option maxHeartbeats 2000000
namespace Go.Proofs.YtifmnhcmmoacfaaGreatDoorQ
open Go Go.PE
theorem zvI (l : List Str) (s : Str) (i : Nat) (hl : l.length ≤ 1000000) (hi : l[i]? = some s) (hb : ∀ j < i,l[j]? ≠ some s) : ∀ k j n : Nat,j + k = i → k + 1 ≤ n → z0u n l s (l.length : Int) (j : Int) = some (.inl (i : Int))
  | 0,j,n,h,hn => by
    obtain rfl : j = i := by omega
    obtain ⟨n,rfl⟩ : ∃ m,n = m + 1 := ⟨n - 1,by omega⟩
    obtain ⟨hj,he⟩ := List.getElem?_eq_some_iff.1 hi
    rw [z0u.eq_2,if_pos (by simp only [decide_eq_true_eq]; omega),if_pos ⟨by omega,by omega⟩,z8q [] l j hj,he,if_pos (by simp)]
  | k + 1,j,n,h,hn => by
    obtain ⟨n,rfl⟩ : ∃ m,n = m + 1 := ⟨n - 1,by omega⟩
    obtain ⟨hi',he⟩ := List.getElem?_eq_some_iff.1 hi
    have hj : j < l.length := by omega
    have hne : ¬ (s == l[j]) = true := fun e => hb j (by omega) (by rw [List.getElem?_eq_getElem hj,eq_of_beq e])
    rw [z0u.eq_2,if_pos (by simp only [decide_eq_true_eq]; omega),if_pos ⟨by omega,by omega⟩,z8q [] l j hj,if_neg hne,wj (by omega)]
    exact zvI l s i hl hi hb k (j + 1) n (by omega) (by omega)
theorem zyx (n : Nat) (l : List Str) (s : Str) (i : Nat) (hl : l.length ≤ 1000000) (hi : l[i]? = some s) (hb : ∀ j < i,l[j]? ≠ some s) (hn : 2000000 ≤ n) : z0I n l s = some (i : Int) := by
  have := (List.getElem?_eq_some_iff.1 hi).1
  rw [z0I,show (0 : Int) = ((0 : Nat) : Int) from rfl,zvI l s i hl hi hb i 0 n (by omega) (by omega)]
  simp only [bs]
theorem zrd (l : List Str) (s : Str) (hl : l.length ≤ 1000000) (hs : s ∉ l) : ∀ k j n : Nat,j + k = l.length → k + 1 ≤ n → z0u n l s (l.length : Int) (j : Int) = some (.inr ())
  | 0,j,n,h,hn => by
    obtain ⟨n,rfl⟩ : ∃ m,n = m + 1 := ⟨n - 1,by omega⟩
    rw [z0u.eq_2,if_neg (by simp only [decide_eq_true_eq]; omega)]
  | k + 1,j,n,h,hn => by
    obtain ⟨n,rfl⟩ : ∃ m,n = m + 1 := ⟨n - 1,by omega⟩
    have hj : j < l.length := by omega
    have hne : ¬ (s == l[j]) = true := fun e => hs (by rw [eq_of_beq e]; exact List.getElem_mem hj)
    rw [z0u.eq_2,if_pos (by simp only [decide_eq_true_eq]; omega),if_pos ⟨by omega,by omega⟩,z8q [] l j hj,if_neg hne,wj (by omega)]
    exact zrd l s hl hs k (j + 1) n (by omega) (by omega)
theorem zzX (n : Nat) (l : List Str) (s : Str) (hl : l.length ≤ 1000000) (hs : s ∉ l) (hn : 2000000 ≤ n) : z0I n l s = some (-1) := by
  rw [z0I,show (0 : Int) = ((0 : Nat) : Int) from rfl,zrd l s hl hs l.length 0 n (by omega) (by omega)]
  simp only [bs]
theorem zoL (l : List Str) (s : Str) (hl : l.length ≤ 1000000) (hs : s ∉ l) : ∀ k j n : Nat,j + k = l.length → k + 1 ≤ n → z0D n s (l.length : Int) (j : Int) l = some (.inr l)
  | 0,j,n,h,hn => by
    obtain ⟨n,rfl⟩ : ∃ m,n = m + 1 := ⟨n - 1,by omega⟩
    rw [z0D.eq_2,if_neg (by simp only [decide_eq_true_eq]; omega)]
  | k + 1,j,n,h,hn => by
    obtain ⟨n,rfl⟩ : ∃ m,n = m + 1 := ⟨n - 1,by omega⟩
    have hj : j < l.length := by omega
    have hne : ¬ (s == l[j]) = true := fun e => hs (by rw [eq_of_beq e]; exact List.getElem_mem hj)
    rw [z0D.eq_2,if_pos (by simp only [decide_eq_true_eq]; omega),if_pos ⟨by omega,by omega⟩,if_pos ⟨by omega,by omega⟩,z8q [] l j hj,if_neg hne,wj (by omega)]
    exact zoL l s hl hs k (j + 1) n (by omega) (by omega)
theorem zyq (n : Nat) (l : List Str) (s : Str) (hl : l.length ≤ 1000000) (hs : s ∉ l) (hn : 2000000 ≤ n) : z16 n s l = some (-1,l) := by
  rw [z16,show (0 : Int) = ((0 : Nat) : Int) from rfl,zoL l s hl hs l.length 0 n (by omega) (by omega)]
  simp only [bs]
def mapN (ns : List Str) (is : List z00) : z00 := ⟨5,false,0,[],ns,is⟩
def txt (s : Str) : z00 := ⟨3,false,0,s,[],[]⟩
theorem zvO (n : Nat) (ns : List Str) (is : List z00) (s : Str) (i : Nat) (hl : ns.length = is.length) (hb : ns.length ≤ 1000000) (hi : ns[i]? = some s) (hb' : ∀ j < i,ns[j]? ≠ some s) (hn : 2000000 ≤ n) : za0 n (mapN ns is) s = some (i : Int) := by
  have hm : (if ((mapN ns is).z05.length : Int) < ((mapN ns is).z07.length : Int) then ((mapN ns is).z05.length : Int) else ((mapN ns is).z07.length : Int)) = (ns.length : Int) := if_neg (by simp only [mapN]; omega)
  rw [za0,if_neg (by simp [mapN]),hm,if_pos ⟨by omega,by simp [mapN]⟩,Int.toNat_natCast]
  simp only [mapN]
  rw [List.take_length,zyx n ns s i hb hi hb' hn]
  simp only [bs]
theorem zzC {d : Nat} {ns : List Str} {is : List z00} (hl : ns.length = is.length) (hb : ns.length ≤ 1000000) (h : ∀ y ∈ is,sm d y) : sm (d + 1) (mapN ns is) := ⟨hb,by simp only [mapN]; omega,h⟩
theorem zwd (n : Nat) (ns : List Str) (is : List z00) (s : Str) (v : z00) (i : Nat) (hl : ns.length = is.length) (hb : ns.length ≤ 1000000) (hi : ns[i]? = some s) (hb' : ∀ j < i,ns[j]? ≠ some s) (h : ∀ y ∈ is,sm 8 y) (hv : sm 8 v) (hn : 20000000 ≤ n) : z88 n (mapN ns is) s v = some (mapN ns (is.set i v)) := by
  have hlt := (List.getElem?_eq_some_iff.1 hi).1
  rw [z88,zrb 9 n _ (zzC hl hb h) (by omega)]
  simp only [bs]
  rw [zvO n ns is s i hl hb hi hb' (by omega)]
  simp only [bs]
  rw [if_pos (by simp only [decide_eq_true_eq]; omega),zrb 8 n v hv (by omega)]
  simp only [bs]
  rw [if_pos (by simp only [mapN]; exact ⟨by omega,by omega⟩),if_pos (by simp only [mapN]; exact ⟨by omega,by omega⟩),Int.toNat_natCast]
  rfl
theorem zB8 (n : Nat) (ns : List Str) (is : List z00) (s : Str) (v : z00) (i : Nat) (hl : ns.length = is.length) (hb : ns.length ≤ 1000000) (hi : ns[i]? = some s) (hb' : ∀ j < i,ns[j]? ≠ some s) (hv : is[i]? = some v) (h : sm 8 v) (hn : 20000000 ≤ n) : zhw n (mapN ns is) s = some (v,true) := by
  obtain ⟨hlt,he⟩ := (List.getElem?_eq_some_iff.1 hv)
  rw [zhw,zvO n ns is s i hl hb hi hb' (by omega)]
  simp only [bs]
  rw [if_neg (by simp only [decide_eq_true_eq]; omega),if_pos (by simp only [mapN]; exact ⟨by omega,by omega⟩)]
  simp only [mapN]
  rw [z8q _ is i hlt,he,zrb 8 n v h (by omega)]
  simp only [bs]
theorem zya (ns : List Str) (s : Str) (v : z00) (i : Nat) (hb : ns.length ≤ 1000000) (hi : ns[i]? = some s) (hd : ns.Nodup) (hv : sm 8 v) (a : Int) (b : Bool) (c : Int) (t : Str) : ∀ (k j n : Nat) (is : List z00) (f : Bool),ns.length = is.length → j + k = ns.length → 16000000 + k + 1 ≤ n → (j ≤ i → f = false) → (i < j → f = true) →
    z4P n s f (ns.length : Int) (j : Int) v a b c t ns is = some (s,true,v,a,b,c,t,ns,if j ≤ i then is.set i v else is)
  | 0,j,n,is,f,hl,h,hn,h1,h2 => by
    obtain ⟨n,rfl⟩ : ∃ m,n = m + 1 := ⟨n - 1,by omega⟩
    have hlt := (List.getElem?_eq_some_iff.1 hi).1
    rw [z4P.eq_2,if_neg (by simp only [decide_eq_true_eq]; omega),if_neg (by omega),h2 (by omega)]
  | k + 1,j,n,is,f,hl,h,hn,h1,h2 => by
    obtain ⟨n,rfl⟩ : ∃ m,n = m + 1 := ⟨n - 1,by omega⟩
    obtain ⟨hlt,he⟩ := List.getElem?_eq_some_iff.1 hi
    have hj : j < ns.length := by omega
    have nxt := zya ns s v i hb hi hd hv a b c t k (j + 1) n
    rw [z4P.eq_2,if_pos (by simp only [decide_eq_true_eq]; omega),if_pos ⟨by omega,by omega⟩,if_pos ⟨by omega,by omega⟩,z8q [] ns j hj,wj (by omega)]
    by_cases e : j = i
    · subst e
      rw [he,if_pos (by simp),zl3 8 n v hv (by omega)]
      simp only [bs]
      rw [if_pos ⟨by omega,by omega⟩,if_pos ⟨by omega,by omega⟩,Int.toNat_natCast,nxt (is.set j v) true (by simpa using hl) (by omega) (by omega) (by omega) (fun _ => rfl),if_neg (by omega),if_pos (Nat.le_refl j)]
    · have hne : ¬ (ns[j] == s) = true := fun e' => e ((List.getElem_inj hd).1 ((eq_of_beq e').trans he.symm))
      rw [if_neg hne,nxt is f hl (by omega) (by omega) (fun h' => h1 (by omega)) (fun h' => h2 (by omega))]
      congr 8
      by_cases e2 : j ≤ i
      · rw [if_pos e2,if_pos (by omega)]
      · rw [if_neg e2,if_neg (by omega)]
theorem zpK {d : Nat} {ns : List Str} {is : List z00} (h : wf (d + 1) (mapN ns is)) : (∀ y ∈ is,sm d y) ∧ ns.length = is.length ∧ ns.length ≤ 256 ∧ ns.Nodup := by
  have h : Wf1 (wf d) (mapN ns is) := h
  exact ⟨fun y hy => zcN d y (h.all y hy),h.ni rfl,h.nl,h.nd⟩
theorem zvo (n : Nat) (ns : List Str) (is : List z00) (s : Str) (v : z00) (i : Nat) (hi : ns[i]? = some s) (h : wf 8 (mapN ns is)) (h' : wf 8 (mapN ns (is.set i v))) (hv : sm 8 v) (hn : 30000000 ≤ n) : z7E n (mapN ns is) s v = some (mapN ns (is.set i v),0) := by
  obtain ⟨a,hl,hb,hd⟩ := zpK h
  have hlt := (List.getElem?_eq_some_iff.1 hi).1
  rw [z7E,ze6 n _ h (by omega)]
  simp only [bs]
  rw [if_neg (by simp [mapN]),zl3 8 n _ (zcN 8 _ h) (by omega)]
  simp only [bs]
  simp only [mapN]
  rw [show (0 : Int) = ((0 : Nat) : Int) from rfl,zya ns s v i (by omega) hi hd hv _ _ _ _ ns.length 0 n is false hl (by omega) (by omega) (fun _ => rfl) (fun h => absurd h (by omega))]
  simp only [bs]
  rw [if_neg (by decide),if_pos (Nat.zero_le i)]
  have := ze6 n _ h' (by omega)
  simp only [mapN] at this
  rw [show ((0 : Nat) : Int) = 0 from rfl,this]
  simp only [bs]
  rw [if_neg (by decide)]
end Go.Proofs.YtifmnhcmmoacfaaGreatDoorQ
set_option maxRecDepth 100000
set_option maxHeartbeats 2000000
namespace Go.Proofs.YtifmnhcmmoacfaaGreatDoorQ
open Go Go.PE
def nV : Str := [118]
def nD : Str := [100]
def dummy : Str := List.replicate 44 35
def mapY (ns : List Str) (is : List z00) (v t : Str) : z00 := mapN (nV :: nD :: ns) (txt v :: txt t :: is)
def mapX (ns : List Str) (is : List z00) (t : Str) : z00 := mapN (nD :: ns) (txt t :: is)
structure Rest (ns : List Str) (is : List z00) : Prop where
  len : ns.length = is.length
  le : ns.length ≤ 200
  nd : (nV :: nD :: ns).Nodup
  nm : ∀ s ∈ ns,asc s ∧ s.length ≤ 65536
  all : ∀ y ∈ is,wf 7 y
  size : (z3o (encF 7) true false ns is).length ≤ 60000
theorem zCm : asc nV := by unfold asc; decide
theorem zz5 : asc nD := by unfold asc; decide
theorem zca (d : Nat) (s : Str) (h : asc s) (hl : s.length ≤ 65536) : wf (d + 1) (txt s) :=
  ({ k0 := by simp [txt],k5 := by simp [txt],b := fun _ => rfl,nu := fun _ => rfl,t := fun h => absurd rfl h,i := fun _ => rfl,na := fun _ => rfl,ta := h,tl := hl,il := by simp [txt],ni := fun h => by simp [txt] at h,nd := by simp [txt],ns := fun s hs => by simp [txt] at hs,n0 := by simp [txt],n1 := by simp [txt],all := fun y hy => by simp [txt] at hy } : Wf1 (wf d) (txt s))
theorem zv2 {d : Nat} {ns : List Str} {is : List z00} (hl : ns.length = is.length) (hb : ns.length ≤ 256) (hd : ns.Nodup) (hs : ∀ s ∈ ns,asc s ∧ s.length ≤ 65536) (h : ∀ y ∈ is,wf d y) : wf (d + 1) (mapN ns is) :=
  ({ k0 := by simp [mapN],k5 := by simp [mapN],b := fun _ => rfl,nu := fun _ => rfl,t := fun h => rfl,i := fun h => by simp [mapN] at h,na := fun h => by simp [mapN] at h,ta := fun b hb => by simp [mapN] at hb,tl := by simp [mapN],il := by simp only [mapN]; omega,ni := fun _ => hl,nd := hd,ns := hs,n0 := by simp [mapN],n1 := by simp [mapN],all := h } : Wf1 (wf d) (mapN ns is))
theorem Rest.wfY {ns : List Str} {is : List z00} (h : Rest ns is) {v t : Str} (hv : asc v) (hv' : v.length ≤ 65536) (ht : asc t) (ht' : t.length ≤ 65536) : wf 8 (mapY ns is v t) := by
  have h1 := h.len; have h2 := h.le
  refine zv2 (by simp [h1]) (by simp; omega) h.nd (fun s hs => ?_) (fun y hy => ?_)
  · simp only [List.mem_cons] at hs
    rcases hs with rfl | rfl | hs
    · exact ⟨zCm,by decide⟩
    · exact ⟨zz5,by decide⟩
    · exact h.nm s hs
  · simp only [List.mem_cons] at hy
    rcases hy with rfl | rfl | hy
    · exact zca 6 v hv hv'
    · exact zca 6 t ht ht'
    · exact h.all y hy
theorem Rest.wfX {ns : List Str} {is : List z00} (h : Rest ns is) {t : Str} (ht : asc t) (ht' : t.length ≤ 65536) : wf 8 (mapX ns is t) := by
  have h1 := h.len; have h2 := h.le
  refine zv2 (by simp [h1]) (by simp; omega) (List.nodup_cons.1 h.nd).2 (fun s hs => ?_) (fun y hy => ?_)
  · simp only [List.mem_cons] at hs
    rcases hs with rfl | hs
    · exact ⟨zz5,by decide⟩
    · exact h.nm s hs
  · simp only [List.mem_cons] at hy
    rcases hy with rfl | hy
    · exact zca 6 t ht ht'
    · exact h.all y hy
theorem zwg (d : Nat) (ns : List Str) (is : List z00) : encF (d + 1) (mapN ns is) = 123 :: (z3o (encF d) true true ns is ++ [125]) := by
  simp only [encF,mapN]
  rw [if_neg (by decide),if_neg (by decide),if_neg (by decide),if_neg (by decide),if_pos trivial]
theorem zns (d : Nat) (s : Str) : encF (d + 1) (txt s) = z5L s := by
  rw [encF,if_neg (by simp [txt]),if_neg (by simp [txt]),if_neg (by simp [txt]),if_pos (show (txt s).z08 = 3 from rfl)]
  rfl
theorem zfm (ns : List Str) (is : List z00) {v t : Str} (hv : plain v) (ht : plain t) : (encF 8 (mapY ns is v t)).length = 15 + v.length + t.length + (z3o (encF 7) true false ns is).length := by
  have e : encF 8 (mapY ns is v t) = 123 :: (z3o (encF 7) true true (nV :: nD :: ns) (txt v :: txt t :: is) ++ [125]) := zwg 7 _ _
  have ev : encF 7 (txt v) = z5L v := zns 6 v
  have et : encF 7 (txt t) = z5L t := zns 6 t
  rw [e]
  simp only [z3o,List.headD_cons,List.tail_cons,ev,et,if_true,Bool.false_eq_true,if_false,List.nil_append,List.length_cons,List.length_append,List.length_nil,hv.zkH,ht.zkH]
  rw [show (z5L nV).length = 3 from rfl,show (z5L nD).length = 3 from rfl]
  omega
theorem zbW {p : Str} (hp : plain p) (u : Nat) : plain (verF p u) := by
  have h6 : plain (strOf (hex6 u)) := by
    have hd : ∀ n,zjP (rd8 (hd n)) = true := fun n => by
      have : ∀ k : Fin 16,zjP (rd8 (bt DG ((k.val : Nat) : Int))) = true := by decide +kernel
      exact this ⟨n % 16,Nat.mod_lt _ (by omega)⟩
    intro x hx
    simp only [strOf,hex6,List.map_cons,List.map_nil,List.mem_cons,List.not_mem_nil,or_false] at hx
    rcases hx with rfl | rfl | rfl | rfl | rfl | rfl <;> exact hd _
  exact ((((hp.append (by unfold plain; decide)).append (by unfold plain; decide)).append (by unfold plain; decide)).append h6).append (by unfold plain; decide)
theorem zhv {p : Str} (hp : p.length = 4) (u : Nat) : (verF p u).length = 17 := by
  simp only [verF,List.length_append,z1f,hp]; rfl
theorem z6t : plain dummy := by unfold plain; decide
def z4z (ns : List Str) (is : List z00) : Nat := 76 + (z3o (encF 7) true false ns is).length
def zhG (p : Str) (ns : List Str) (is : List z00) : Str := digF (strOf (encF 8 (mapY ns is (verF p (z4z ns is)) dummy)))
def outF (p : Str) (ns : List Str) (is : List z00) : z00 := mapY ns is (verF p (z4z ns is)) (zhG p ns is)
def textF (p : Str) (ns : List Str) (is : List z00) : Str := strOf (encF 8 (outF p ns is))
theorem zC1 (n : Nat) (p : Str) (hp : Prot p) (hpl : plain p) (ns : List Str) (is : List z00) (h : Rest ns is) (t : Str) (ht : plain t) (ht' : t.length = 44) (hn : 40000000 ≤ n) :
    za4 n (mapX ns is t) p 1 = some (mapY ns is (verF p (z4z ns is)) t,strOf (encF 8 (mapY ns is (verF p (z4z ns is)) t)),0) := by
  have h1 := h.len; have h2 := h.le; have hsz := h.size
  have hv0 := zbW hpl 0
  have lv0 := zhv hp.len 0
  have hv1 := zbW hpl (z4z ns is)
  have lv1 := zhv hp.len (z4z ns is)
  have l0 := zfm ns is hv0 ht
  have l1 := zfm ns is hv1 ht
  have wx := h.wfX ht.asc (by omega)
  have w0 := h.wfY hv0.asc (by omega) ht.asc (by omega)
  have w1 := h.wfY hv1.asc (by omega) ht.asc (by omega)
  have sx8 : ∀ y ∈ txt t :: is,sm 8 y := fun y hy => zcN 8 y (ztn 7 y ((show Wf1 (wf 7) (mapX ns is t) from wx).all y hy))
  obtain ⟨s0,hl0,hb0,_⟩ := zpK w0
  have e0 := zr7 n 0 p hp (by omega) (by omega)
  rw [Int.natCast_zero] at e0
  have e1 := zr7 n (z4z ns is) p hp (by unfold z4z; omega) (by omega)
  have hnv : nV ∉ nD :: ns := (List.nodup_cons.1 h.nd).1
  rw [za4,e0]
  simp only [bs]
  rw [if_neg (by decide),if_neg (by simp [mapX,mapN]),zk5 n _ wx (by omega)]
  simp only [bs]
  rw [if_neg (by decide),zrb 8 n _ (zcN 8 _ wx) (by omega)]
  simp only [bs]
  rw [show (mapX ns is t).z07 = nD :: ns from rfl,← nV,zyq n _ nV (by simp; omega) hnv (by omega)]
  simp only [bs]
  rw [if_neg (by simp),z8u,z3Y,if_pos ⟨rfl,rfl,by simp,by simp; omega⟩]
  simp only [bs]
  rw [show (mapX ns is t).z05 = txt t :: is from rfl,z3e,if_pos ⟨rfl,rfl,by simp,by simp; omega⟩]
  simp only [bs]
  rw [z4v]
  simp only [bs]
  have hset := zwd n (nV :: nD :: ns) ((⟨0,false,0,[],[],[]⟩ : z00) :: txt t :: is) nV (txt (verF p 0)) 0 (by simp [h1]) (by simp; omega) rfl (fun j hj => absurd hj (by omega)) (fun y hy => by
    simp only [List.mem_cons] at hy
    rcases hy with rfl | rfl | hy
    · exact ⟨by simp,by simp,fun y hy => by cases hy⟩
    · exact sx8 _ (List.mem_cons_self ..)
    · exact sx8 _ (List.mem_cons_of_mem _ hy)) (zcN 8 _ (zca 7 _ hv0.asc (by omega))) (by omega)
  refine (congrArg (fun x => x >>= _) hset).trans ?_
  simp only [bs]
  rw [show mapN (nV :: nD :: ns) (((⟨0,false,0,[],[],[]⟩ : z00) :: txt t :: is).set 0 (txt (verF p 0))) = mapY ns is (verF p 0) t from rfl,ziZ n _ w0 (by simp [mapY,mapN]) (by omega) (by rw [l0]; omega)]
  simp only [bs]
  rw [if_neg (by decide),z1f,l0,show ((15 + (verF p 0).length + t.length + (z3o (encF 7) true false ns is).length : Nat) : Int) = ((z4z ns is : Nat) : Int) by rw [lv0,ht',z4z],e1]
  simp only [bs]
  rw [z4v]
  simp only [bs]
  have hset1 := zwd n (nV :: nD :: ns) (txt (verF p 0) :: txt t :: is) nV (txt (verF p (z4z ns is))) 0 (by simp [h1]) (by simp; omega) rfl (fun j hj => absurd hj (by omega)) (fun y hy => zcN 8 y (ztn 7 y ((show Wf1 (wf 7) (mapY ns is (verF p 0) t) from w0).all y hy))) (zcN 8 _ (zca 7 _ hv1.asc (by omega))) (by omega)
  refine (congrArg (fun x => x >>= _) hset1).trans ?_
  simp only [bs]
  rw [show mapN (nV :: nD :: ns) ((txt (verF p 0) :: txt t :: is).set 0 (txt (verF p (z4z ns is)))) = mapY ns is (verF p (z4z ns is)) t from rfl,ziZ n _ w1 (by simp [mapY,mapN]) (by omega) (by rw [l1]; omega)]
  simp only [bs]
theorem zwB (n : Nat) (x y : z00) (t s : Str) (h : z88 n x s (txt t) = some y) : z6z (n + 1) t [s] 1 0 x = z6z n t [s] 1 1 y := by
  rw [z6z.eq_2,if_pos (by decide),if_pos ⟨by omega,by simp⟩,z4v]
  simp only [bs]
  rw [show rd ([] : Str) [s] 0 = s from rfl]
  refine (congrArg (fun x => x >>= _) h).trans ?_
  simp only [bs]
  rw [zoy]
theorem zxL (n : Nat) (x y : z00) (t s : Str) (h : ∀ n,20000000 ≤ n → z88 n x s (txt t) = some y) (hn : 30000000 ≤ n) : zf7 n x [s] t = some y := by
  obtain ⟨n,rfl⟩ : ∃ m,n = m + 2 := ⟨n - 2,by omega⟩
  rw [zf7,show ((([s] : List Str).length : Nat) : Int) = 1 from rfl,show n + 2 = (n + 1) + 1 by omega,zwB (n + 1) x y t s (h _ (by omega)),z6z.eq_2,if_neg (by decide)]
  simp only [bs]
theorem zyh (n : Nat) : zdS n = some dummy := by kernel_rfl
theorem zxw (n : Nat) : zc6 n = some dummy := by kernel_rfl
theorem zwZ (n : Nat) (p : Str) (hp : Prot p) (hpl : plain p) (ns : List Str) (is : List z00) (h : Rest ns is) (t0 : Str) (h0 : asc t0) (h0' : t0.length ≤ 65536) (hn : 50000000 ≤ n) :
    zhq n (mapX ns is t0) [nD] p 1 = some (outF p ns is,textF p ns is,0) := by
  have h1 := h.len; have h2 := h.le; have hsz := h.size
  have hv1 := zbW hpl (z4z ns is)
  have lv1 := zhv hp.len (z4z ns is)
  have hdg := zed (strOf (encF 8 (mapY ns is (verF p (z4z ns is)) dummy)))
  have ldg := zjX (strOf (encF 8 (mapY ns is (verF p (z4z ns is)) dummy)))
  rw [← zhG] at hdg ldg
  have l1 := zfm ns is hv1 z6t
  have l2 := zfm ns is hv1 hdg
  have wx := h.wfX h0 h0'
  have w1 := h.wfY hv1.asc (by omega) z6t.asc (by simp [dummy])
  have w2 := h.wfY hv1.asc (by omega) hdg.asc (by omega)
  obtain ⟨sx,hlx,hbx,_⟩ := zpK wx
  have hset0 : ∀ n,20000000 ≤ n → z88 n (mapX ns is t0) nD (txt dummy) = some (mapX ns is dummy) := fun n hn =>
    zwd n (nD :: ns) (txt t0 :: is) nD (txt dummy) 0 (by simp [h1]) (by simp; omega) rfl (fun j hj => absurd hj (by omega)) (fun y hy => zcN 8 y (ztn 7 y ((show Wf1 (wf 7) (mapX ns is t0) from wx).all y hy))) (zcN 8 _ (zca 7 _ z6t.asc (by simp [dummy]))) hn
  have hset1 : ∀ n,20000000 ≤ n → z88 n (mapY ns is (verF p (z4z ns is)) dummy) nD (txt (zhG p ns is)) = some (outF p ns is) := fun n hn =>
    zwd n (nV :: nD :: ns) (txt (verF p (z4z ns is)) :: txt dummy :: is) nD (txt (zhG p ns is)) 1 (by simp [h1]) (by simp; omega) rfl (fun j hj => by rw [show j = 0 by omega]; simp [nV,nD]) (fun y hy => zcN 8 y (ztn 7 y ((show Wf1 (wf 7) (mapY ns is (verF p (z4z ns is)) dummy) from w1).all y hy))) (zcN 8 _ (zca 7 _ hdg.asc (by omega))) hn
  rw [zhq,if_neg (by decide),z1p,← nV,zzX n [nD] nV (by simp) (by decide) (by omega)]
  simp only [bs]
  rw [if_neg (by decide),if_pos (by simp [mapX,mapN]),zyh]
  simp only [bs]
  rw [zxL n _ _ _ _ hset0 (by omega)]
  simp only [bs]
  rw [zcd,zC1 n p hp hpl ns is h dummy z6t rfl (by omega)]
  simp only [bs]
  rw [if_neg (by decide),zq4 n _ (by rw [z1f,l1]; simp [dummy]; omega) (by omega)]
  simp only [bs]
  rw [← zhG,zxL n _ _ _ _ hset1 (by omega)]
  simp only [bs]
  rw [ziZ n (outF p ns is) w2 (by simp [outF,mapY,mapN]) (by omega) (by rw [outF,l2]; omega)]
  simp only [bs]
  rw [if_neg (by decide),textF]
end Go.Proofs.YtifmnhcmmoacfaaGreatDoorQ
set_option maxRecDepth 100000
set_option maxHeartbeats 2000000
namespace Go.Proofs.YtifmnhcmmoacfaaGreatDoorQ
open Go Go.PE
theorem zwf (n : Nat) (x y : z00) (t s : Str) (h : ∀ n,30000000 ≤ n → z7E n x s (txt t) = some (y,0)) (hn : 40000000 ≤ n) : zcI n x [s] t = some (y,0) := by
  obtain ⟨n,rfl⟩ : ∃ m,n = m + 2 := ⟨n - 2,by omega⟩
  have e : z5b (n + 2) t [s] 1 0 x = z5b (n + 1) t [s] 1 1 y := by
    rw [show n + 2 = (n + 1) + 1 by omega,z5b.eq_2,if_pos (by decide),if_pos ⟨by omega,by simp⟩,z1L]
    simp only [bs]
    rw [show rd ([] : Str) [s] 0 = s from rfl]
    refine (congrArg (fun x => x >>= _) (h (n + 1) (by omega))).trans ?_
    simp only [bs]
    rw [if_neg (by decide),zoy]
  rw [zcI,show ((([s] : List Str).length : Nat) : Int) = 1 from rfl,e,z5b.eq_2,if_neg (by decide)]
  simp only [bs]
theorem zvA (L : List Str) (I : List z00) (p0 : Int) (v : z0g) (hl : L.length = I.length) (hb : L.length ≤ 256) (hs : ∀ y ∈ I,sm 8 y) : ∀ (k j n : Nat) (aN : List Str) (aI : List z00),j + k = L.length → 16000000 + k + 1 ≤ n → aN.length ≤ 1000 + j → aI.length ≤ 1000 + j → nV ∉ L.drop j →
    z3E n p0 L (L.length : Int) (j : Int) (mapN L I) v aN aI = some (p0,mapN L I,v,aN ++ L.drop j,aI ++ I.drop j)
  | 0,j,n,aN,aI,h,hn,h1,h2,h3 => by
    obtain ⟨n,rfl⟩ : ∃ m,n = m + 1 := ⟨n - 1,by omega⟩
    rw [z3E.eq_2,if_neg (by simp only [decide_eq_true_eq]; omega),List.drop_of_length_le (by omega),List.drop_of_length_le (by omega),List.append_nil,List.append_nil]
  | k + 1,j,n,aN,aI,h,hn,h1,h2,h3 => by
    obtain ⟨n,rfl⟩ : ∃ m,n = m + 1 := ⟨n - 1,by omega⟩
    have hj : j < L.length := by omega
    have hj' : j < I.length := by omega
    have hd : L.drop j = L[j] :: L.drop (j + 1) := List.drop_eq_getElem_cons hj
    have hd' : I.drop j = I[j] :: I.drop (j + 1) := List.drop_eq_getElem_cons hj'
    rw [hd] at h3
    have hne : (!(L[j] == ([118] : Str))) = true := by
      rw [Bool.not_eq_true',beq_eq_false_iff_ne]
      exact fun e => h3 (by rw [e]; simp [nV])
    rw [z3E.eq_2,if_pos (by simp only [decide_eq_true_eq]; omega),if_pos ⟨by omega,by omega⟩,z8q [] L j hj,if_pos hne,if_pos (by show _ ≤ _; simp; omega),if_pos (by simp only [mapN]; exact ⟨by omega,by omega⟩)]
    rw [show (mapN L I).z05 = I from rfl,z8q _ I j hj',zl3 8 n _ (hs _ (List.getElem_mem hj')) (by omega)]
    simp only [bs]
    rw [if_pos (by show _ ≤ _; omega),wj (by omega),zvA L I p0 v hl hb hs k (j + 1) n _ _ (by omega) (by omega) (by simp; omega) (by simp; omega) (fun h => h3 (List.mem_cons_of_mem _ h)),hd,hd',List.append_assoc,List.append_assoc]
    rfl
theorem zvT (n : Nat) (p : Str) (hp : Prot p) (hpl : plain p) (ns : List Str) (is : List z00) (h : Rest ns is) (t : Str) (ht : plain t) (ht' : t.length = 44) (hn : 40000000 ≤ n) :
    (z3Q n (mapY ns is (verF p 0) t) >>= fun b20 => if (!b20) then some ((⟨0,false,0,[],[],[]⟩ : z00),[],1) else
      z3r n 1 (mapY ns is (verF p 0) t) >>= fun b23 => if (b23.2 != 0) then some ((⟨0,false,0,[],[],[]⟩ : z00),[],b23.2) else
      z94 n (⟨p,1,0,1,(b23.1.length : Int)⟩ : z0g) >>= fun b26 => z1L n b26.1 >>= fun b28 =>
      z7E n (mapY ns is (verF p 0) t) nV b28 >>= fun b30 => z3r n 1 b30.1 >>= fun b32 => some (b30.1,b32.1,(0 : Int))) = some (mapY ns is (verF p (z4z ns is)) t,strOf (encF 8 (mapY ns is (verF p (z4z ns is)) t)),0) := by
  have h1 := h.len; have h2 := h.le; have hsz := h.size
  have hv0 := zbW hpl 0
  have lv0 := zhv hp.len 0
  have hv1 := zbW hpl (z4z ns is)
  have lv1 := zhv hp.len (z4z ns is)
  have l0 := zfm ns is hv0 ht
  have l1 := zfm ns is hv1 ht
  have w0 := h.wfY hv0.asc (by omega) ht.asc (by omega)
  have w1 := h.wfY hv1.asc (by omega) ht.asc (by omega)
  have e1 := zjj n (z4z ns is) p hp (by unfold z4z; omega) (by omega)
  rw [ze6 n _ w0 (by omega)]
  simp only [bs]
  rw [if_neg (by decide),zmb n _ w0 (by omega) (by rw [l0]; omega)]
  simp only [bs]
  rw [if_neg (by decide),z1f,l0,show ((15 + (verF p 0).length + t.length + (z3o (encF 7) true false ns is).length : Nat) : Int) = ((z4z ns is : Nat) : Int) by rw [lv0,ht',z4z],e1]
  simp only [bs]
  rw [z1L]
  simp only [bs]
  have hput := zvo n (nV :: nD :: ns) (txt (verF p 0) :: txt t :: is) nV (txt (verF p (z4z ns is))) 0 rfl w0 w1 (zcN 8 _ (zca 7 _ hv1.asc (by omega))) (by omega)
  refine (congrArg (fun x => x >>= _) hput).trans ?_
  simp only [bs]
  rw [show mapN (nV :: nD :: ns) ((txt (verF p 0) :: txt t :: is).set 0 (txt (verF p (z4z ns is)))) = mapY ns is (verF p (z4z ns is)) t from rfl,zmb n _ w1 (by omega) (by rw [l1]; omega)]
  simp only [bs]
theorem zyr (n : Nat) (p : Str) (hp : Prot p) (hpl : plain p) (ns : List Str) (is : List z00) (h : Rest ns is) (t : Str) (ht : plain t) (ht' : t.length = 44) (hn : 40000000 ≤ n) :
    z9N n (mapX ns is t) p 1 = some (mapY ns is (verF p (z4z ns is)) t,strOf (encF 8 (mapY ns is (verF p (z4z ns is)) t)),0) := by
  have h1 := h.len; have h2 := h.le
  have wx := h.wfX ht.asc (by omega)
  have sx8 : ∀ y ∈ txt t :: is,sm 8 y := fun y hy => zcN 8 y (ztn 7 y ((show Wf1 (wf 7) (mapX ns is t) from wx).all y hy))
  have e0 := zjj n 0 p hp (by omega) (by omega)
  rw [Int.natCast_zero] at e0
  have loop := zvA (nD :: ns) (txt t :: is) 1 ⟨p,1,0,1,0⟩ (by simp [h1]) (by simp; omega) sx8 (nD :: ns).length 0 n [nV] [txt (verF p 0)] (by omega) (by simp; omega) (by simp) (by simp) (List.nodup_cons.1 h.nd).1
  rw [z9N,e0]
  simp only [bs]
  rw [if_neg (by simp),ze6 n _ wx (by omega)]
  simp only [bs]
  rw [if_neg (by simp [mapX,mapN]),z1L]
  simp only [bs]
  refine (congrArg (fun x => x >>= _) loop).trans ?_
  simp only [bs]
  exact zvT n p hp hpl ns is h t ht ht' hn
theorem zyi (n : Nat) (p : Str) (hp : Prot p) (hpl : plain p) (ns : List Str) (is : List z00) (h : Rest ns is) (v t : Str) (hv : plain v) (hv' : v.length = 17) (ht : plain t) (ht' : t.length = 44) (hn : 40000000 ≤ n) :
    z9N n (mapY ns is v t) p 1 = some (mapY ns is (verF p (z4z ns is)) t,strOf (encF 8 (mapY ns is (verF p (z4z ns is)) t)),0) := by
  have h1 := h.len; have h2 := h.le
  have wy := h.wfY hv.asc (by omega) ht.asc (by omega)
  have sx8 : ∀ y ∈ txt v :: txt t :: is,sm 8 y := fun y hy => zcN 8 y (ztn 7 y ((show Wf1 (wf 7) (mapY ns is v t) from wy).all y hy))
  have e0 := zjj n 0 p hp (by omega) (by omega)
  rw [Int.natCast_zero] at e0
  have loop := zvA (nV :: nD :: ns) (txt v :: txt t :: is) 1 ⟨p,1,0,1,0⟩ (by simp [h1]) (by simp; omega) sx8 (ns.length + 1) 1 (n - 1) [nV] [txt (verF p 0)] (by simp; omega) (by omega) (by simp) (by simp) (List.nodup_cons.1 h.nd).1
  have loop' : z3E n 1 (nV :: nD :: ns) ((nV :: nD :: ns).length : Int) 0 (mapY ns is v t) ⟨p,1,0,1,0⟩ [nV] [txt (verF p 0)] = some (1,mapY ns is v t,⟨p,1,0,1,0⟩,[nV] ++ nD :: ns,[txt (verF p 0)] ++ txt t :: is) := by
    obtain ⟨n,rfl⟩ : ∃ m,n = m + 1 := ⟨n - 1,by omega⟩
    rw [z3E.eq_2,if_pos (by simp only [decide_eq_true_eq,List.length_cons]; omega),if_pos ⟨by omega,by simp; omega⟩,if_neg (by rw [show rd ([] : Str) (nV :: nD :: ns) 0 = nV from rfl]; simp [nV]),zoy]
    exact loop
  rw [z9N,e0]
  simp only [bs]
  rw [if_neg (by simp),ze6 n _ wy (by omega)]
  simp only [bs]
  rw [if_neg (by simp [mapY,mapN]),z1L]
  simp only [bs]
  refine (congrArg (fun x => x >>= _) loop').trans ?_
  simp only [bs]
  exact zvT n p hp hpl ns is h t ht ht' hn
theorem zuP (n : Nat) (p : Str) (hp : Prot p) (hpl : plain p) (ns : List Str) (is : List z00) (h : Rest ns is) (t0 : Str) (h0 : asc t0) (h0' : t0.length ≤ 65536) (hn : 50000000 ≤ n) :
    zeu n (mapX ns is t0) [nD] p 1 = some (outF p ns is,textF p ns is,0) := by
  obtain ⟨n,rfl⟩ : ∃ m,n = m + 10 := ⟨n - 10,by omega⟩
  have h1 := h.len; have h2 := h.le; have hsz := h.size
  have hv1 := zbW hpl (z4z ns is)
  have lv1 := zhv hp.len (z4z ns is)
  have hdg := zed (strOf (encF 8 (mapY ns is (verF p (z4z ns is)) dummy)))
  have ldg := zjX (strOf (encF 8 (mapY ns is (verF p (z4z ns is)) dummy)))
  rw [← zhG] at hdg ldg
  have l1 := zfm ns is hv1 z6t
  have wx := h.wfX h0 h0'
  have wx1 := h.wfX z6t.asc (by simp [dummy])
  have w1 := h.wfY hv1.asc (by omega) z6t.asc (by simp [dummy])
  have w2 := h.wfY hv1.asc (by omega) hdg.asc (by omega)
  have hset0 : ∀ n,30000000 ≤ n → z7E n (mapX ns is t0) nD (txt dummy) = some (mapX ns is dummy,0) := fun n hn =>
    zvo n (nD :: ns) (txt t0 :: is) nD (txt dummy) 0 rfl wx wx1 (zcN 8 _ (zca 7 _ z6t.asc (by simp [dummy]))) hn
  have hset1 : ∀ n,30000000 ≤ n → z7E n (mapY ns is (verF p (z4z ns is)) dummy) nD (txt (zhG p ns is)) = some (outF p ns is,0) := fun n hn =>
    zvo n (nV :: nD :: ns) (txt (verF p (z4z ns is)) :: txt dummy :: is) nD (txt (zhG p ns is)) 1 rfl w1 w2 (zcN 8 _ (zca 7 _ hdg.asc (by omega))) hn
  have lab : z6e (n + 10) [nD] p 1 [nD] 1 0 (mapX ns is t0) = some (.inr ([nD],p,1,mapX ns is t0)) := by
    rw [z6e.eq_2,if_pos (by decide),if_pos ⟨by omega,by simp⟩,if_neg (by decide),zoy,z6e.eq_2,if_neg (by decide)]
  rw [zeu,show ((([nD] : List Str).length : Nat) : Int) = 1 from rfl,lab]
  simp only [bs]
  have hc := hp.c n 0
  rw [if_neg (by decide),z8H,if_neg (by simp [hp.len]),hc]
  simp only [bs]
  rw [if_neg (by simp),zxw]
  simp only [bs]
  rw [zwf _ _ _ _ _ hset0 (by omega)]
  simp only [bs]
  rw [if_neg (by decide),zyr _ p hp hpl ns is h dummy z6t rfl (by omega)]
  simp only [bs]
  rw [if_neg (by decide),zgA _ _ (by rw [z1f,l1]; simp [dummy]; omega) (by omega)]
  simp only [bs]
  rw [← zhG,zwf _ _ _ _ _ hset1 (by omega)]
  simp only [bs]
  rw [outF,zyi _ p hp hpl ns is h _ _ hv1 lv1 hdg ldg (by omega)]
  simp only [bs,outF,textF]
theorem zxU (L : List Str) (I : List z00) (s : Str) (i : Nat) (v : z00) (hl : L.length = I.length) (hb : L.length ≤ 256) (hi : L[i]? = some s) (hb' : ∀ j < i,L[j]? ≠ some s) (hv : I[i]? = some v) (h : sm 8 v) : ∀ (k j n : Nat),j + k = i → 16000000 + k + 1 ≤ n → z5Z n s L (L.length : Int) (j : Int) (mapN L I) = some (.inl v)
  | 0,j,n,e,hn => by
    obtain ⟨n,rfl⟩ : ∃ m,n = m + 1 := ⟨n - 1,by omega⟩
    obtain rfl : j = i := by omega
    obtain ⟨hj,he⟩ := List.getElem?_eq_some_iff.1 hi
    obtain ⟨hj',he'⟩ := List.getElem?_eq_some_iff.1 hv
    rw [z5Z.eq_2,if_pos (by simp only [decide_eq_true_eq]; omega),if_pos ⟨by omega,by omega⟩,z8q [] L j hj,he,if_pos (by simp [mapN]; omega),if_pos (by simp only [mapN]; exact ⟨by omega,by omega⟩),show (mapN L I).z05 = I from rfl,z8q _ I j hj',he',zl3 8 n v h (by omega)]
    simp only [bs]
  | k + 1,j,n,e,hn => by
    obtain ⟨n,rfl⟩ : ∃ m,n = m + 1 := ⟨n - 1,by omega⟩
    have hlt := (List.getElem?_eq_some_iff.1 hi).1
    have hj : j < L.length := by omega
    have hne : (L[j] == s) = false := by
      rw [beq_eq_false_iff_ne]
      exact fun e' => hb' j (by omega) (by rw [List.getElem?_eq_getElem hj,e'])
    rw [z5Z.eq_2,if_pos (by simp only [decide_eq_true_eq]; omega),if_pos ⟨by omega,by omega⟩,z8q [] L j hj,hne,if_neg (by simp),wj (by omega)]
    exact zxU L I s i v hl hb hi hb' hv h k (j + 1) n (by omega) (by omega)
theorem zAx (n : Nat) (L : List Str) (I : List z00) (s : Str) (i : Nat) (v : z00) (hl : L.length = I.length) (hb : L.length ≤ 256) (hi : L[i]? = some s) (hb' : ∀ j < i,L[j]? ≠ some s) (hv : I[i]? = some v) (h : sm 8 v) (hn : 20000000 ≤ n) : zel n (mapN L I) s = some (v,true) := by
  have hlt := (List.getElem?_eq_some_iff.1 hi).1
  rw [zel,show (mapN L I).z07 = L from rfl,show (0 : Int) = ((0 : Nat) : Int) from rfl,zxU L I s i v hl hb hi hb' hv h i 0 n (by omega) (by omega)]
  simp only [bs]
end Go.Proofs.YtifmnhcmmoacfaaGreatDoorQ
namespace Go.Proofs.YtifmnhcmmoacfaaGreatDoorQ
open Go Go.PE
theorem zCV {α : Type} {f : Nat → Option α} {r : α} (N : Nat) (h : f N = some r) (up : ∀ n,Le (f n) (f (n + 1))) : ∀ n,N ≤ n → f n = some r := fun n hn => by
  induction n with
  | zero => obtain rfl : N = 0 := by omega
            exact h
  | succ n ih => by_cases e : N = n + 1
                 · subst e; exact h
                 · exact up n r (ih (by omega))
end Go.Proofs.YtifmnhcmmoacfaaGreatDoorQ
set_option maxRecDepth 100000
set_option maxHeartbeats 2000000
namespace Go.Proofs.YtifmnhcmmoacfaaGreatDoorQ
open Go Go.PE
def NAMES : List Str := [[97,103,101],[110,97,109,101],[97,100,117,108,116],[105,100],[114,97,110,107],[115,101,97,116]]
structure z9B (f : z03) : Prop where
  name : f.z0l ∈ NAMES
  ok : (f.z08 = 1 ∧ 0 ≤ f.z0G ∧ f.z0G ≤ f.z15 ∧ f.z15 ≤ 65536) ∨ (f.z08 = 2 ∧ -1099511627776 ≤ f.z0G ∧ f.z0G ≤ f.z15 ∧ f.z15 ≤ 1099511627776) ∨ (f.z08 = 3 ∧ f.z0G = 0 ∧ f.z15 = 0) ∨ (f.z08 = 4 ∧ f.z0G = 0 ∧ f.z15 = 0)
structure zan (l : List z03) : Prop where
  all : ∀ f ∈ l,z9B f
  nd : (l.map z03.z0l).Nodup
  le : l.length ≤ 6
structure Title (s : Str) : Prop where
  a : ∀ n,z7F (n + 100) s = some true
  b : ∀ n,zbY (n + 100) s = some true
  plain : plain s
  len : s.length ≤ 32
theorem zsv (s : Str) (h : s ∈ ([112,101,114,115,111,110] : Str) :: ([119,105,100,101] : Str) :: NAMES) : Title s := by
  simp only [NAMES,List.mem_cons,List.not_mem_nil,or_false] at h
  rcases h with rfl | rfl | rfl | rfl | rfl | rfl | rfl | rfl <;> exact ⟨fun n => by kernel_rfl,fun n => by kernel_rfl,by unfold plain; decide,by decide⟩
theorem z9B.title {f : z03} (h : z9B f) : Title f.z0l := zsv _ (List.mem_cons_of_mem _ (List.mem_cons_of_mem _ h.name))
def idxG : Nat → List z03 → List (Str × z0h)
  | _,[] => []
  | j,f :: r => (f.z0l,⟨⟨f.z0l,f.z08,f.z0p,f.z0G,f.z15⟩,(j : Int)⟩) :: idxG (j + 1) r
theorem zoX : ∀ j l,(idxG j l).length = l.length
  | _,[] => rfl
  | j,f :: r => by simp [idxG,zoX]
theorem zoR : ∀ j a b,idxG j (a ++ b) = idxG j a ++ idxG (j + a.length) b
  | j,[],b => by simp [idxG]
  | j,f :: r,b => by simp only [List.cons_append,idxG,zoR,List.length_cons]; rw [show j + 1 + r.length = j + (r.length + 1) by omega]
theorem zw2 {α : Type} (s : Str) : ∀ m : List (Str × α),(∀ p ∈ m,s ≠ p.1) → alk (fun y => s == y) m = none
  | [],_ => rfl
  | (a,b) :: r,h => by
    have e : (s == a) = false := beq_false_of_ne (h (a,b) (by simp))
    simp only [alk,e,cond_false]
    exact zw2 s r fun p hp => h p (by simp [hp])
theorem zxC {α : Type} (s : Str) (v : α) : ∀ m : List (Str × α),(∀ p ∈ m,s ≠ p.1) → ast (fun y => s == y) s v m = m ++ [(s,v)]
  | [],_ => rfl
  | (a,b) :: r,h => by
    have e : (s == a) = false := beq_false_of_ne (h (a,b) (by simp))
    simp only [ast,e,cond_false]
    rw [zxC s v r fun p hp => h p (by simp [hp])]; rfl
theorem zuB (s : Str) : ∀ j l,s ∉ l.map z03.z0l → ∀ p ∈ idxG j l,s ≠ p.1
  | _,[],_,p,hp => by cases hp
  | j,f :: r,h,p,hp => by
    simp only [List.map_cons,List.mem_cons,not_or] at h
    simp only [idxG,List.mem_cons] at hp
    rcases hp with rfl | hp
    · exact h.1
    · exact zuB s (j + 1) r h.2 p hp
theorem zw6 : ∀ (l : List z03) (j i : Nat) (f : z03),l[i]? = some f → (l.map z03.z0l).Nodup → alk (fun y => f.z0l == y) (idxG j l) = some ⟨⟨f.z0l,f.z08,f.z0p,f.z0G,f.z15⟩,((j + i : Nat) : Int)⟩
  | g :: r,j,0,f,h,hd => by
    obtain rfl : g = f := by simpa using h
    simp only [idxG,alk,beq_self_eq_true,cond_true]; rfl
  | g :: r,j,i + 1,f,h,hd => by
    simp only [List.map_cons,List.nodup_cons] at hd
    have hr : r[i]? = some f := by simpa using h
    have e : (f.z0l == g.z0l) = false := beq_false_of_ne fun e => hd.1 (by rw [← e]; exact List.mem_map_of_mem (List.mem_of_getElem? hr))
    simp only [idxG,alk,e,cond_false]
    rw [zw6 r (j + 1) i f hr hd.2,show j + 1 + i = j + (i + 1) by omega]
theorem zgs (l : List z03) (hl : l.length ≤ 1000) (hd : (l.map z03.z0l).Nodup) : ∀ k j n,j + k = l.length → k + 1 ≤ n → z2I n l (l.length : Int) (j : Int) (idxG 0 (l.take j)) = some (idxG 0 l)
  | 0,j,n,h,hn => by
    obtain ⟨n,rfl⟩ : ∃ m,n = m + 1 := ⟨n - 1,by omega⟩
    rw [z2I.eq_2,if_neg (by simp only [decide_eq_true_eq]; omega),List.take_of_length_le (by omega)]
  | k + 1,j,n,h,hn => by
    obtain ⟨n,rfl⟩ : ∃ m,n = m + 1 := ⟨n - 1,by omega⟩
    have hj : j < l.length := by omega
    have hnot : (l[j]).z0l ∉ (l.take j).map z03.z0l := fun hm => by
      have e : l = l.take j ++ l[j] :: l.drop (j + 1) := by rw [← List.drop_eq_getElem_cons hj,List.take_append_drop]
      rw [e,List.map_append,List.map_cons] at hd
      exact (List.nodup_append.1 hd).2.2 _ hm _ (by simp) rfl
    have hk := zuB _ 0 _ hnot
    rw [z2I.eq_2,if_pos (by simp only [decide_eq_true_eq]; omega),if_pos ⟨by omega,by omega⟩,z8q _ l j hj,zw2 _ _ hk,if_pos (by rfl),wj (by omega),zxC _ _ _ hk]
    have := zgs l hl hd k (j + 1) n (by omega) (by omega)
    rw [List.take_succ_eq_append_getElem hj,zoR] at this
    rw [List.length_take,Nat.min_eq_left (by omega),Nat.zero_add] at this
    exact this
theorem zmx (n : Nat) (l : List z03) (hl : l.length ≤ 1000) (hd : (l.map z03.z0l).Nodup) (hn : 2000 ≤ n) : z7I n l = some (idxG 0 l) := by
  have := zgs l hl hd l.length 0 n (by omega) (by omega)
  rw [z7I,show (0 : Int) = ((0 : Nat) : Int) from rfl]
  refine (congrArg (fun x => x >>= _) this).trans ?_
  simp only [bs]
theorem zwr (n : Nat) (f : z03) (h : z9B f) : z6X n f = some true := by
  rw [z6X]
  rcases h.ok with ⟨k,a,b,c⟩ | ⟨k,a,b,c⟩ | ⟨k,a,b⟩ | ⟨k,a,b⟩ <;> simp only [k] <;> simp [a,b] <;> omega
theorem zwt (n : Nat) (f : z03) (h : z9B f) (hn : 200 ≤ n) : z6Y n f = some false := by
  obtain ⟨n,rfl⟩ : ∃ m,n = m + 100 := ⟨n - 100,by omega⟩
  rw [z6Y,h.title.a]
  simp only [bs]
  rw [if_neg (by decide),zwr _ f h]
  simp only [bs,Bool.not_true]
theorem ziy (l : List z03) (hl : l.length ≤ 1000) (h : ∀ f ∈ l,z9B f) : ∀ k j n,j + k = l.length → 200 + k + 1 ≤ n → z0t n l (l.length : Int) (j : Int) = some (.inr ())
  | 0,j,n,e,hn => by
    obtain ⟨n,rfl⟩ : ∃ m,n = m + 1 := ⟨n - 1,by omega⟩
    rw [z0t.eq_2,if_neg (by simp only [decide_eq_true_eq]; omega)]
  | k + 1,j,n,e,hn => by
    obtain ⟨n,rfl⟩ : ∃ m,n = m + 1 := ⟨n - 1,by omega⟩
    have hj : j < l.length := by omega
    rw [z0t.eq_2,if_pos (by simp only [decide_eq_true_eq]; omega),if_pos ⟨by omega,by omega⟩,z8q _ l j hj,zwt _ _ (h _ (List.getElem_mem hj)) (by omega)]
    simp only [bs]
    rw [if_neg (by decide),wj (by omega)]
    exact ziy l hl h k (j + 1) n (by omega) (by omega)
theorem right_eq (n : Nat) (t : Str) (ht : Title t) (l : List z03) (h : zan l) (hn : 3000 ≤ n) : z96 n t l = some true := by
  have hl := h.le
  have e1 := zmx n l (by omega) h.nd (by omega)
  have e3 := ziy l (by omega) h.all l.length 0 n (by omega) (by omega)
  obtain ⟨n,rfl⟩ : ∃ m,n = m + 100 := ⟨n - 100,by omega⟩
  rw [z96,e1]
  simp only [bs]
  rw [ht.a]
  simp only [bs]
  rw [if_neg (by simp [zoX]; omega),z0N,z0S]
  refine (congrArg (fun x => ((x >>= _) >>= _) >>= _) e3).trans ?_
  simp only [bs]
  rfl
def num (k : Int) : z00 := ⟨2,false,k,[],[],[]⟩
def flg (b : Bool) : z00 := ⟨1,b,0,[],[],[]⟩
def lst (l : List z00) : z00 := ⟨4,false,0,[],[],l⟩
def FN : List Str := [[110,97,109,101],[107,105,110,100],[114,101,113,117,105,114,101,100],[108,101,97,115,116],[109,111,115,116]]
def fieldN (f : z03) : z00 := mapN FN [txt f.z0l,num f.z08,flg f.z0p,num f.z0G,num f.z15]
theorem zvG (d : Nat) (k : Int) (h0 : -9223372036854775808 ≤ k) (h1 : k < 9223372036854775808) : wf (d + 1) (num k) :=
  ({ k0 := by simp [num],k5 := by simp [num],b := fun _ => rfl,nu := fun h => absurd rfl h,t := fun _ => rfl,i := fun _ => rfl,na := fun _ => rfl,ta := fun b hb => by simp [num] at hb,tl := by simp [num],il := by simp [num],ni := fun h => by simp [num] at h,nd := by simp [num],ns := fun s hs => by simp [num] at hs,n0 := h0,n1 := h1,all := fun y hy => by simp [num] at hy } : Wf1 (wf d) (num k))
theorem zz2 (d : Nat) (b : Bool) : wf (d + 1) (flg b) :=
  ({ k0 := by simp [flg],k5 := by simp [flg],b := fun h => absurd rfl h,nu := fun h => rfl,t := fun _ => rfl,i := fun _ => rfl,na := fun _ => rfl,ta := fun b hb => by simp [flg] at hb,tl := by simp [flg],il := by simp [flg],ni := fun h => by simp [flg] at h,nd := by simp [flg],ns := fun s hs => by simp [flg] at hs,n0 := by simp [flg],n1 := by simp [flg],all := fun y hy => by simp [flg] at hy } : Wf1 (wf d) (flg b))
theorem zBg {d : Nat} {l : List z00} (hl : l.length ≤ 256) (h : ∀ y ∈ l,wf d y) : wf (d + 1) (lst l) :=
  ({ k0 := by simp [lst],k5 := by simp [lst],b := fun h => rfl,nu := fun h => rfl,t := fun _ => rfl,i := fun h => by simp [lst] at h,na := fun _ => rfl,ta := fun b hb => by simp [lst] at hb,tl := by simp [lst],il := hl,ni := fun h => by simp [lst] at h,nd := by simp [lst],ns := fun s hs => by simp [lst] at hs,n0 := by simp [lst],n1 := by simp [lst],all := h } : Wf1 (wf d) (lst l))
theorem zCk : ∀ s ∈ FN,asc s ∧ s.length ≤ 65536 := by unfold asc; decide
theorem z9B.range {f : z03} (h : z9B f) : -1099511627776 ≤ f.z0G ∧ f.z0G ≤ 1099511627776 ∧ -1099511627776 ≤ f.z15 ∧ f.z15 ≤ 1099511627776 ∧ 0 ≤ f.z08 ∧ f.z08 ≤ 4 := by
  rcases h.ok with ⟨k,a,b,c⟩ | ⟨k,a,b,c⟩ | ⟨k,a,b⟩ | ⟨k,a,b⟩ <;> omega
theorem znL (d : Nat) (f : z03) (h : z9B f) : wf (d + 2) (fieldN f) := by
  have r := h.range
  have t := h.title
  have tl := t.len
  refine zv2 (by simp [FN]) (by simp [FN]) (by decide) zCk (fun y hy => ?_)
  simp only [List.mem_cons,List.not_mem_nil,or_false] at hy
  rcases hy with rfl | rfl | rfl | rfl | rfl
  · exact zca d _ t.plain.asc (by omega)
  · exact zvG d _ (by omega) (by omega)
  · exact zz2 d _
  · exact zvG d _ (by omega) (by omega)
  · exact zvG d _ (by omega) (by omega)
theorem zr8 (u : Nat) (h : u < 18446744073709551616) : Lib.nDigits u ≤ 20 := by
  rcases Nat.eq_zero_or_pos u with e | e
  · rw [Lib.nDigits_small (by omega)]; omega
  · have := Lib.numDigits_eq u e h; split at this <;> omega
theorem zyg (x : Int) (h0 : -9223372036854775808 ≤ x) (h1 : x < 9223372036854775808) : (Lib.itoa x).length ≤ 21 := by
  unfold Lib.itoa
  split
  · have := zr8 x.natAbs (by omega); rw [List.length_cons,Lib.decDigits_length]; omega
  · have := zr8 x.toNat (by omega); rw [Lib.decDigits_length]; omega
theorem zyn (d : Nat) (k : Int) : encF (d + 1) (num k) = bytesOf (Lib.itoa k) := by
  rw [encF,if_neg (by simp [num]),if_neg (by simp [num]),if_pos (show (num k).z08 = 2 from rfl)]; rfl
theorem zyE (d : Nat) (b : Bool) : encF (d + 1) (flg b) = if b then bytesOf ([116,114,117,101] : Str) else bytesOf ([102,97,108,115,101] : Str) := by
  rw [encF,if_neg (by simp [flg]),if_pos (show (flg b).z08 = 1 from rfl)]; rfl
theorem zyN (d : Nat) (l : List z00) : encF (d + 1) (lst l) = 91 :: (z3o (encF d) false true [] l ++ [93]) := by
  rw [encF,if_neg (by simp [lst]),if_neg (by simp [lst]),if_neg (by simp [lst]),if_neg (by simp [lst]),if_neg (by simp [lst])]; rfl
theorem zuC (d : Nat) (b : Bool) : (encF (d + 1) (flg b)).length ≤ 5 := by
  rw [zyE]; cases b <;> decide
theorem zhc (d : Nat) (x : Int) (h0 : -9223372036854775808 ≤ x) (h1 : x < 9223372036854775808) : (encF (d + 1) (num x)).length ≤ 21 := by
  rw [zyn,z6A]; exact zyg x h0 h1
theorem zwn (d : Nat) (f : z03) (h : z9B f) : (encF (d + 2) (fieldN f)).length ≤ 300 := by
  have r := h.range
  have t := h.title
  have tl := t.len
  have e := zwg (d + 1) FN [txt f.z0l,num f.z08,flg f.z0p,num f.z0G,num f.z15]
  have l1 := zhc d f.z08 (by omega) (by omega)
  have l2 := zhc d f.z0G (by omega) (by omega)
  have l3 := zhc d f.z15 (by omega) (by omega)
  have l4 := zuC d f.z0p
  have l5 : (encF (d + 1) (txt f.z0l)).length ≤ 34 := by rw [zns,t.plain.zkH]; omega
  rw [show fieldN f = mapN FN [txt f.z0l,num f.z08,flg f.z0p,num f.z0G,num f.z15] from rfl,show d + 2 = d + 1 + 1 from rfl,e]
  simp only [FN,z3o,List.headD_cons,List.tail_cons,if_true,Bool.false_eq_true,if_false,List.nil_append,List.length_cons,List.length_append,List.length_nil]
  rw [show (z5L [110,97,109,101]).length = 6 from rfl,show (z5L [107,105,110,100]).length = 6 from rfl,show (z5L [114,101,113,117,105,114,101,100]).length = 10 from rfl,show (z5L [108,101,97,115,116]).length = 7 from rfl,show (z5L [109,111,115,116]).length = 6 from rfl]
  omega
theorem zqT (f : z00 → List Int) (K : Nat) : ∀ (l : List z00) (b : Bool) (ns : List Str),(∀ y ∈ l,(f y).length ≤ K) → (z3o f false b ns l).length ≤ l.length * (K + 1)
  | [],b,ns,h => by simp [z3o]
  | x :: r,b,ns,h => by
    have ih := zqT f K r false ns.tail fun y hy => h y (by simp [hy])
    have hx := h x (by simp)
    have e : (r.length + 1) * (K + 1) = r.length * (K + 1) + (K + 1) := by rw [Nat.add_mul,Nat.one_mul]
    simp only [z3o,List.length_append,List.length_cons,Bool.false_eq_true,if_false,List.length_nil]
    rw [e]
    cases b <;> simp <;> omega
def SN : List Str := [[116,105,116,108,101],[102,105,101,108,100,115]]
def z2m (t : Str) (l : List z03) : List z00 := [txt t,lst (l.map fieldN)]
theorem zrz (t : Str) (ht : Title t) (l : List z03) (h : zan l) : Rest SN (z2m t l) := by
  have hl := h.le
  have tl := ht.len
  refine ⟨rfl,by decide,by decide,by unfold asc; decide,fun y hy => ?_,?_⟩
  · simp only [z2m,List.mem_cons,List.not_mem_nil,or_false] at hy
    rcases hy with rfl | rfl
    · exact zca 6 _ ht.plain.asc (by omega)
    · refine zBg (by simp; omega) fun y hy => ?_
      obtain ⟨f,hf,rfl⟩ := List.mem_map.1 hy
      exact znL 4 f (h.all f hf)
  · have e := zqT (encF 6) 300 (l.map fieldN) true [] fun y hy => by
      obtain ⟨f,hf,rfl⟩ := List.mem_map.1 hy
      exact zwn 4 f (h.all f hf)
    rw [List.length_map] at e
    have e1 : encF 7 (txt t) = z5L t := zns 6 t
    have e2 : encF 7 (lst (l.map fieldN)) = 91 :: (z3o (encF 6) false true [] (l.map fieldN) ++ [93]) := zyN 6 _
    simp only [SN,z2m,z3o,e1,e2,List.headD_cons,List.tail_cons,if_true,Bool.false_eq_true,if_false,List.length_cons,List.length_append,List.length_nil,ht.plain.zkH]
    rw [show (z5L [116,105,116,108,101]).length = 7 from rfl,show (z5L [102,105,101,108,100,115]).length = 8 from rfl]
    have : l.length * (300 + 1) ≤ 1806 := by omega
    omega
def SCHM : Str := [83,67,72,77]
def zry (t : Str) (l : List z03) : Str := zhG SCHM SN (z2m t l)
def zrC (t : Str) (l : List z03) : Str := textF SCHM SN (z2m t l)
def z8y (t : Str) (l : List z03) : z0k := ⟨zry t l,t,l⟩
theorem zrl : plain SCHM := by unfold plain; decide
theorem zz6 (n d : Nat) (ns : List Str) (is : List z00) (h : wf d (mapN ns is)) (hd : d ≤ 8) (hn : 20000000 ≤ n) : zfe n ns is = some (mapN ns is) := by
  rw [zfe]
  refine (congrArg (fun x => x >>= _) (zrb 8 n _ (zcN 8 _ (zyB hd h)) (by omega))).trans ?_
  simp only [bs]
theorem zxD (n d : Nat) (ns : List Str) (is : List z00) (h : wf d (mapN ns is)) (hd : d ≤ 8) (hn : 20000000 ≤ n) : zcO n ns is = some (mapN ns is) := by
  rw [zcO]
  refine (congrArg (fun x => x >>= _) (zl3 8 n _ (zcN 8 _ (zyB hd h)) (by omega))).trans ?_
  simp only [bs]
theorem zAC (n d : Nat) (is : List z00) (h : wf d (lst is)) (hd : d ≤ 8) (hn : 20000000 ≤ n) : zep n is = some (lst is) := by
  rw [zep]
  refine (congrArg (fun x => x >>= _) (zrb 8 n _ (zcN 8 _ (zyB hd h)) (by omega))).trans ?_
  simp only [bs]
theorem zyw (n d : Nat) (is : List z00) (h : wf d (lst is)) (hd : d ≤ 8) (hn : 20000000 ≤ n) : zbV n is = some (lst is) := by
  rw [zbV]
  refine (congrArg (fun x => x >>= _) (zl3 8 n _ (zcN 8 _ (zyB hd h)) (by omega))).trans ?_
  simp only [bs]
theorem zxe (t : Str) (l : List z03) (hl : l.length ≤ 1000) (h : ∀ f ∈ l,z9B f) (l' : List z03) : ∀ k j n,j + k = l.length → 20000000 + k + 1 ≤ n → z4q n t l' l (l.length : Int) (j : Int) ((l.take j).map fieldN) = some (t,l',l.map fieldN)
  | 0,j,n,e,hn => by
    obtain ⟨n,rfl⟩ : ∃ m,n = m + 1 := ⟨n - 1,by omega⟩
    rw [z4q.eq_2,if_neg (by simp only [decide_eq_true_eq]; omega),List.take_of_length_le (by omega)]
  | k + 1,j,n,e,hn => by
    obtain ⟨n,rfl⟩ : ∃ m,n = m + 1 := ⟨n - 1,by omega⟩
    have hj : j < l.length := by omega
    have hm := zz6 n 2 FN _ (znL 0 (l[j]) (h _ (List.getElem_mem hj))) (by omega) (by omega)
    rw [z4q.eq_2,if_pos (by simp only [decide_eq_true_eq]; omega),if_pos ⟨by omega,by omega⟩,z8q _ l j hj,z4v,z6H,zc8,z6H,z6H]
    simp only [bs]
    refine (congrArg (fun x => x >>= _) hm).trans ?_
    simp only [bs]
    rw [if_pos (by show _ ≤ _; simp only [List.length_map,List.length_take]; omega),wj (by omega)]
    have ih := zxe t l hl h l' k (j + 1) n (by omega) (by omega)
    rw [List.take_succ_eq_append_getElem hj,List.map_append] at ih
    exact ih
theorem zxX (n : Nat) (t : Str) (ht : Title t) (l : List z03) (h : zan l) (hn : 60000000 ≤ n) : z7x n t l = some (z8y t l,zrC t l,0) := by
  have hr := zrz t ht l h
  have hl := h.le
  have e1 := zxe t l (by omega) h.all l l.length 0 n (by omega) (by omega)
  have wx := hr.wfX (t := []) (fun b hb => by cases hb) (by simp)
  have wl : wf 7 (lst (l.map fieldN)) := hr.all _ (by simp [z2m])
  have e2 := zAC n 7 _ wl (by omega) (by omega)
  have e3 := zz6 n 8 _ _ wx (by omega) (by omega)
  have e4 := zwZ n SCHM zuE zrl SN (z2m t l) hr [] (fun b hb => by cases hb) (by simp) (by omega)
  have hdg := zed (strOf (encF 8 (mapY SN (z2m t l) (verF SCHM (z4z SN (z2m t l))) dummy)))
  have ldg := zjX (strOf (encF 8 (mapY SN (z2m t l) (verF SCHM (z4z SN (z2m t l))) dummy)))
  rw [← zhG] at hdg ldg
  have e5 := zB8 n (nV :: nD :: SN) (txt (verF SCHM (z4z SN (z2m t l))) :: txt (zhG SCHM SN (z2m t l)) :: z2m t l) nD (txt (zhG SCHM SN (z2m t l))) 1 rfl (by decide) rfl (fun j hj => by rw [show j = 0 by omega]; simp [nV,nD]) rfl (zcN 8 _ (zca 7 _ hdg.asc (by omega))) (by omega)
  rw [z7x,right_eq n t ht l h (by omega)]
  simp only [bs]
  rw [if_neg (by decide)]
  refine (congrArg (fun x => x >>= _) e1).trans ?_
  simp only [bs]
  rw [z4v,z4v]
  simp only [bs]
  refine (congrArg (fun x => x >>= _) e2).trans ?_
  simp only [bs]
  refine (congrArg (fun x => x >>= _) e3).trans ?_
  simp only [bs]
  refine (congrArg (fun x => x >>= _) e4).trans ?_
  simp only [bs]
  rw [if_neg (by decide)]
  refine (congrArg (fun x => x >>= _) e5).trans ?_
  simp only [bs]
  rw [z2S,if_pos (by show _ ≤ _; omega)]
  simp only [bs]
  rfl
theorem ztW (n : Nat) (t : Str) (ht : Title t) (l : List z03) (h : zan l) (hn : 60000000 ≤ n) : z95 n (z8y t l) = some true := by
  rw [z95]
  refine (congrArg (fun x => x >>= _) (zxX n t ht l h hn)).trans ?_
  simp only [bs]
  simp [z8y]
end Go.Proofs.YtifmnhcmmoacfaaGreatDoorQ
set_option maxRecDepth 100000
set_option maxHeartbeats 2000000
namespace Go.Proofs.YtifmnhcmmoacfaaGreatDoorQ
open Go Go.PE
theorem zyI {l : List z03} (hd : (l.map z03.z0l).Nodup) {i j : Nat} (hi : i < l.length) (hj : j < l.length) (h : i ≠ j) : (l[i]).z0l ≠ (l[j]).z0l := fun e => by
  have hi' : i < (l.map z03.z0l).length := by simpa using hi
  have hj' : j < (l.map z03.z0l).length := by simpa using hj
  exact h ((List.getElem_inj (h₀ := hi') (h₁ := hj') hd).1 (by simpa using e))
theorem zxP (l p1 : List z03) (p2 : Int) (i : Nat) (hi : i < l.length) (hl : l.length ≤ 1000) (hd : (l.map z03.z0l).Nodup) : ∀ k j n,j + k = i → k + 1 ≤ n → z4Q n l p1 p2 (i : Int) (i : Int) (j : Int) (l[i]) = some (.inr (l,p1,p2,(i : Int),l[i]))
  | 0,j,n,e,hn => by
    obtain ⟨n,rfl⟩ : ∃ m,n = m + 1 := ⟨n - 1,by omega⟩
    rw [z4Q.eq_2,if_neg (by simp only [decide_eq_true_eq]; omega)]
  | k + 1,j,n,e,hn => by
    obtain ⟨n,rfl⟩ : ∃ m,n = m + 1 := ⟨n - 1,by omega⟩
    have hj : j < l.length := by omega
    rw [z4Q.eq_2,if_pos (by simp only [decide_eq_true_eq]; omega),if_pos ⟨by omega,by omega⟩,z8q _ l j hj,if_neg (by rw [beq_iff_eq]; exact zyI hd hj hi (by omega)),wj (by omega)]
    exact zxP l p1 p2 i hi hl hd k (j + 1) n (by omega) (by omega)
theorem zxv (l : List z03) (hl : l.length ≤ 1000) (h : ∀ f ∈ l,z9B f) (hd : (l.map z03.z0l).Nodup) : ∀ k j n,j + k = l.length → 2000 + k + 1 ≤ n → z2K n l l (l.length : Int) (j : Int) = some (.inr ())
  | 0,j,n,e,hn => by
    obtain ⟨n,rfl⟩ : ∃ m,n = m + 1 := ⟨n - 1,by omega⟩
    rw [z2K.eq_2,if_neg (by simp only [decide_eq_true_eq]; omega)]
  | k + 1,j,n,e,hn => by
    obtain ⟨n,rfl⟩ : ∃ m,n = m + 101 := ⟨n - 101,by omega⟩
    have hj : j < l.length := by omega
    have f := h _ (List.getElem_mem hj)
    have i2 := zxP l l (l.length : Int) j hj hl hd j 0 (n + 100) (by omega) (by omega)
    rw [Int.natCast_zero] at i2
    have ih := zxv l hl h hd k (j + 1) (n + 100) (by omega) (by omega)
    rw [show n + 101 = (n + 100) + 1 by omega,z2K.eq_2,if_pos (by simp only [decide_eq_true_eq]; omega),if_pos ⟨by omega,by omega⟩,z8q _ l j hj,f.title.b]
    simp only [bs]
    rw [if_neg (by decide),i2]
    simp only [bs]
    rw [wj (by omega),ih]
    rcases f.ok with ⟨k,a,b,c⟩ | ⟨k,a,b,c⟩ | ⟨k,a,b⟩ | ⟨k,a,b⟩ <;> simp only [k] <;> simp [a,b] <;> omega
theorem zAG (n : Nat) (t : Str) (ht : Title t) (l : List z03) (h : zan l) (hn : 4000 ≤ n) : zbU n t l = some true := by
  have hl := h.le
  have e1 := zxv l (by omega) h.all h.nd l.length 0 n (by omega) (by omega)
  obtain ⟨n,rfl⟩ : ∃ m,n = m + 100 := ⟨n - 100,by omega⟩
  rw [zbU,ht.b]
  simp only [bs]
  rw [if_neg (by simp; omega)]
  refine (congrArg (fun x => x >>= _) e1).trans ?_
  simp only [bs]
theorem ztK (s t : Str) (l : List z03) (hl : l.length ≤ 1000) (h : ∀ f ∈ l,z9B f) : ∀ k j n,j + k = l.length → 20000000 + k + 1 ≤ n → z3D n (l.length : Int) (j : Int) l s t ((l.take j).map fieldN) = some (l,s,t,l.map fieldN)
  | 0,j,n,e,hn => by
    obtain ⟨n,rfl⟩ : ∃ m,n = m + 1 := ⟨n - 1,by omega⟩
    rw [z3D.eq_2,if_neg (by simp only [decide_eq_true_eq]; omega),List.take_of_length_le (by omega)]
  | k + 1,j,n,e,hn => by
    obtain ⟨n,rfl⟩ : ∃ m,n = m + 1 := ⟨n - 1,by omega⟩
    have hj : j < l.length := by omega
    have hm := zxD n 2 FN _ (znL 0 (l[j]) (h _ (List.getElem_mem hj))) (by omega) (by omega)
    rw [z3D.eq_2,if_pos (by simp only [decide_eq_true_eq]; omega),if_pos ⟨by omega,by omega⟩,if_pos ⟨by omega,by omega⟩,z8q _ l j hj,z1L,z3b,zcp,z3b,z3b]
    simp only [bs]
    refine (congrArg (fun x => x >>= _) hm).trans ?_
    simp only [bs]
    rw [if_pos (by show _ ≤ _; simp only [List.length_map,List.length_take]; omega),wj (by omega)]
    have ih := ztK s t l hl h k (j + 1) n (by omega) (by omega)
    rw [List.take_succ_eq_append_getElem hj,List.map_append] at ih
    exact ih
theorem zyL (n : Nat) (t : Str) (ht : Title t) (l : List z03) (h : zan l) (hn : 60000000 ≤ n) : zbR n t l = some (z8y t l,zrC t l,0) := by
  have hr := zrz t ht l h
  have hl := h.le
  have e1 := ztK [] t l (by omega) h.all l.length 0 n (by omega) (by omega)
  have wx := hr.wfX (t := []) (fun b hb => by cases hb) (by simp)
  have wl : wf 7 (lst (l.map fieldN)) := hr.all _ (by simp [z2m])
  have e2 := zyw n 7 _ wl (by omega) (by omega)
  have e3 := zxD n 8 _ _ wx (by omega) (by omega)
  have e4 := zuP n SCHM zuE zrl SN (z2m t l) hr [] (fun b hb => by cases hb) (by simp) (by omega)
  have hdg := zed (strOf (encF 8 (mapY SN (z2m t l) (verF SCHM (z4z SN (z2m t l))) dummy)))
  have ldg := zjX (strOf (encF 8 (mapY SN (z2m t l) (verF SCHM (z4z SN (z2m t l))) dummy)))
  rw [← zhG] at hdg ldg
  have e5 := zAx n (nV :: nD :: SN) (txt (verF SCHM (z4z SN (z2m t l))) :: txt (zhG SCHM SN (z2m t l)) :: z2m t l) nD 1 (txt (zhG SCHM SN (z2m t l))) rfl (by decide) rfl (fun j hj => by rw [show j = 0 by omega]; simp [nV,nD]) rfl (zcN 8 _ (zca 7 _ hdg.asc (by omega))) (by omega)
  rw [zbR,zAG n t ht l h (by omega)]
  simp only [bs]
  rw [if_neg (by decide),if_pos (by show _ ≤ _; omega),zaH]
  refine (congrArg (fun x => (x >>= _) >>= _) e1).trans ?_
  simp only [bs]
  rw [z1L,z1L]
  simp only [bs]
  refine (congrArg (fun x => (x >>= _) >>= _) e2).trans ?_
  simp only [bs]
  refine (congrArg (fun x => (x >>= _) >>= _) e3).trans ?_
  simp only [bs]
  refine (congrArg (fun x => x >>= _) e4).trans ?_
  simp only [bs]
  rw [if_neg (by decide)]
  refine (congrArg (fun x => x >>= _) e5).trans ?_
  simp only [bs]
  rfl
theorem zjf (m : Int) (hm0 : 1 ≤ m) (hm1 : m ≤ 1000) (n : Nat) (l : List Int) (i : Nat) (hl : l.length ≤ 1000) : ∃ (v : Int) (j : Nat),z2q n m l (i : Int) = some (v,(j : Int)) ∧ 0 ≤ v ∧ v < m := by
  rw [z2q]
  by_cases h : (i : Int) ≥ (l.length : Int)
  · rw [if_pos (by simpa using h)]
    exact ⟨0,i,rfl,by omega,by omega⟩
  · rw [if_neg (by simpa using h)]
    have e1 : z0a ((i : Int) + 1) = ((i + 1 : Nat) : Int) := wj (by omega)
    have e2 : z0a (((i + 1 : Nat) : Int) - 1) = (i : Int) := by rw [wi64 (by omega) (by omega)]; omega
    rw [e1,e2,if_pos ⟨by omega,by omega⟩,zoI,if_neg (by simp only [decide_eq_true_eq]; omega),if_pos (by show _ ≠ _; omega),if_pos (by show _ ≠ _; omega)]
    simp only [bs]
    generalize rd 0 l (i : Int) = x
    have h1 : -m < Int.tmod x m := by have := Int.lt_tmod_of_pos x (show 0 < m by omega); omega
    have h2 : Int.tmod x m < m := Int.tmod_lt_of_pos x (by omega)
    rw [wi64 (by omega) (by omega)]
    exact ⟨_,i + 1,rfl,by rw [Int.tmod_eq_emod_of_nonneg (by omega)]; exact Int.emod_nonneg _ (by omega),Int.tmod_lt_of_pos _ (by omega)⟩
theorem zy1 (n : Nat) (ws : List Str) (l : List Int) (i : Nat) (hl : l.length ≤ 1000) (h0 : 1 ≤ ws.length) (h1 : ws.length ≤ 1000) : ∃ (s : Str) (j : Nat),z6r n ws l (i : Int) = some (s,(j : Int)) ∧ s ∈ ws := by
  obtain ⟨v,j,e,v0,v1⟩ := zjf (ws.length : Int) (by omega) (by omega) n l i hl
  obtain ⟨k,rfl⟩ := Int.eq_ofNat_of_zero_le v0
  rw [z6r,e]
  simp only [bs]
  rw [if_pos ⟨by omega,by omega⟩]
  exact ⟨_,j,rfl,zcJ [] ws k (by omega)⟩
theorem zBI (n : Nat) (l : List Int) (i : Nat) (hl : l.length ≤ 1000) (hn : 2000000 ≤ n) : ∃ (s : Str) (j : Nat),z5U n l (i : Int) = some (digF s,(j : Int)) ∧ s.length = 1 := by
  obtain ⟨s,j,e,hs⟩ := zy1 n [[97],[98],[99],[100],[101],[102],[103],[104]] l i hl (by decide) (by decide)
  have h1 : s.length = 1 := by
    simp only [List.mem_cons,List.not_mem_nil,or_false] at hs
    rcases hs with rfl | rfl | rfl | rfl | rfl | rfl | rfl | rfl <;> rfl
  rw [z5U]
  refine ⟨s,j,(congrArg (fun x => x >>= _) e).trans ?_,h1⟩
  simp only [bs]
  rw [zgA n s (by omega) hn]
  simp only [bs]
def zrM (v : z00) : Prop := (∃ s,v = txt s ∧ plain s ∧ s.length ≤ 100) ∨ (∃ b,v = flg b) ∨ (∃ k,v = num k ∧ -5 ≤ k ∧ k ≤ 114)
theorem zyo (n : Nat) (l : List Int) (i : Nat) (hl : l.length ≤ 1000) (hn : 2000000 ≤ n) : ∃ (v : z00) (j : Nat),zbX n l (i : Int) = some (v,(j : Int)) ∧ zrM v := by
  obtain ⟨k,j,e,v0,v1⟩ := zjf 4 (by omega) (by omega) n l i hl
  rw [zbX,e]
  simp only [bs,beq_iff_eq]
  by_cases k0 : k = 0
  · rw [if_pos k0]
    obtain ⟨s,j',e',hs⟩ := zy1 n [[77,105,108,108],[70,111,114,100],[],[66,114,105,100,103,101,32,97,116,32,116,104,101,32,109,105,108,108]] l j hl (by decide) (by decide)
    refine ⟨txt s,j',(congrArg (fun x => x >>= _) e').trans ?_,.inl ⟨s,rfl,?_⟩⟩
    · simp only [bs]; rfl
    · simp only [List.mem_cons,List.not_mem_nil,or_false] at hs
      rcases hs with rfl | rfl | rfl | rfl <;> exact ⟨by unfold plain; decide,by decide⟩
  rw [if_neg k0]
  by_cases k1 : k = 1
  · rw [if_pos k1]
    obtain ⟨b,j',e',_,_⟩ := zjf 2 (by omega) (by omega) n l j hl
    refine ⟨flg (b == 1),j',(congrArg (fun x => x >>= _) e').trans ?_,.inr (.inl ⟨_,rfl⟩)⟩
    simp only [bs]; rfl
  rw [if_neg k1]
  by_cases k2 : k = 2
  · rw [if_pos k2]
    obtain ⟨s,j',e',hs⟩ := zBI n l j hl hn
    refine ⟨txt (digF s),j',(congrArg (fun x => x >>= _) e').trans ?_,.inl ⟨_,rfl,zed s,by rw [zjX]; omega⟩⟩
    simp only [bs]; rfl
  rw [if_neg k2]
  obtain ⟨b,j',e',b0,b1⟩ := zjf 120 (by omega) (by omega) n l j hl
  refine ⟨num (b - 5),j',(congrArg (fun x => x >>= _) e').trans ?_,.inr (.inr ⟨_,rfl,by omega,by omega⟩)⟩
  simp only [bs]
  rw [wi64 (by omega) (by omega),z3b]
  simp only [bs]; rfl
theorem zAM (n : Nat) (l : List Int) (i : Nat) (hl : l.length ≤ 1000) (hn : 2000000 ≤ n) : ∃ (s : Str) (j : Nat),zej n l (i : Int) = some (s,(j : Int)) ∧ s.length = 16 := by
  obtain ⟨k,j,e,v0,v1⟩ := zjf 20 (by omega) (by omega) n l i hl
  rw [zej,e]
  simp only [bs]
  rw [if_pos (by show _ ≤ _; simp [strOf]),zmc n _ (by simp [strOf]) (by simp [strOf]; omega)]
  simp only [bs]
  rw [if_pos ⟨by omega,by rw [znu]; omega⟩]
  exact ⟨_,j,rfl,by rw [List.length_take,znu]; rfl⟩
end Go.Proofs.YtifmnhcmmoacfaaGreatDoorQ
set_option maxRecDepth 100000
set_option maxHeartbeats 2000000
namespace Go.Proofs.YtifmnhcmmoacfaaGreatDoorQ
open Go Go.PE
def N5 : List Str := [[97,103,101],[110,97,109,101],[97,100,117,108,116],[105,100],[114,97,110,107]]
structure zxu (a : z04) : Prop where
  name : a.z0l ∈ N5
  value : zrM a.z0F
  salt : a.znZ.length = 16
structure zfr (l : List z04) : Prop where
  all : ∀ a ∈ l,zxu a
  sub : (l.map z04.z0l).Sublist N5
theorem zfr.nd {l : List z04} (h : zfr l) : (l.map z04.z0l).Nodup := (by decide : N5.Nodup).sublist h.sub
theorem zfr.le {l : List z04} (h : zfr l) : l.length ≤ 5 := by simpa [N5] using h.sub.length_le
theorem zse (l : List Int) (hl : l.length ≤ 1000) : ∀ (k j n i : Nat) (acc : List z04),j + k = 5 → 3000000 + k + 1 ≤ n → (∀ a ∈ acc,zxu a) → (acc.map z04.z0l).Sublist (N5.take j) →
    ∃ (r : List z04) (i' : Nat),z1K n (j : Int) l (i : Int) acc = some (l,(i' : Int),r) ∧ zfr r
  | 0,j,n,i,acc,e,hn,ha,hs => by
    obtain ⟨n,rfl⟩ : ∃ m,n = m + 1 := ⟨n - 1,by omega⟩
    refine ⟨acc,i,?_,ha,hs.trans (List.take_sublist j N5)⟩
    rw [z1K.eq_2,if_neg (by simp; omega)]
  | k + 1,j,n,i,acc,e,hn,ha,hs => by
    obtain ⟨n,rfl⟩ : ∃ m,n = m + 1 := ⟨n - 1,by omega⟩
    have hj : j < N5.length := by simp only [N5,List.length_cons,List.length_nil]; omega
    have hla : acc.length ≤ j := by have := hs.length_le; rw [List.length_map,List.length_take] at this; omega
    obtain ⟨v,i1,e1,_,_⟩ := zjf 3 (by omega) (by omega) n l i hl
    rw [z1K.eq_2,if_pos (by simp; omega),if_pos ⟨by omega,by simp; omega⟩,e1]
    simp only [bs]
    rw [wj (by omega)]
    have hup : (N5.take j).Sublist (N5.take (j + 1)) := by rw [List.take_succ_eq_append_getElem hj]; exact List.sublist_append_left _ _
    by_cases hv : (decide (v > 0)) = true
    · rw [if_pos hv]
      obtain ⟨x,i2,e2,hx⟩ := zyo n l i1 hl (by omega)
      obtain ⟨s,i3,e3,hs'⟩ := zAM n l i2 hl (by omega)
      rw [e2]
      simp only [bs]
      rw [e3]
      simp only [bs]
      rw [if_pos (by show _ ≤ _; simp; omega)]
      have hx' : (⟨x.z08,x.z0c,x.z06,x.z0b,x.z07,x.z05⟩ : z00) = x := by cases x; rfl
      rw [hx',← N5,z8q [] N5 j hj]
      refine zse l hl k (j + 1) n i3 _ (by omega) (by omega) (fun a h => ?_) ?_
      · rcases List.mem_append.1 h with h | h
        · exact ha a h
        · simp only [List.mem_cons,List.not_mem_nil,or_false] at h
          subst h
          exact ⟨List.getElem_mem hj,hx,hs'⟩
      · rw [List.map_append,List.take_succ_eq_append_getElem hj]
        exact hs.append (List.Sublist.refl _)
    · rw [if_neg hv]
      exact zse l hl k (j + 1) n i1 acc (by omega) (by omega) ha (hs.trans hup)
theorem zyt (n : Nat) (l : List Int) (i : Nat) (hl : l.length ≤ 1000) (hn : 4000000 ≤ n) : ∃ (r : List z04) (i' : Nat),z5J n l (i : Int) = some (r,l,(i' : Int)) ∧ zfr r := by
  obtain ⟨r,i',e,h⟩ := zse l hl 5 0 n i [] rfl (by omega) (fun a h => by cases h) (List.nil_sublist _)
  rw [Int.natCast_zero] at e
  refine ⟨r,i',?_,h⟩
  rw [z5J,e]
  simp only [bs]
def z9b (a : z04) : z03 := if a.z0F.z08 = 2 then ⟨a.z0l,2,false,-1000,1000⟩ else if a.z0F.z08 = 1 then ⟨a.z0l,4,false,0,0⟩ else ⟨a.z0l,1,false,0,100⟩
theorem zlf (a : z04) : (z9b a).z0l = a.z0l := by
  unfold z9b
  split
  · rfl
  · split <;> rfl
theorem zyH : ∀ s ∈ N5,s ∈ NAMES := by decide
theorem zyk {a : z04} (h : zxu a) (b : Bool) : z9B { z9b a with z0p := b } := by
  refine ⟨by show (z9b a).z0l ∈ NAMES; rw [zlf]; exact zyH _ h.name,?_⟩
  unfold z9b
  split
  · exact .inr (.inl ⟨rfl,by simp,by simp,by simp⟩)
  · split
    · exact .inr (.inr (.inr ⟨rfl,rfl,rfl⟩))
    · exact .inl ⟨rfl,by simp,by simp,by simp⟩
def zuv (as : List z04) (fs : List z03) : Prop := fs.length = as.length ∧ ∀ (i : Nat) (a : z04),as[i]? = some a → ∃ b,fs[i]? = some { z9b a with z0p := b }
theorem zuv.names {as : List z04} {fs : List z03} (h : zuv as fs) : fs.map z03.z0l = as.map z04.z0l := by
  refine List.ext_getElem? fun i => ?_
  rw [List.getElem?_map,List.getElem?_map]
  cases e : as[i]? with
  | none =>
    have : fs[i]? = none := by rw [List.getElem?_eq_none_iff] at e ⊢; rw [h.1]; exact e
    rw [this]; rfl
  | some a =>
    obtain ⟨b,eb⟩ := h.2 i a e
    rw [eb]
    simp only [Option.map_some,Option.some.injEq]
    exact zlf a
theorem zuv.ok {as : List z04} {fs : List z03} (h : zuv as fs) (ha : zfr as) : zan fs := by
  refine ⟨fun f hf => ?_,by rw [h.names]; exact ha.nd,by rw [h.1]; have := ha.le; omega⟩
  obtain ⟨i,hi,rfl⟩ := List.getElem_of_mem hf
  have hi' : i < as.length := by rw [← h.1]; exact hi
  obtain ⟨b,eb⟩ := h.2 i _ (List.getElem?_eq_getElem hi')
  rw [List.getElem?_eq_getElem hi] at eb
  rw [Option.some.inj eb]
  exact zyk (ha.all _ (List.getElem_mem hi')) b
theorem zr3 (as : List z04) : zuv as (as.map z9b) := by
  refine ⟨by simp,fun i a e => ⟨(z9b a).z0p,?_⟩⟩
  rw [List.getElem?_map,e]; rfl
theorem zy4 (as : List z04) (hl : as.length ≤ 1000) : ∀ k j n,j + k = as.length → k + 1 ≤ n → z4h n as (as.length : Int) (j : Int) ((as.take j).map z9b) = some (as.map z9b)
  | 0,j,n,e,hn => by
    obtain ⟨n,rfl⟩ : ∃ m,n = m + 1 := ⟨n - 1,by omega⟩
    rw [z4h.eq_2,if_neg (by simp only [decide_eq_true_eq]; omega),List.take_of_length_le (by omega)]
  | k + 1,j,n,e,hn => by
    obtain ⟨n,rfl⟩ : ∃ m,n = m + 1 := ⟨n - 1,by omega⟩
    have hj : j < as.length := by omega
    have ih := zy4 as hl k (j + 1) n (by omega) (by omega)
    rw [List.take_succ_eq_append_getElem hj,List.map_append,List.map_cons,List.map_nil] at ih
    have fit : ∀ x : List z03,x = (as.take j).map z9b → fits ((x.length + 1) * 48) := fun x e => by subst e; show _ ≤ _; simp only [List.length_map,List.length_take]; omega
    rw [z4h.eq_2,if_pos (by simp only [decide_eq_true_eq]; omega),if_pos ⟨by omega,by omega⟩,z8q _ as j hj,wj (by omega)]
    by_cases e2 : (as[j]).z0F.z08 = 2
    · rw [show z9b as[j] = ⟨(as[j]).z0l,2,false,-1000,1000⟩ from if_pos e2] at ih
      rw [if_pos (by simpa using e2),if_pos (fit _ rfl)]
      exact ih
    rw [if_neg (by simpa using e2)]
    by_cases e1 : (as[j]).z0F.z08 = 1
    · rw [show z9b as[j] = ⟨(as[j]).z0l,4,false,0,0⟩ from (if_neg e2).trans (if_pos e1)] at ih
      rw [if_pos (by simpa using e1),if_pos (fit _ rfl)]
      exact ih
    rw [show z9b as[j] = ⟨(as[j]).z0l,1,false,0,100⟩ from (if_neg e2).trans (if_neg e1)] at ih
    rw [if_neg (by simpa using e1),if_pos (fit _ rfl)]
    exact ih
def WIDE : Str := [119,105,100,101]
theorem zzQ (n : Nat) (as : List z04) (ha : zfr as) (hn : 60000000 ≤ n) : zcq n as = some (z8y WIDE (as.map z9b)) := by
  have hl := ha.le
  have e1 := zy4 as (by omega) as.length 0 n (by omega) (by omega)
  have e2 := zyL n WIDE (zsv _ (by simp [WIDE])) (as.map z9b) ((zr3 as).ok ha) hn
  rw [zcq]
  refine (congrArg (fun x => x >>= _) e1).trans ?_
  simp only [bs]
  refine (congrArg (fun x => x >>= _) e2).trans ?_
  simp only [bs]
theorem zw3 (as : List z04) (p0 : Int) (l : List Int) (hl : l.length ≤ 1000) (x y : Str) (hla : as.length ≤ 5) : ∀ (k j n i : Nat) (fs : List z03),j + k = as.length → k + 1 ≤ n → zuv as fs →
    ∃ fs',z1F n p0 as (as.length : Int) (j : Int) l (i : Int) x y fs = some (p0,as,x,y,fs') ∧ zuv as fs'
  | 0,j,n,i,fs,e,hn,hm => by
    obtain ⟨n,rfl⟩ : ∃ m,n = m + 1 := ⟨n - 1,by omega⟩
    exact ⟨fs,by rw [z1F.eq_2,if_neg (by simp only [decide_eq_true_eq]; omega)],hm⟩
  | k + 1,j,n,i,fs,e,hn,hm => by
    obtain ⟨n,rfl⟩ : ∃ m,n = m + 1 := ⟨n - 1,by omega⟩
    have hj : j < fs.length := by rw [hm.1]; omega
    obtain ⟨v,i1,e1,_,_⟩ := zjf 2 (by omega) (by omega) n l i hl
    rw [z1F.eq_2,if_pos (by simp only [decide_eq_true_eq]; omega),e1]
    simp only [bs]
    rw [if_pos ⟨by omega,by omega⟩,if_pos ⟨by omega,by omega⟩,wj (by omega)]
    refine zw3 as p0 l hl x y hla k (j + 1) n i1 _ (by omega) (by omega) ⟨by simpa using hm.1,fun q a ea => ?_⟩
    rw [Int.toNat_natCast]
    by_cases h : q = j
    · subst h
      obtain ⟨b,eb⟩ := hm.2 q a ea
      rw [List.getElem?_eq_getElem hj] at eb
      refine ⟨v == 0,?_⟩
      rw [List.getElem?_set_self hj,z8q _ fs q hj,Option.some.inj eb]
    · obtain ⟨b,eb⟩ := hm.2 q a ea
      exact ⟨b,by rw [List.getElem?_set_ne (fun h' => h h'.symm)]; exact eb⟩
theorem zzi (n : Nat) (a : z04) (h : zrM a.z0F) (b : Bool) (hn : 20000000 ≤ n) : z7O n { z9b a with z0p := b } a.z0F = some true := by
  obtain ⟨nm,v,st⟩ := a
  simp only at h ⊢
  rw [z7O]
  rcases h with ⟨s,rfl,hs,hl⟩ | ⟨c,rfl⟩ | ⟨k,rfl,h0,h1⟩
  · rw [zk5 n _ (zca 7 s hs.asc (by omega)) (by omega)]
    rw [show ({ z9b ⟨nm,txt s,st⟩ with z0p := b } : z03) = ⟨nm,1,b,0,100⟩ from rfl]
    simp only [bs]
    rw [if_neg (by decide),if_pos (by decide),if_pos (show ((txt s).z08 == 3) = true from rfl),z6o]
    simp only [bs]
    refine congrArg some ((Bool.and_eq_true _ _).mpr ⟨decide_eq_true ?_,decide_eq_true ?_⟩)
    · show (s.length : Int) ≥ 0; omega
    · show (s.length : Int) ≤ 100; omega
  · rw [zk5 n _ (zz2 7 c) (by omega)]
    rw [show ({ z9b ⟨nm,flg c,st⟩ with z0p := b } : z03) = ⟨nm,4,b,0,0⟩ from rfl]
    simp only [bs,flg]
    rw [if_neg (by decide),if_neg (by decide),if_neg (by decide),if_neg (by decide),if_pos (by decide)]
    rfl
  · rw [zk5 n _ (zvG 7 k (by omega) (by omega)) (by omega)]
    rw [show ({ z9b ⟨nm,num k,st⟩ with z0p := b } : z03) = ⟨nm,2,b,-1000,1000⟩ from rfl]
    simp only [bs]
    rw [if_neg (by decide),if_neg (by decide),if_pos (by decide),if_pos (show ((num k).z08 == 2) = true from rfl),z6o]
    simp only [bs]
    refine congrArg some ((Bool.and_eq_true _ _).mpr ⟨decide_eq_true ?_,decide_eq_true ?_⟩)
    · show k ≥ -1000; omega
    · show k ≤ 1000; omega
theorem zta {κ α : Type} [BEq κ] [LawfulBEq κ] (s : κ) : ∀ m : List (κ × α),(∀ p ∈ m,s ≠ p.1) → alk (fun y => s == y) m = none
  | [],_ => rfl
  | (a,b) :: r,h => by
    have e : (s == a) = false := beq_false_of_ne (h (a,b) (by simp))
    simp only [alk,e,cond_false]
    exact zta s r fun p hp => h p (by simp [hp])
theorem zvX {κ α : Type} [BEq κ] [LawfulBEq κ] (s : κ) (v : α) : ∀ m : List (κ × α),(∀ p ∈ m,s ≠ p.1) → ast (fun y => s == y) s v m = m ++ [(s,v)]
  | [],_ => rfl
  | (a,b) :: r,h => by
    have e : (s == a) = false := beq_false_of_ne (h (a,b) (by simp))
    simp only [ast,e,cond_false]
    rw [zvX s v r fun p hp => h p (by simp [hp])]; rfl
structure zsZ (fs : List z03) (l : List z04) : Prop where
  nd : (l.map z04.z0l).Nodup
  le : l.length ≤ 1000
  all : ∀ a ∈ l,∃ (i : Nat) (b : Bool),fs[i]? = some { z9b a with z0p := b } ∧ zrM a.z0F
theorem zxG {l : List z04} (hd : (l.map z04.z0l).Nodup) {i j : Nat} (hi : i < l.length) (hj : j < l.length) (h : i ≠ j) : (l[i]).z0l ≠ (l[j]).z0l := fun e => by
  have hi' : i < (l.map z04.z0l).length := by simpa using hi
  have hj' : j < (l.map z04.z0l).length := by simpa using hj
  exact h ((List.getElem_inj (h₀ := hi') (h₁ := hj') hd).1 (by simpa using e))
theorem zx2 (fs : List z03) (hf : zan fs) (l : List z04) (h : zsZ fs l) : ∀ (k j n : Nat) (m : List (Int × Bool)),j + k = l.length → 20000000 + k + 1 ≤ n → (∀ p ∈ m,∃ (q i : Nat) (hq : q < l.length) (f : z03),q < j ∧ p.1 = (i : Int) ∧ fs[i]? = some f ∧ f.z0l = (l[q]).z0l) →
    z4k n l (l.length : Int) (j : Int) (idxG 0 fs) m = some (.inr ())
  | 0,j,n,m,e,hn,hm => by
    obtain ⟨n,rfl⟩ : ∃ m,n = m + 1 := ⟨n - 1,by omega⟩
    rw [z4k.eq_2,if_neg (by simp only [decide_eq_true_eq]; omega)]
  | k + 1,j,n,m,e,hn,hm => by
    obtain ⟨n,rfl⟩ : ∃ m,n = m + 1 := ⟨n - 1,by omega⟩
    have hj : j < l.length := by omega
    have hle := h.le
    obtain ⟨i,b,hi,hv⟩ := h.all _ (List.getElem_mem hj)
    have hget := zw6 fs 0 i _ hi hf.nd
    have hnm : ({ z9b l[j] with z0p := b } : z03).z0l = (l[j]).z0l := zlf _
    rw [hnm,Nat.zero_add] at hget
    have hno : ∀ p ∈ m,((i : Nat) : Int) ≠ p.1 := fun p hp e' => by
      obtain ⟨q,i',hq,f,hqj,e1,e2,e3⟩ := hm p hp
      obtain rfl : i = i' := by omega
      rw [hi] at e2
      rw [← Option.some.inj e2,hnm] at e3
      exact zxG h.nd hj hq (by omega) e3
    rw [z4k.eq_2,if_pos (by simp only [decide_eq_true_eq]; omega),if_pos ⟨by omega,by omega⟩,z8q _ l j hj,hget]
    simp only [Option.isSome_some,Bool.not_true,Option.getD_some]
    rw [if_neg (by decide),zta _ _ hno,if_neg (by decide)]
    have hx' : ∀ x : z00,(⟨x.z08,x.z0c,x.z06,x.z0b,x.z07,x.z05⟩ : z00) = x := fun x => by cases x; rfl
    rw [hx']
    have hfit := zzi n (l[j]) hv b (by omega)
    rw [show (⟨(l[j]).z0l,(z9b l[j]).z08,b,(z9b l[j]).z0G,(z9b l[j]).z15⟩ : z03) = { z9b l[j] with z0p := b } by rw [← hnm]]
    rw [hfit]
    simp only [bs]
    rw [if_neg (by decide),wj (by omega),zvX _ _ _ hno]
    refine zx2 fs hf l h k (j + 1) n _ (by omega) (by omega) fun p hp => ?_
    rcases List.mem_append.1 hp with hp | hp
    · obtain ⟨q,i',hq,f,hqj,r⟩ := hm p hp
      exact ⟨q,i',hq,f,by omega,r⟩
    · simp only [List.mem_cons,List.not_mem_nil,or_false] at hp
      subst hp
      exact ⟨j,i,hj,_,by omega,rfl,hi,hnm⟩
theorem zxT (n : Nat) (t : Str) (ht : Title t) (fs : List z03) (hf : zan fs) (l : List z04) (h : zsZ fs l) (hn : 60000000 ≤ n) : z8M n (z8y t fs) l = some (0,0) := by
  have hle := h.le
  have hfl := hf.le
  have e := zx2 fs hf l h l.length 0 n [] (by omega) (by omega) (fun p hp => by cases hp)
  rw [z8M,ztW n t ht fs hf hn]
  simp only [bs]
  rw [if_neg (by decide),show (z8y t fs).z0C = fs from rfl,zmx n fs (by omega) hf.nd (by omega)]
  simp only [bs]
  refine (congrArg (fun x => x >>= _) e).trans ?_
  simp only [bs]
theorem zpk (l : List z04) (hl : l.length ≤ 1000) (s : Str) (a2 : Int) (a3 : Bool) (a4 a5 : Int) : ∀ k j n,j + k = l.length → k + 1 ≤ n → z0i n l (l.length : Int) (j : Int) s a2 a3 a4 a5 = if (l.drop j).any (fun a => a.z0l == s) then z0i n l (l.length : Int) (j : Int) s a2 a3 a4 a5 else some (.inr (s,a2,a3,a4,a5))
  | 0,j,n,e,hn => by
    obtain ⟨n,rfl⟩ : ∃ m,n = m + 1 := ⟨n - 1,by omega⟩
    rw [List.drop_of_length_le (by omega),z0i.eq_2,if_neg (by simp only [decide_eq_true_eq]; omega)]; rfl
  | k + 1,j,n,e,hn => by
    obtain ⟨n,rfl⟩ : ∃ m,n = m + 1 := ⟨n - 1,by omega⟩
    have hj : j < l.length := by omega
    split
    · rfl
    · rename_i h
      rw [List.drop_eq_getElem_cons hj,List.any_cons,Bool.or_eq_true,not_or] at h
      have ih := zpk l hl s a2 a3 a4 a5 k (j + 1) n (by omega) (by omega)
      rw [if_neg h.2] at ih
      rw [z0i.eq_2,if_pos (by simp only [decide_eq_true_eq]; omega),if_pos ⟨by omega,by omega⟩,z8q _ l j hj,z6W]
      simp only [bs]
      rw [if_neg h.1,wj (by omega),ih]
theorem zwa (l : List z04) (hl : l.length ≤ 1000) (s : Str) (a2 : Int) (a3 : Bool) (a4 a5 : Int) : ∀ k j n,j + k = l.length → k + 1 ≤ n → (l.drop j).any (fun a => a.z0l == s) = true → ∃ i : Nat,z0i n l (l.length : Int) (j : Int) s a2 a3 a4 a5 = some (.inl ((i : Int),s,a2,a3,a4,a5))
  | 0,j,n,e,hn,h => by rw [List.drop_of_length_le (by omega)] at h; cases h
  | k + 1,j,n,e,hn,h => by
    obtain ⟨n,rfl⟩ : ∃ m,n = m + 1 := ⟨n - 1,by omega⟩
    have hj : j < l.length := by omega
    rw [List.drop_eq_getElem_cons hj,List.any_cons,Bool.or_eq_true] at h
    rw [z0i.eq_2,if_pos (by simp only [decide_eq_true_eq]; omega),if_pos ⟨by omega,by omega⟩,z8q _ l j hj,z6W]
    simp only [bs]
    by_cases h1 : ((l[j]).z0l == s) = true
    · rw [if_pos h1]; exact ⟨j,rfl⟩
    · rw [if_neg h1,wj (by omega)]
      exact zwa l hl s a2 a3 a4 a5 k (j + 1) n (by omega) (by omega) (h.resolve_left h1)
theorem zvz (n : Nat) (l : List z04) (hl : l.length ≤ 1000) (s : Str) (a2 : Int) (a3 : Bool) (a4 a5 : Int) (hn : 2000 ≤ n) : z0v n l s a2 a3 a4 a5 = some (l.any (fun a => a.z0l == s),s,a2,a3,a4,a5) := by
  rw [z0v,z0H]
  cases h : l.any (fun a => a.z0l == s) with
  | true =>
    obtain ⟨i,e⟩ := zwa l hl s a2 a3 a4 a5 l.length 0 n (by omega) (by omega) h
    refine (congrArg (fun x => (x >>= _) >>= _) e).trans ?_
    simp only [bs]
    rw [show decide ((i : Int) ≥ 0) = true by simp only [decide_eq_true_eq]; omega]
  | false =>
    have e := zpk l hl s a2 a3 a4 a5 l.length 0 n (by omega) (by omega)
    rw [List.drop_zero,h,if_neg (by decide)] at e
    refine (congrArg (fun x => (x >>= _) >>= _) e).trans ?_
    simp only [bs]
    rfl
def zfD (fs : List z03) (l : List z04) : Bool := fs.all fun f => !f.z0p || l.any (fun a => a.z0l == f.z0l)
theorem zvW (fs : List z03) (hf : fs.length ≤ 1000) (l : List z04) (hl : l.length ≤ 1000) : ∀ k j n,j + k = fs.length → 2000 + k + 1 ≤ n → z2R n l fs (fs.length : Int) (j : Int) = some (if zfD (fs.drop j) l then .inr () else .inl (l.length : Int))
  | 0,j,n,e,hn => by
    obtain ⟨n,rfl⟩ : ∃ m,n = m + 1 := ⟨n - 1,by omega⟩
    rw [z2R.eq_2,if_neg (by simp only [decide_eq_true_eq]; omega),List.drop_of_length_le (by omega)]; rfl
  | k + 1,j,n,e,hn => by
    obtain ⟨n,rfl⟩ : ∃ m,n = m + 1 := ⟨n - 1,by omega⟩
    have hj : j < fs.length := by omega
    have ih := zvW fs hf l hl k (j + 1) n (by omega) (by omega)
    have hd : zfD (fs.drop j) l = ((!(fs[j]).z0p || l.any (fun a => a.z0l == (fs[j]).z0l)) && zfD (fs.drop (j + 1)) l) := by
      rw [List.drop_eq_getElem_cons hj]; rfl
    rw [z2R.eq_2,if_pos (by simp only [decide_eq_true_eq]; omega),if_pos ⟨by omega,by omega⟩,z8q _ fs j hj,wj (by omega),ih,hd]
    cases hr : (fs[j]).z0p with
    | false => rw [if_neg (by decide)]; rfl
    | true =>
      rw [if_pos rfl,zvz n l hl _ _ _ _ _ (by omega)]
      simp only [bs]
      cases hc : l.any (fun a => a.z0l == (fs[j]).z0l) with
      | true => rw [if_neg (by decide)]; rfl
      | false => rw [if_pos (by decide)]; rfl
theorem zwb (n : Nat) (t : Str) (ht : Title t) (fs : List z03) (hf : zan fs) (l : List z04) (h : zsZ fs l) (hn : 60000000 ≤ n) : z7C n (z8y t fs) l = some (if zfD fs l then (0,0) else ((l.length : Int),47)) := by
  have hle := h.le
  have hfl := hf.le
  have e := zvW fs (by omega) l hle fs.length 0 n (by omega) (by omega)
  rw [z7C,zxT n t ht fs hf l h hn]
  simp only [bs]
  rw [if_neg (by decide)]
  refine (congrArg (fun x => x >>= _) e).trans ?_
  simp only [bs,List.drop_zero]
  cases zfD fs l <;> rfl
def zg2 (B : Nat → Bool) : Nat → List z04 → List z04
  | _,[] => []
  | j,a :: r => if B j then a :: zg2 B (j + 1) r else zg2 B (j + 1) r
def zuQ (B : Nat → Bool) : Nat → List z03 → Bool
  | _,[] => false
  | j,f :: r => (!B j && f.z0p) || zuQ B (j + 1) r
theorem zkl (B : Nat → Bool) : ∀ j l,(zg2 B j l).Sublist l
  | _,[] => List.Sublist.refl _
  | j,a :: r => by
    rw [zg2]
    split
    · exact (zkl B (j + 1) r).cons_cons a
    · exact (zkl B (j + 1) r).cons a
def bitB (p0 : Int) (j : Nat) : Bool := (iand .u8 (shr .u8 p0 (j : Int)) 1) == 1
theorem zw8 (p0 : Int) (as : List z04) (s : z0k) (hl : as.length ≤ 1000) (hs : s.z0C.length = as.length) : ∀ (k j n : Nat) (m : Bool) (acc : List z04),j + k = as.length → k + 1 ≤ n → acc.length ≤ j →
    z19 n p0 m as (as.length : Int) (j : Int) s acc = some (m || zuQ (bitB p0) j (s.z0C.drop j),s,acc ++ zg2 (bitB p0) j (as.drop j))
  | 0,j,n,m,acc,e,hn,ha => by
    obtain ⟨n,rfl⟩ : ∃ m,n = m + 1 := ⟨n - 1,by omega⟩
    rw [z19.eq_2,if_neg (by simp only [decide_eq_true_eq]; omega),List.drop_of_length_le (by omega),List.drop_of_length_le (by omega)]
    simp [zuQ,zg2]
  | k + 1,j,n,m,acc,e,hn,ha => by
    obtain ⟨n,rfl⟩ : ∃ m,n = m + 1 := ⟨n - 1,by omega⟩
    have hj : j < as.length := by omega
    have hj' : j < s.z0C.length := by omega
    rw [z19.eq_2,if_pos (by simp only [decide_eq_true_eq]; omega),if_pos ⟨by omega,by omega⟩,if_pos (by show _ ≤ _; omega),z8q _ as j hj,wj (by omega),List.drop_eq_getElem_cons hj,List.drop_eq_getElem_cons hj']
    simp only [zuQ,zg2]
    have ih := fun m' acc' (h : acc'.length ≤ j + 1) => zw8 p0 as s hl hs k (j + 1) n m' acc' (by omega) (by omega) h
    by_cases hb : bitB p0 j = true
    · rw [if_pos hb,if_pos (show ((iand .u8 (shr .u8 p0 (j : Int)) 1) == 1) = true from hb),if_pos (by show _ ≤ _; omega),ih _ _ (by simp; omega),hb]
      simp
    · rw [if_neg hb,if_neg (show ¬ ((iand .u8 (shr .u8 p0 (j : Int)) 1) == 1) = true from hb)]
      have hb' : bitB p0 j = false := by simpa using hb
      rw [hb']
      cases m with
      | true => rw [if_pos rfl,ih _ _ (by omega)]; simp
      | false => rw [if_neg (by decide),if_pos ⟨by omega,by omega⟩,z8q _ _ j hj',ih _ _ (by omega)]; simp
theorem zyz (B : Nat → Bool) (s : Str) : ∀ j l,s ∉ l.map z04.z0l → (zg2 B j l).any (fun a => a.z0l == s) = false := fun j l h => by
  rw [List.any_eq_false]
  intro a ha e
  exact h (List.mem_map.2 ⟨a,(zkl B j l).subset ha,eq_of_beq e⟩)
theorem zw7 (B : Nat → Bool) : ∀ (as : List z04) (fs : List z03) (j : Nat),fs.map z03.z0l = as.map z04.z0l → (as.map z04.z0l).Nodup → zfD fs (zg2 B j as) = !zuQ B j fs
  | [],[],_,_,_ => rfl
  | [],f :: r,_,h,_ => by cases h
  | a :: q,[],_,h,_ => by cases h
  | a :: q,f :: r,j,h,hd => by
    simp only [List.map_cons,List.cons.injEq] at h
    simp only [List.map_cons,List.nodup_cons] at hd
    have ih := zw7 B q r (j + 1) h.2 hd.2
    have tail : zfD r (zg2 B j (a :: q)) = zfD r (zg2 B (j + 1) q) := by
      unfold zfD
      rw [Bool.eq_iff_iff,List.all_eq_true,List.all_eq_true]
      have key : ∀ g ∈ r,(zg2 B j (a :: q)).any (fun a => a.z0l == g.z0l) = (zg2 B (j + 1) q).any (fun a => a.z0l == g.z0l) := fun g hg => by
        rw [zg2]
        split
        · have : (a.z0l == g.z0l) = false := beq_false_of_ne fun e => hd.1 (by rw [← h.2,e]; exact List.mem_map_of_mem hg)
          rw [List.any_cons,this,Bool.false_or]
        · rfl
      exact ⟨fun H g hg => by have := H g hg; rwa [key g hg] at this,fun H g hg => by have := H g hg; rwa [key g hg]⟩
    have head : (zg2 B j (a :: q)).any (fun x => x.z0l == f.z0l) = B j := by
      rw [zg2,h.1]
      split
      · rename_i e; simp [e]
      · rename_i e; rw [zyz B a.z0l (j + 1) q hd.1]; simpa using e
    show ((!f.z0p || (zg2 B j (a :: q)).any (fun x => x.z0l == f.z0l)) && zfD r (zg2 B j (a :: q))) = _
    rw [head,tail,ih,zuQ]
    cases f.z0p <;> cases B j <;> simp
theorem zjA {as : List z04} {fs : List z03} (h : zuv as fs) (ha : zfr as) {l : List z04} (hs : l.Sublist as) : zsZ fs l := by
  refine ⟨ha.nd.sublist (hs.map _),by have := hs.length_le; have := ha.le; omega,fun a hm => ?_⟩
  obtain ⟨i,hi,rfl⟩ := List.getElem_of_mem (hs.subset hm)
  obtain ⟨b,eb⟩ := h.2 i _ (List.getElem?_eq_getElem hi)
  exact ⟨i,b,eb,(ha.all _ (List.getElem_mem hi)).value⟩
theorem zyF (n : Nat) : z8F (n + 400) = some true := by kernel_rfl
theorem zvR (n : Nat) (hn : 400 ≤ n) : z8F n = some true := by
  obtain ⟨n,rfl⟩ : ∃ m,n = m + 400 := ⟨n - 400,by omega⟩
  exact zyF n
def zjO : Str := [112,101,114,115,111,110]
theorem parts (a0 : List Int) (a1 : Int) (n : Nat) (hn : 70000000 ≤ n) : z5R n a0 a1 = some true := by
  rw [z5R,zgm]
  simp only [bs]
  by_cases hl : (decide ((a0.length : Int) ≤ 500)) = true
  · rw [hl,if_neg (by decide),zku]
    simp only [bs]
    have hl' : a0.length ≤ 500 := by simp only [decide_eq_true_eq] at hl; omega
    obtain ⟨as,i,e1,ha⟩ := zyt n a0 0 (by omega) (by omega)
    rw [Int.natCast_zero] at e1
    have hle := ha.le
    have e2 := zzQ n as ha (by omega)
    obtain ⟨fs,e3,hm⟩ := zw3 as a1 a0 (by omega) (zry WIDE (as.map z9b)) WIDE hle as.length 0 n i (as.map z9b) (by omega) (by omega) (zr3 as)
    have hf := hm.ok ha
    have ht : Title zjO := zsv _ (by simp [zjO])
    have e4 := zxX n zjO ht fs hf (by omega)
    have e5 := zwb n zjO ht fs hf as (zjA hm ha (List.Sublist.refl _)) (by omega)
    have hall : zfD fs as = true := by
      unfold zfD
      rw [List.all_eq_true]
      intro f hf'
      have : f.z0l ∈ as.map z04.z0l := by rw [← hm.names]; exact List.mem_map_of_mem hf'
      obtain ⟨a,h1,h2⟩ := List.mem_map.1 this
      rw [Bool.or_eq_true]; right
      rw [List.any_eq_true]
      exact ⟨a,h1,by simp [h2]⟩
    rw [hall,if_pos rfl] at e5
    have e6 := zw8 a1 as (z8y zjO fs) (by omega) hm.1 as.length 0 n false [] (by omega) (by omega) (by simp)
    simp only [Int.natCast_zero,List.drop_zero,Bool.false_or,List.nil_append] at e6
    have hfit := zjA hm ha (zkl (bitB a1) 0 as)
    have e7 := zxT n zjO ht fs hf _ hfit (by omega)
    have e8 := zwb n zjO ht fs hf _ hfit (by omega)
    rw [zw7 (bitB a1) as fs 0 hm.names ha.nd] at e8
    refine (congrArg (fun x => x >>= _) e1).trans ?_
    simp only [bs]
    refine (congrArg (fun x => x >>= _) e2).trans ?_
    simp only [bs]
    rw [show (z8y WIDE (as.map z9b)).z0C = as.map z9b from rfl,List.length_map]
    refine (congrArg (fun x => x >>= _) e3).trans ?_
    simp only [bs]
    refine (congrArg (fun x => x >>= _) e4).trans ?_
    simp only [bs]
    refine (congrArg (fun x => x >>= _) e5).trans ?_
    simp only [bs]
    rw [show (z8y zjO fs).z0C = fs from rfl,hm.1,if_neg (by simp)]
    refine (congrArg (fun x => x >>= _) e6).trans ?_
    simp only [bs]
    refine (congrArg (fun x => x >>= _) e7).trans ?_
    simp only [bs]
    refine (congrArg (fun x => x >>= _) e8).trans ?_
    simp only [bs]
    rw [show (z8y zjO fs).z0C = fs from rfl]
    cases zuQ (bitB a1) 0 fs <;> simp [zvR n (by omega)]
  · have hf : decide ((a0.length : Int) ≤ 500) = false := by simpa using hl
    rw [hf,if_pos (by decide),zvR n (by omega)]
    simp only [bs]
end Go.Proofs.YtifmnhcmmoacfaaGreatDoorQ
