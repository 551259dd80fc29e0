/- Maps with a version and a digest. -/
import Derived.Test.YtchpeafokjmmeaaGreatDoorQBa
set_option linter.unusedVariables false
set_option linter.unusedSimpArgs false
set_option maxRecDepth 100000
set_option maxHeartbeats 2000000
namespace Go.Proofs.YtchpeafokjmmeaaGreatDoorQ
open Go Go.PE
def mapN (ns : List Str) (is : List z00) : z00 := ⟨5,false,0,[],ns,is⟩
def txt (s : Str) : z00 := ⟨3,false,0,s,[],[]⟩
theorem zDW {d : Nat} {ns : List Str} {is : List z00} (hl : ns.length = is.length) (hb : ns.length ≤ 1000000) (h : ∀ y ∈ is,sm d y) : sm (d + 1) (mapN ns is) := ⟨hb,by simp only [mapN]; omega,h⟩
theorem zuB {d : Nat} {ns : List Str} {is : List z00} (h : wf (d + 1) (mapN ns is)) : (∀ y ∈ is,sm d y) ∧ ns.length = is.length ∧ ns.length ≤ 256 ∧ ns.Nodup := by
  have h : Wf1 (wf d) (mapN ns is) := h
  exact ⟨fun y hy => zmH d y (h.all y hy),h.ni rfl,h.nl,h.nd⟩
def nV : Str := [118]
def nD : Str := [100]
def dummy : Str := List.replicate 44 35
def mapY (ns : List Str) (is : List z00) (v t : Str) : z00 := mapN (nV :: nD :: ns) (txt v :: txt t :: is)
def mapX (ns : List Str) (is : List z00) (t : Str) : z00 := mapN (nD :: ns) (txt t :: is)
structure Rest (ns : List Str) (is : List z00) : Prop where
  len : ns.length = is.length
  le : ns.length ≤ 200
  nd : (nV :: nD :: ns).Nodup
  nm : ∀ s ∈ ns,asc s ∧ s.length ≤ 65536
  all : ∀ y ∈ is,wf 7 y
  size : (z3p (encF 7) true false ns is).length ≤ 60000
theorem zDK : asc nV := by unfold asc; decide
theorem zAh : asc nD := by unfold asc; decide
theorem zfz (d : Nat) (s : Str) (h : asc s) (hl : s.length ≤ 65536) : wf (d + 1) (txt s) :=
  ({ k0 := by simp [txt],k5 := by simp [txt],b := fun _ => rfl,nu := fun _ => rfl,t := fun h => absurd rfl h,i := fun _ => rfl,na := fun _ => rfl,ta := h,tl := hl,il := by simp [txt],ni := fun h => by simp [txt] at h,nd := by simp [txt],ns := fun s hs => by simp [txt] at hs,n0 := by simp [txt],n1 := by simp [txt],all := fun y hy => by simp [txt] at hy } : Wf1 (wf d) (txt s))
theorem zka {d : Nat} {ns : List Str} {is : List z00} (hl : ns.length = is.length) (hb : ns.length ≤ 256) (hd : ns.Nodup) (hs : ∀ s ∈ ns,asc s ∧ s.length ≤ 65536) (h : ∀ y ∈ is,wf d y) : wf (d + 1) (mapN ns is) :=
  ({ k0 := by simp [mapN],k5 := by simp [mapN],b := fun _ => rfl,nu := fun _ => rfl,t := fun h => rfl,i := fun h => by simp [mapN] at h,na := fun h => by simp [mapN] at h,ta := fun b hb => by simp [mapN] at hb,tl := by simp [mapN],il := by simp only [mapN]; omega,ni := fun _ => hl,nd := hd,ns := hs,n0 := by simp [mapN],n1 := by simp [mapN],all := h } : Wf1 (wf d) (mapN ns is))
theorem Rest.wfY {ns : List Str} {is : List z00} (h : Rest ns is) {v t : Str} (hv : asc v) (hv' : v.length ≤ 65536) (ht : asc t) (ht' : t.length ≤ 65536) : wf 8 (mapY ns is v t) := by
  have h1 := h.len; have h2 := h.le
  refine zka (by simp [h1]) (by simp; omega) h.nd (fun s hs => ?_) (fun y hy => ?_)
  · simp only [List.mem_cons] at hs
    rcases hs with rfl | rfl | hs
    · exact ⟨zDK,by decide⟩
    · exact ⟨zAh,by decide⟩
    · exact h.nm s hs
  · simp only [List.mem_cons] at hy
    rcases hy with rfl | rfl | hy
    · exact zfz 6 v hv hv'
    · exact zfz 6 t ht ht'
    · exact h.all y hy
theorem Rest.wfX {ns : List Str} {is : List z00} (h : Rest ns is) {t : Str} (ht : asc t) (ht' : t.length ≤ 65536) : wf 8 (mapX ns is t) := by
  have h1 := h.len; have h2 := h.le
  refine zka (by simp [h1]) (by simp; omega) (List.nodup_cons.1 h.nd).2 (fun s hs => ?_) (fun y hy => ?_)
  · simp only [List.mem_cons] at hs
    rcases hs with rfl | hs
    · exact ⟨zAh,by decide⟩
    · exact h.nm s hs
  · simp only [List.mem_cons] at hy
    rcases hy with rfl | hy
    · exact zfz 6 t ht ht'
    · exact h.all y hy
theorem zsX (d : Nat) (ns : List Str) (is : List z00) : encF (d + 1) (mapN ns is) = 123 :: (z3p (encF d) true true ns is ++ [125]) := by
  simp only [encF,mapN]
  rw [if_neg (by decide),if_neg (by decide),if_neg (by decide),if_neg (by decide),if_pos trivial]
theorem ziP (d : Nat) (s : Str) : encF (d + 1) (txt s) = z4k s := by
  rw [encF,if_neg (by simp [txt]),if_neg (by simp [txt]),if_neg (by simp [txt]),if_pos (show (txt s).z0i = 3 from rfl)]
  rfl
theorem zul (ns : List Str) (is : List z00) {v t : Str} (hv : plain v) (ht : plain t) : (encF 8 (mapY ns is v t)).length = 15 + v.length + t.length + (z3p (encF 7) true false ns is).length := by
  have e : encF 8 (mapY ns is v t) = 123 :: (z3p (encF 7) true true (nV :: nD :: ns) (txt v :: txt t :: is) ++ [125]) := zsX 7 _ _
  have ev : encF 7 (txt v) = z4k v := ziP 6 v
  have et : encF 7 (txt t) = z4k t := ziP 6 t
  rw [e]
  simp only [z3p,List.headD_cons,List.tail_cons,ev,et,if_true,Bool.false_eq_true,if_false,List.nil_append,List.length_cons,List.length_append,List.length_nil,hv.zfv,ht.zfv]
  rw [show (z4k nV).length = 3 from rfl,show (z4k nD).length = 3 from rfl]
  omega
theorem znf {p : Str} (hp : plain p) (u : Nat) : plain (verF p u) := by
  have h6 : plain (strOf (hex6 u)) := by
    have hd : ∀ n,zkZ (rd8 (hd n)) = true := fun n => by
      have : ∀ k : Fin 16,zkZ (rd8 (bt DG ((k.val : Nat) : Int))) = true := by decide +kernel
      exact this ⟨n % 16,Nat.mod_lt _ (by omega)⟩
    intro x hx
    simp only [strOf,hex6,List.map_cons,List.map_nil,List.mem_cons,List.not_mem_nil,or_false] at hx
    rcases hx with rfl | rfl | rfl | rfl | rfl | rfl <;> exact hd _
  exact ((((hp.append (by unfold plain; decide)).append (by unfold plain; decide)).append (by unfold plain; decide)).append h6).append (by unfold plain; decide)
theorem zuu {p : Str} (hp : p.length = 4) (u : Nat) : (verF p u).length = 17 := by
  simp only [verF,List.length_append,z1j,hp]; rfl
theorem zcS : plain dummy := by unfold plain; decide
def zby (ns : List Str) (is : List z00) : Nat := 76 + (z3p (encF 7) true false ns is).length
def zvS (p : Str) (ns : List Str) (is : List z00) : Str := digF (strOf (encF 8 (mapY ns is (verF p (zby ns is)) dummy)))
def outF (p : Str) (ns : List Str) (is : List z00) : z00 := mapY ns is (verF p (zby ns is)) (zvS p ns is)
def textF (p : Str) (ns : List Str) (is : List z00) : Str := strOf (encF 8 (outF p ns is))
theorem zyv (n : Nat) : zcU n = some dummy := by kernel_rfl
end Go.Proofs.YtchpeafokjmmeaaGreatDoorQ
set_option maxRecDepth 100000
set_option maxHeartbeats 2000000
namespace Go.Proofs.YtchpeafokjmmeaaGreatDoorQ
open Go Go.PE
theorem zyB (ns : List Str) (s : Str) (v : z00) (i : Nat) (hb : ns.length ≤ 1000000) (hi : ns[i]? = some s) (hd : ns.Nodup) (hv : sm 8 v) (a : Int) (b : Bool) (c : Int) (t : Str) : ∀ (k j n : Nat) (is : List z00) (f : Bool),ns.length = is.length → j + k = ns.length → 16000000 + k + 1 ≤ n → (j ≤ i → f = false) → (i < j → f = true) →
    z5G n s f (ns.length : Int) (j : Int) v a b c t ns is = some (s,true,v,a,b,c,t,ns,if j ≤ i then is.set i v else is)
  | 0,j,n,is,f,hl,h,hn,h1,h2 => by
    obtain ⟨n,rfl⟩ : ∃ m,n = m + 1 := ⟨n - 1,by omega⟩
    have hlt := (List.getElem?_eq_some_iff.1 hi).1
    rw [z5G.eq_2,if_neg (by simp only [decide_eq_true_eq]; omega),if_neg (by omega),h2 (by omega)]
  | k + 1,j,n,is,f,hl,h,hn,h1,h2 => by
    obtain ⟨n,rfl⟩ : ∃ m,n = m + 1 := ⟨n - 1,by omega⟩
    obtain ⟨hlt,he⟩ := List.getElem?_eq_some_iff.1 hi
    have hj : j < ns.length := by omega
    have nxt := zyB ns s v i hb hi hd hv a b c t k (j + 1) n
    rw [z5G.eq_2,if_pos (by simp only [decide_eq_true_eq]; omega),if_pos ⟨by omega,by omega⟩,if_pos ⟨by omega,by omega⟩,z9d [] ns j hj,wj (by omega)]
    by_cases e : j = i
    · subst e
      rw [he,if_pos (by simp),zkh 8 n v hv (by omega)]
      simp only [bs]
      rw [if_pos ⟨by omega,by omega⟩,if_pos ⟨by omega,by omega⟩,Int.toNat_natCast,nxt (is.set j v) true (by simpa using hl) (by omega) (by omega) (by omega) (fun _ => rfl),if_neg (by omega),if_pos (Nat.le_refl j)]
    · have hne : ¬ (ns[j] == s) = true := fun e' => e ((List.getElem_inj hd).1 ((eq_of_beq e').trans he.symm))
      rw [if_neg hne,nxt is f hl (by omega) (by omega) (fun h' => h1 (by omega)) (fun h' => h2 (by omega))]
      congr 8
      by_cases e2 : j ≤ i
      · rw [if_pos e2,if_pos (by omega)]
      · rw [if_neg e2,if_neg (by omega)]
theorem zwS (n : Nat) (ns : List Str) (is : List z00) (s : Str) (v : z00) (i : Nat) (hi : ns[i]? = some s) (h : wf 8 (mapN ns is)) (h' : wf 8 (mapN ns (is.set i v))) (hv : sm 8 v) (hn : 30000000 ≤ n) : z7E n (mapN ns is) s v = some (mapN ns (is.set i v),0) := by
  obtain ⟨a,hl,hb,hd⟩ := zuB h
  have hlt := (List.getElem?_eq_some_iff.1 hi).1
  rw [z7E,zd7 n _ h (by omega)]
  simp only [bs]
  rw [if_neg (by simp [mapN]),zkh 8 n _ (zmH 8 _ h) (by omega)]
  simp only [bs]
  simp only [mapN]
  rw [show (0 : Int) = ((0 : Nat) : Int) from rfl,zyB ns s v i (by omega) hi hd hv _ _ _ _ ns.length 0 n is false hl (by omega) (by omega) (fun _ => rfl) (fun h => absurd h (by omega))]
  simp only [bs]
  rw [if_neg (by decide),if_pos (Nat.zero_le i)]
  have := zd7 n _ h' (by omega)
  simp only [mapN] at this
  rw [show ((0 : Nat) : Int) = 0 from rfl,this]
  simp only [bs]
  rw [if_neg (by decide)]
theorem zxj (n : Nat) (x y : z00) (t s : Str) (h : ∀ n,30000000 ≤ n → z7E n x s (txt t) = some (y,0)) (hn : 40000000 ≤ n) : zdt n x [s] t = some (y,0) := by
  obtain ⟨n,rfl⟩ : ∃ m,n = m + 2 := ⟨n - 2,by omega⟩
  have e : z5n (n + 2) t [s] 1 0 x = z5n (n + 1) t [s] 1 1 y := by
    rw [show n + 2 = (n + 1) + 1 by omega,z5n.eq_2,if_pos (by decide),if_pos ⟨by omega,by simp⟩,z0M]
    simp only [bs]
    rw [show rd ([] : Str) [s] 0 = s from rfl]
    refine (congrArg (fun x => x >>= _) (h (n + 1) (by omega))).trans ?_
    simp only [bs]
    rw [if_neg (by decide),zug]
  rw [zdt,show ((([s] : List Str).length : Nat) : Int) = 1 from rfl,e,z5n.eq_2,if_neg (by decide)]
  simp only [bs]
theorem zwp (L : List Str) (I : List z00) (p0 : Int) (v : z0o) (hl : L.length = I.length) (hb : L.length ≤ 256) (hs : ∀ y ∈ I,sm 8 y) : ∀ (k j n : Nat) (aN : List Str) (aI : List z00),j + k = L.length → 16000000 + k + 1 ≤ n → aN.length ≤ 1000 + j → aI.length ≤ 1000 + j → nV ∉ L.drop j →
    z3W n p0 L (L.length : Int) (j : Int) (mapN L I) v aN aI = some (p0,mapN L I,v,aN ++ L.drop j,aI ++ I.drop j)
  | 0,j,n,aN,aI,h,hn,h1,h2,h3 => by
    obtain ⟨n,rfl⟩ : ∃ m,n = m + 1 := ⟨n - 1,by omega⟩
    rw [z3W.eq_2,if_neg (by simp only [decide_eq_true_eq]; omega),List.drop_of_length_le (by omega),List.drop_of_length_le (by omega),List.append_nil,List.append_nil]
  | k + 1,j,n,aN,aI,h,hn,h1,h2,h3 => by
    obtain ⟨n,rfl⟩ : ∃ m,n = m + 1 := ⟨n - 1,by omega⟩
    have hj : j < L.length := by omega
    have hj' : j < I.length := by omega
    have hd : L.drop j = L[j] :: L.drop (j + 1) := List.drop_eq_getElem_cons hj
    have hd' : I.drop j = I[j] :: I.drop (j + 1) := List.drop_eq_getElem_cons hj'
    rw [hd] at h3
    have hne : (!(L[j] == ([118] : Str))) = true := by
      rw [Bool.not_eq_true',beq_eq_false_iff_ne]
      exact fun e => h3 (by rw [e]; simp [nV])
    rw [z3W.eq_2,if_pos (by simp only [decide_eq_true_eq]; omega),if_pos ⟨by omega,by omega⟩,z9d [] L j hj,if_pos hne,if_pos (by show _ ≤ _; simp; omega),if_pos (by simp only [mapN]; exact ⟨by omega,by omega⟩)]
    rw [show (mapN L I).z09 = I from rfl,z9d _ I j hj',zkh 8 n _ (hs _ (List.getElem_mem hj')) (by omega)]
    simp only [bs]
    rw [if_pos (by show _ ≤ _; omega),wj (by omega),zwp L I p0 v hl hb hs k (j + 1) n _ _ (by omega) (by omega) (by simp; omega) (by simp; omega) (fun h => h3 (List.mem_cons_of_mem _ h)),hd,hd',List.append_assoc,List.append_assoc]
    rfl
theorem zxo (n : Nat) (p : Str) (hp : zwR p) (hpl : plain p) (ns : List Str) (is : List z00) (h : Rest ns is) (t : Str) (ht : plain t) (ht' : t.length = 44) (hn : 40000000 ≤ n) :
    (z3J n (mapY ns is (verF p 0) t) >>= fun b20 => if (!b20) then some ((⟨0,false,0,[],[],[]⟩ : z00),[],1) else
      z3Q n 1 (mapY ns is (verF p 0) t) >>= fun b23 => if (b23.2 != 0) then some ((⟨0,false,0,[],[],[]⟩ : z00),[],b23.2) else
      z9j n (⟨p,1,0,1,(b23.1.length : Int)⟩ : z0o) >>= fun b26 => z0M n b26.1 >>= fun b28 =>
      z7E n (mapY ns is (verF p 0) t) nV b28 >>= fun b30 => z3Q n 1 b30.1 >>= fun b32 => some (b30.1,b32.1,(0 : Int))) = some (mapY ns is (verF p (zby ns is)) t,strOf (encF 8 (mapY ns is (verF p (zby ns is)) t)),0) := by
  have h1 := h.len; have h2 := h.le; have hsz := h.size
  have hv0 := znf hpl 0
  have lv0 := zuu hp.len 0
  have hv1 := znf hpl (zby ns is)
  have lv1 := zuu hp.len (zby ns is)
  have l0 := zul ns is hv0 ht
  have l1 := zul ns is hv1 ht
  have w0 := h.wfY hv0.asc (by omega) ht.asc (by omega)
  have w1 := h.wfY hv1.asc (by omega) ht.asc (by omega)
  have e1 := zkp n (zby ns is) p hp (by unfold zby; omega) (by omega)
  rw [zd7 n _ w0 (by omega)]
  simp only [bs]
  rw [if_neg (by decide),znw n _ w0 (by omega) (by rw [l0]; omega)]
  simp only [bs]
  rw [if_neg (by decide),z1j,l0,show ((15 + (verF p 0).length + t.length + (z3p (encF 7) true false ns is).length : Nat) : Int) = ((zby ns is : Nat) : Int) by rw [lv0,ht',zby],e1]
  simp only [bs]
  rw [z0M]
  simp only [bs]
  have hput := zwS n (nV :: nD :: ns) (txt (verF p 0) :: txt t :: is) nV (txt (verF p (zby ns is))) 0 rfl w0 w1 (zmH 8 _ (zfz 7 _ hv1.asc (by omega))) (by omega)
  refine (congrArg (fun x => x >>= _) hput).trans ?_
  simp only [bs]
  rw [show mapN (nV :: nD :: ns) ((txt (verF p 0) :: txt t :: is).set 0 (txt (verF p (zby ns is)))) = mapY ns is (verF p (zby ns is)) t from rfl,znw n _ w1 (by omega) (by rw [l1]; omega)]
  simp only [bs]
theorem zzu (n : Nat) (p : Str) (hp : zwR p) (hpl : plain p) (ns : List Str) (is : List z00) (h : Rest ns is) (t : Str) (ht : plain t) (ht' : t.length = 44) (hn : 40000000 ≤ n) :
    z9Z n (mapX ns is t) p 1 = some (mapY ns is (verF p (zby ns is)) t,strOf (encF 8 (mapY ns is (verF p (zby ns is)) t)),0) := by
  have h1 := h.len; have h2 := h.le
  have wx := h.wfX ht.asc (by omega)
  have sx8 : ∀ y ∈ txt t :: is,sm 8 y := fun y hy => zmH 8 y (zA8 7 y ((show Wf1 (wf 7) (mapX ns is t) from wx).all y hy))
  have e0 := zkp n 0 p hp (by omega) (by omega)
  rw [Int.natCast_zero] at e0
  have loop := zwp (nD :: ns) (txt t :: is) 1 ⟨p,1,0,1,0⟩ (by simp [h1]) (by simp; omega) sx8 (nD :: ns).length 0 n [nV] [txt (verF p 0)] (by omega) (by simp; omega) (by simp) (by simp) (List.nodup_cons.1 h.nd).1
  rw [z9Z,e0]
  simp only [bs]
  rw [if_neg (by simp),zd7 n _ wx (by omega)]
  simp only [bs]
  rw [if_neg (by simp [mapX,mapN]),z0M]
  simp only [bs]
  refine (congrArg (fun x => x >>= _) loop).trans ?_
  simp only [bs]
  exact zxo n p hp hpl ns is h t ht ht' hn
theorem zA6 (n : Nat) (p : Str) (hp : zwR p) (hpl : plain p) (ns : List Str) (is : List z00) (h : Rest ns is) (v t : Str) (hv : plain v) (hv' : v.length = 17) (ht : plain t) (ht' : t.length = 44) (hn : 40000000 ≤ n) :
    z9Z n (mapY ns is v t) p 1 = some (mapY ns is (verF p (zby ns is)) t,strOf (encF 8 (mapY ns is (verF p (zby ns is)) t)),0) := by
  have h1 := h.len; have h2 := h.le
  have wy := h.wfY hv.asc (by omega) ht.asc (by omega)
  have sx8 : ∀ y ∈ txt v :: txt t :: is,sm 8 y := fun y hy => zmH 8 y (zA8 7 y ((show Wf1 (wf 7) (mapY ns is v t) from wy).all y hy))
  have e0 := zkp n 0 p hp (by omega) (by omega)
  rw [Int.natCast_zero] at e0
  have loop := zwp (nV :: nD :: ns) (txt v :: txt t :: is) 1 ⟨p,1,0,1,0⟩ (by simp [h1]) (by simp; omega) sx8 (ns.length + 1) 1 (n - 1) [nV] [txt (verF p 0)] (by simp; omega) (by omega) (by simp) (by simp) (List.nodup_cons.1 h.nd).1
  have loop' : z3W n 1 (nV :: nD :: ns) ((nV :: nD :: ns).length : Int) 0 (mapY ns is v t) ⟨p,1,0,1,0⟩ [nV] [txt (verF p 0)] = some (1,mapY ns is v t,⟨p,1,0,1,0⟩,[nV] ++ nD :: ns,[txt (verF p 0)] ++ txt t :: is) := by
    obtain ⟨n,rfl⟩ : ∃ m,n = m + 1 := ⟨n - 1,by omega⟩
    rw [z3W.eq_2,if_pos (by simp only [decide_eq_true_eq,List.length_cons]; omega),if_pos ⟨by omega,by simp; omega⟩,if_neg (by rw [show rd ([] : Str) (nV :: nD :: ns) 0 = nV from rfl]; simp [nV]),zug]
    exact loop
  rw [z9Z,e0]
  simp only [bs]
  rw [if_neg (by simp),zd7 n _ wy (by omega)]
  simp only [bs]
  rw [if_neg (by simp [mapY,mapN]),z0M]
  simp only [bs]
  refine (congrArg (fun x => x >>= _) loop').trans ?_
  simp only [bs]
  exact zxo n p hp hpl ns is h t ht ht' hn
theorem zwY (n : Nat) (p : Str) (hp : zwR p) (hpl : plain p) (ns : List Str) (is : List z00) (h : Rest ns is) (t0 : Str) (h0 : asc t0) (h0' : t0.length ≤ 65536) (hn : 50000000 ≤ n) :
    zfJ n (mapX ns is t0) [nD] p 1 = some (outF p ns is,textF p ns is,0) := by
  obtain ⟨n,rfl⟩ : ∃ m,n = m + 10 := ⟨n - 10,by omega⟩
  have h1 := h.len; have h2 := h.le; have hsz := h.size
  have hv1 := znf hpl (zby ns is)
  have lv1 := zuu hp.len (zby ns is)
  have hdg := ziS (strOf (encF 8 (mapY ns is (verF p (zby ns is)) dummy)))
  have ldg := zg0 (strOf (encF 8 (mapY ns is (verF p (zby ns is)) dummy)))
  rw [← zvS] at hdg ldg
  have l1 := zul ns is hv1 zcS
  have wx := h.wfX h0 h0'
  have wx1 := h.wfX zcS.asc (by simp [dummy])
  have w1 := h.wfY hv1.asc (by omega) zcS.asc (by simp [dummy])
  have w2 := h.wfY hv1.asc (by omega) hdg.asc (by omega)
  have hset0 : ∀ n,30000000 ≤ n → z7E n (mapX ns is t0) nD (txt dummy) = some (mapX ns is dummy,0) := fun n hn =>
    zwS n (nD :: ns) (txt t0 :: is) nD (txt dummy) 0 rfl wx wx1 (zmH 8 _ (zfz 7 _ zcS.asc (by simp [dummy]))) hn
  have hset1 : ∀ n,30000000 ≤ n → z7E n (mapY ns is (verF p (zby ns is)) dummy) nD (txt (zvS p ns is)) = some (outF p ns is,0) := fun n hn =>
    zwS n (nV :: nD :: ns) (txt (verF p (zby ns is)) :: txt dummy :: is) nD (txt (zvS p ns is)) 1 rfl w1 w2 (zmH 8 _ (zfz 7 _ hdg.asc (by omega))) hn
  have lab : z6x (n + 10) [nD] p 1 [nD] 1 0 (mapX ns is t0) = some (.inr ([nD],p,1,mapX ns is t0)) := by
    rw [z6x.eq_2,if_pos (by decide),if_pos ⟨by omega,by simp⟩,if_neg (by decide),zug,z6x.eq_2,if_neg (by decide)]
  rw [zfJ,show ((([nD] : List Str).length : Nat) : Int) = 1 from rfl,lab]
  simp only [bs]
  have hc := hp.c n 0
  rw [if_neg (by decide),z99,if_neg (by simp [hp.len]),hc]
  simp only [bs]
  rw [if_neg (by simp),zyv]
  simp only [bs]
  rw [zxj _ _ _ _ _ hset0 (by omega)]
  simp only [bs]
  rw [if_neg (by decide),zzu _ p hp hpl ns is h dummy zcS rfl (by omega)]
  simp only [bs]
  rw [if_neg (by decide),zd0 _ _ (by rw [z1j,l1]; simp [dummy]; omega) (by omega)]
  simp only [bs]
  rw [← zvS,zxj _ _ _ _ _ hset1 (by omega)]
  simp only [bs]
  rw [outF,zA6 _ p hp hpl ns is h _ _ hv1 lv1 hdg ldg (by omega)]
  simp only [bs,outF,textF]
theorem zzf (L : List Str) (I : List z00) (s : Str) (i : Nat) (v : z00) (hl : L.length = I.length) (hb : L.length ≤ 256) (hi : L[i]? = some s) (hb' : ∀ j < i,L[j]? ≠ some s) (hv : I[i]? = some v) (h : sm 8 v) : ∀ (k j n : Nat),j + k = i → 16000000 + k + 1 ≤ n → z6u n s L (L.length : Int) (j : Int) (mapN L I) = some (.inl v)
  | 0,j,n,e,hn => by
    obtain ⟨n,rfl⟩ : ∃ m,n = m + 1 := ⟨n - 1,by omega⟩
    obtain rfl : j = i := by omega
    obtain ⟨hj,he⟩ := List.getElem?_eq_some_iff.1 hi
    obtain ⟨hj',he'⟩ := List.getElem?_eq_some_iff.1 hv
    rw [z6u.eq_2,if_pos (by simp only [decide_eq_true_eq]; omega),if_pos ⟨by omega,by omega⟩,z9d [] L j hj,he,if_pos (by simp [mapN]; omega),if_pos (by simp only [mapN]; exact ⟨by omega,by omega⟩),show (mapN L I).z09 = I from rfl,z9d _ I j hj',he',zkh 8 n v h (by omega)]
    simp only [bs]
  | k + 1,j,n,e,hn => by
    obtain ⟨n,rfl⟩ : ∃ m,n = m + 1 := ⟨n - 1,by omega⟩
    have hlt := (List.getElem?_eq_some_iff.1 hi).1
    have hj : j < L.length := by omega
    have hne : (L[j] == s) = false := by
      rw [beq_eq_false_iff_ne]
      exact fun e' => hb' j (by omega) (by rw [List.getElem?_eq_getElem hj,e'])
    rw [z6u.eq_2,if_pos (by simp only [decide_eq_true_eq]; omega),if_pos ⟨by omega,by omega⟩,z9d [] L j hj,hne,if_neg (by simp),wj (by omega)]
    exact zzf L I s i v hl hb hi hb' hv h k (j + 1) n (by omega) (by omega)
theorem zCh (n : Nat) (L : List Str) (I : List z00) (s : Str) (i : Nat) (v : z00) (hl : L.length = I.length) (hb : L.length ≤ 256) (hi : L[i]? = some s) (hb' : ∀ j < i,L[j]? ≠ some s) (hv : I[i]? = some v) (h : sm 8 v) (hn : 20000000 ≤ n) : zff n (mapN L I) s = some (v,true) := by
  have hlt := (List.getElem?_eq_some_iff.1 hi).1
  rw [zff,show (mapN L I).z0d = L from rfl,show (0 : Int) = ((0 : Nat) : Int) from rfl,zzf L I s i v hl hb hi hb' hv h i 0 n (by omega) (by omega)]
  simp only [bs]
end Go.Proofs.YtchpeafokjmmeaaGreatDoorQ
set_option maxRecDepth 100000
set_option maxHeartbeats 2000000
namespace Go.Proofs.YtchpeafokjmmeaaGreatDoorQ
open Go Go.PE
def NAMES : List Str := [[97,103,101],[110,97,109,101],[97,100,117,108,116],[105,100],[114,97,110,107],[115,101,97,116]]
structure Title (s : Str) : Prop where
  a : ∀ n,zcP (n + 100) s = some true
  b : ∀ n,zcI (n + 100) s = some true
  plain : plain s
  len : s.length ≤ 32
theorem zA9 (s : Str) (h : s ∈ ([112,101,114,115,111,110] : Str) :: ([119,105,100,101] : Str) :: NAMES) : Title s := by
  simp only [NAMES,List.mem_cons,List.not_mem_nil,or_false] at h
  rcases h with rfl | rfl | rfl | rfl | rfl | rfl | rfl | rfl <;> exact ⟨fun n => by kernel_rfl,fun n => by kernel_rfl,by unfold plain; decide,by decide⟩
def num (k : Int) : z00 := ⟨2,false,k,[],[],[]⟩
def flg (b : Bool) : z00 := ⟨1,b,0,[],[],[]⟩
def lst (l : List z00) : z00 := ⟨4,false,0,[],[],l⟩
theorem zz1 (d : Nat) (k : Int) (h0 : -9223372036854775808 ≤ k) (h1 : k < 9223372036854775808) : wf (d + 1) (num k) :=
  ({ k0 := by simp [num],k5 := by simp [num],b := fun _ => rfl,nu := fun h => absurd rfl h,t := fun _ => rfl,i := fun _ => rfl,na := fun _ => rfl,ta := fun b hb => by simp [num] at hb,tl := by simp [num],il := by simp [num],ni := fun h => by simp [num] at h,nd := by simp [num],ns := fun s hs => by simp [num] at hs,n0 := h0,n1 := h1,all := fun y hy => by simp [num] at hy } : Wf1 (wf d) (num k))
theorem zCU (d : Nat) (b : Bool) : wf (d + 1) (flg b) :=
  ({ k0 := by simp [flg],k5 := by simp [flg],b := fun h => absurd rfl h,nu := fun h => rfl,t := fun _ => rfl,i := fun _ => rfl,na := fun _ => rfl,ta := fun b hb => by simp [flg] at hb,tl := by simp [flg],il := by simp [flg],ni := fun h => by simp [flg] at h,nd := by simp [flg],ns := fun s hs => by simp [flg] at hs,n0 := by simp [flg],n1 := by simp [flg],all := fun y hy => by simp [flg] at hy } : Wf1 (wf d) (flg b))
theorem zAo {d : Nat} {l : List z00} (hl : l.length ≤ 256) (h : ∀ y ∈ l,wf d y) : wf (d + 1) (lst l) :=
  ({ k0 := by simp [lst],k5 := by simp [lst],b := fun h => rfl,nu := fun h => rfl,t := fun _ => rfl,i := fun h => by simp [lst] at h,na := fun _ => rfl,ta := fun b hb => by simp [lst] at hb,tl := by simp [lst],il := hl,ni := fun h => by simp [lst] at h,nd := by simp [lst],ns := fun s hs => by simp [lst] at hs,n0 := by simp [lst],n1 := by simp [lst],all := h } : Wf1 (wf d) (lst l))
theorem zsE (u : Nat) (h : u < 18446744073709551616) : Lib.nDigits u ≤ 20 := by
  rcases Nat.eq_zero_or_pos u with e | e
  · rw [Lib.nDigits_small (by omega)]; omega
  · have := Lib.numDigits_eq u e h; split at this <;> omega
theorem zzK (x : Int) (h0 : -9223372036854775808 ≤ x) (h1 : x < 9223372036854775808) : (Lib.itoa x).length ≤ 21 := by
  unfold Lib.itoa
  split
  · have := zsE x.natAbs (by omega); rw [List.length_cons,Lib.decDigits_length]; omega
  · have := zsE x.toNat (by omega); rw [Lib.decDigits_length]; omega
theorem zzA (d : Nat) (k : Int) : encF (d + 1) (num k) = bytesOf (Lib.itoa k) := by
  rw [encF,if_neg (by simp [num]),if_neg (by simp [num]),if_pos (show (num k).z0i = 2 from rfl)]; rfl
theorem zzM (d : Nat) (b : Bool) : encF (d + 1) (flg b) = if b then bytesOf ([116,114,117,101] : Str) else bytesOf ([102,97,108,115,101] : Str) := by
  rw [encF,if_neg (by simp [flg]),if_pos (show (flg b).z0i = 1 from rfl)]; rfl
theorem zxi (d : Nat) (l : List z00) : encF (d + 1) (lst l) = 91 :: (z3p (encF d) false true [] l ++ [93]) := by
  rw [encF,if_neg (by simp [lst]),if_neg (by simp [lst]),if_neg (by simp [lst]),if_neg (by simp [lst]),if_neg (by simp [lst])]; rfl
theorem zvy (d : Nat) (b : Bool) : (encF (d + 1) (flg b)).length ≤ 5 := by
  rw [zzM]; cases b <;> decide
theorem zhE (d : Nat) (x : Int) (h0 : -9223372036854775808 ≤ x) (h1 : x < 9223372036854775808) : (encF (d + 1) (num x)).length ≤ 21 := by
  rw [zzA,z5V]; exact zzK x h0 h1
theorem zmx (f : z00 → List Int) (K : Nat) : ∀ (l : List z00) (b : Bool) (ns : List Str),(∀ y ∈ l,(f y).length ≤ K) → (z3p f false b ns l).length ≤ l.length * (K + 1)
  | [],b,ns,h => by simp [z3p]
  | x :: r,b,ns,h => by
    have ih := zmx f K r false ns.tail fun y hy => h y (by simp [hy])
    have hx := h x (by simp)
    have e : (r.length + 1) * (K + 1) = r.length * (K + 1) + (K + 1) := by rw [Nat.add_mul,Nat.one_mul]
    simp only [z3p,List.length_append,List.length_cons,Bool.false_eq_true,if_false,List.length_nil]
    rw [e]
    cases b <;> simp <;> omega
theorem zAr (n d : Nat) (ns : List Str) (is : List z00) (h : wf d (mapN ns is)) (hd : d ≤ 8) (hn : 20000000 ≤ n) : zgc n ns is = some (mapN ns is) := by
  rw [zgc]
  refine (congrArg (fun x => x >>= _) (zDz 8 n _ (zmH 8 _ (zCf hd h)) (by omega))).trans ?_
  simp only [bs]
theorem zwc (n d : Nat) (ns : List Str) (is : List z00) (h : wf d (mapN ns is)) (hd : d ≤ 8) (hn : 20000000 ≤ n) : zbm n ns is = some (mapN ns is) := by
  rw [zbm]
  refine (congrArg (fun x => x >>= _) (zkh 8 n _ (zmH 8 _ (zCf hd h)) (by omega))).trans ?_
  simp only [bs]
theorem zA1 (n d : Nat) (is : List z00) (h : wf d (lst is)) (hd : d ≤ 8) (hn : 20000000 ≤ n) : zcN n is = some (lst is) := by
  rw [zcN]
  refine (congrArg (fun x => x >>= _) (zkh 8 n _ (zmH 8 _ (zCf hd h)) (by omega))).trans ?_
  simp only [bs]
end Go.Proofs.YtchpeafokjmmeaaGreatDoorQ
set_option maxRecDepth 100000
set_option maxHeartbeats 2000000
namespace Go.Proofs.YtchpeafokjmmeaaGreatDoorQ
open Go Go.PE
theorem zgv (m : Int) (hm0 : 1 ≤ m) (hm1 : m ≤ 1000) (n : Nat) (l : List Int) (i : Nat) (hl : l.length ≤ 1000) : ∃ (v : Int) (j : Nat),z2a n m l (i : Int) = some (v,(j : Int)) ∧ 0 ≤ v ∧ v < m := by
  rw [z2a]
  by_cases h : (i : Int) ≥ (l.length : Int)
  · rw [if_pos (by simpa using h)]
    exact ⟨0,i,rfl,by omega,by omega⟩
  · rw [if_neg (by simpa using h)]
    have e1 : z07 ((i : Int) + 1) = ((i + 1 : Nat) : Int) := wj (by omega)
    have e2 : z07 (((i + 1 : Nat) : Int) - 1) = (i : Int) := by rw [wi64 (by omega) (by omega)]; omega
    rw [e1,e2,if_pos ⟨by omega,by omega⟩,zqE,if_neg (by simp only [decide_eq_true_eq]; omega),if_pos (by show _ ≠ _; omega),if_pos (by show _ ≠ _; omega)]
    simp only [bs]
    generalize rd 0 l (i : Int) = x
    have h1 : -m < Int.tmod x m := by have := Int.lt_tmod_of_pos x (show 0 < m by omega); omega
    have h2 : Int.tmod x m < m := Int.tmod_lt_of_pos x (by omega)
    rw [wi64 (by omega) (by omega)]
    exact ⟨_,i + 1,rfl,by rw [Int.tmod_eq_emod_of_nonneg (by omega)]; exact Int.emod_nonneg _ (by omega),Int.tmod_lt_of_pos _ (by omega)⟩
theorem zuf (n : Nat) (ws : List Str) (l : List Int) (i : Nat) (hl : l.length ≤ 1000) (h0 : 1 ≤ ws.length) (h1 : ws.length ≤ 1000) : ∃ (s : Str) (j : Nat),z4r n ws l (i : Int) = some (s,(j : Int)) ∧ s ∈ ws := by
  obtain ⟨v,j,e,v0,v1⟩ := zgv (ws.length : Int) (by omega) (by omega) n l i hl
  obtain ⟨k,rfl⟩ := Int.eq_ofNat_of_zero_le v0
  rw [z4r,e]
  simp only [bs]
  rw [if_pos ⟨by omega,by omega⟩]
  exact ⟨_,j,rfl,zd4 [] ws k (by omega)⟩
theorem zqd (n : Nat) (l : List Int) (i : Nat) (hl : l.length ≤ 1000) (hn : 2000000 ≤ n) : ∃ (s : Str) (j : Nat),z1L n l (i : Int) = some (digF s,(j : Int)) ∧ s.length = 1 := by
  obtain ⟨s,j,e,hs⟩ := zuf n [[97],[98],[99],[100],[101],[102],[103],[104]] l i hl (by decide) (by decide)
  have h1 : s.length = 1 := by
    simp only [List.mem_cons,List.not_mem_nil,or_false] at hs
    rcases hs with rfl | rfl | rfl | rfl | rfl | rfl | rfl | rfl <;> rfl
  rw [z1L]
  refine ⟨s,j,(congrArg (fun x => x >>= _) e).trans ?_,h1⟩
  simp only [bs]
  rw [zd0 n s (by omega) hn]
  simp only [bs]
def zaA (v : z00) : Prop := (∃ s,v = txt s ∧ plain s ∧ s.length ≤ 100) ∨ (∃ b,v = flg b) ∨ (∃ k,v = num k ∧ -5 ≤ k ∧ k ≤ 114)
theorem zzs (n : Nat) (l : List Int) (i : Nat) (hl : l.length ≤ 1000) (hn : 2000000 ≤ n) : ∃ (v : z00) (j : Nat),zcC n l (i : Int) = some (v,(j : Int)) ∧ zaA v := by
  obtain ⟨k,j,e,v0,v1⟩ := zgv 4 (by omega) (by omega) n l i hl
  rw [zcC,e]
  simp only [bs,beq_iff_eq]
  by_cases k0 : k = 0
  · rw [if_pos k0]
    obtain ⟨s,j',e',hs⟩ := zuf n [[77,105,108,108],[70,111,114,100],[],[66,114,105,100,103,101,32,97,116,32,116,104,101,32,109,105,108,108]] l j hl (by decide) (by decide)
    refine ⟨txt s,j',(congrArg (fun x => x >>= _) e').trans ?_,.inl ⟨s,rfl,?_⟩⟩
    · simp only [bs]; rfl
    · simp only [List.mem_cons,List.not_mem_nil,or_false] at hs
      rcases hs with rfl | rfl | rfl | rfl <;> exact ⟨by unfold plain; decide,by decide⟩
  rw [if_neg k0]
  by_cases k1 : k = 1
  · rw [if_pos k1]
    obtain ⟨b,j',e',_,_⟩ := zgv 2 (by omega) (by omega) n l j hl
    refine ⟨flg (b == 1),j',(congrArg (fun x => x >>= _) e').trans ?_,.inr (.inl ⟨_,rfl⟩)⟩
    simp only [bs]; rfl
  rw [if_neg k1]
  by_cases k2 : k = 2
  · rw [if_pos k2]
    obtain ⟨s,j',e',hs⟩ := zqd n l j hl hn
    refine ⟨txt (digF s),j',(congrArg (fun x => x >>= _) e').trans ?_,.inl ⟨_,rfl,ziS s,by rw [zg0]; omega⟩⟩
    simp only [bs]; rfl
  rw [if_neg k2]
  obtain ⟨b,j',e',b0,b1⟩ := zgv 120 (by omega) (by omega) n l j hl
  refine ⟨num (b - 5),j',(congrArg (fun x => x >>= _) e').trans ?_,.inr (.inr ⟨_,rfl,by omega,by omega⟩)⟩
  simp only [bs]
  rw [wi64 (by omega) (by omega),z5s]
  simp only [bs]; rfl
theorem zBN (n : Nat) (l : List Int) (i : Nat) (hl : l.length ≤ 1000) (hn : 2000000 ≤ n) : ∃ (s : Str) (j : Nat),zfa n l (i : Int) = some (s,(j : Int)) ∧ s.length = 16 := by
  obtain ⟨k,j,e,v0,v1⟩ := zgv 20 (by omega) (by omega) n l i hl
  rw [zfa,e]
  simp only [bs]
  rw [if_pos (by show _ ≤ _; simp [strOf]),zo7 n _ (by simp [strOf]) (by simp [strOf]; omega)]
  simp only [bs]
  rw [if_pos ⟨by omega,by rw [zkV]; omega⟩]
  exact ⟨_,j,rfl,by rw [List.length_take,zkV]; rfl⟩
end Go.Proofs.YtchpeafokjmmeaaGreatDoorQ
set_option maxRecDepth 100000
set_option maxHeartbeats 2000000
namespace Go.Proofs.YtchpeafokjmmeaaGreatDoorQ
open Go Go.PE
def N5 : List Str := [[97,103,101],[110,97,109,101],[97,100,117,108,116],[105,100],[114,97,110,107]]
structure zkP (a : z02) : Prop where
  name : a.z0L ∈ N5
  value : zaA a.z0j
  salt : a.z5W.length = 16
structure z9L (l : List z02) : Prop where
  all : ∀ a ∈ l,zkP a
  sub : (l.map z02.z0L).Sublist N5
theorem z9L.nd {l : List z02} (h : z9L l) : (l.map z02.z0L).Nodup := (by decide : N5.Nodup).sublist h.sub
theorem z9L.le {l : List z02} (h : z9L l) : l.length ≤ 5 := by simpa [N5] using h.sub.length_le
theorem zt1 (l : List Int) (hl : l.length ≤ 1000) : ∀ (k j n i : Nat) (acc : List z02),j + k = 5 → 3000000 + k + 1 ≤ n → (∀ a ∈ acc,zkP a) → (acc.map z02.z0L).Sublist (N5.take j) →
    ∃ (r : List z02) (i' : Nat),z2c n (j : Int) l (i : Int) acc = some (l,(i' : Int),r) ∧ z9L r
  | 0,j,n,i,acc,e,hn,ha,hs => by
    obtain ⟨n,rfl⟩ : ∃ m,n = m + 1 := ⟨n - 1,by omega⟩
    refine ⟨acc,i,?_,ha,hs.trans (List.take_sublist j N5)⟩
    rw [z2c.eq_2,if_neg (by simp; omega)]
  | k + 1,j,n,i,acc,e,hn,ha,hs => by
    obtain ⟨n,rfl⟩ : ∃ m,n = m + 1 := ⟨n - 1,by omega⟩
    have hj : j < N5.length := by simp only [N5,List.length_cons,List.length_nil]; omega
    have hla : acc.length ≤ j := by have := hs.length_le; rw [List.length_map,List.length_take] at this; omega
    obtain ⟨v,i1,e1,_,_⟩ := zgv 3 (by omega) (by omega) n l i hl
    rw [z2c.eq_2,if_pos (by simp; omega),if_pos ⟨by omega,by simp; omega⟩,e1]
    simp only [bs]
    rw [wj (by omega)]
    have hup : (N5.take j).Sublist (N5.take (j + 1)) := by rw [List.take_succ_eq_append_getElem hj]; exact List.sublist_append_left _ _
    by_cases hv : (decide (v > 0)) = true
    · rw [if_pos hv]
      obtain ⟨x,i2,e2,hx⟩ := zzs n l i1 hl (by omega)
      obtain ⟨s,i3,e3,hs'⟩ := zBN n l i2 hl (by omega)
      rw [e2]
      simp only [bs]
      rw [e3]
      simp only [bs]
      rw [if_pos (by show _ ≤ _; simp; omega)]
      have hx' : (⟨x.z0i,x.z0K,x.z0n,x.z0D,x.z0d,x.z09⟩ : z00) = x := by cases x; rfl
      rw [hx',← N5,z9d [] N5 j hj]
      refine zt1 l hl k (j + 1) n i3 _ (by omega) (by omega) (fun a h => ?_) ?_
      · rcases List.mem_append.1 h with h | h
        · exact ha a h
        · simp only [List.mem_cons,List.not_mem_nil,or_false] at h
          subst h
          exact ⟨List.getElem_mem hj,hx,hs'⟩
      · rw [List.map_append,List.take_succ_eq_append_getElem hj]
        exact hs.append (List.Sublist.refl _)
    · rw [if_neg hv]
      exact zt1 l hl k (j + 1) n i1 acc (by omega) (by omega) ha (hs.trans hup)
theorem zzG (n : Nat) (l : List Int) (i : Nat) (hl : l.length ≤ 1000) (hn : 4000000 ≤ n) : ∃ (r : List z02) (i' : Nat),z6p n l (i : Int) = some (r,l,(i' : Int)) ∧ z9L r := by
  obtain ⟨r,i',e,h⟩ := zt1 l hl 5 0 n i [] rfl (by omega) (fun a h => by cases h) (List.nil_sublist _)
  rw [Int.natCast_zero] at e
  refine ⟨r,i',?_,h⟩
  rw [z6p,e]
  simp only [bs]
end Go.Proofs.YtchpeafokjmmeaaGreatDoorQ
set_option maxRecDepth 100000
set_option maxHeartbeats 2000000
namespace Go.Proofs.YtchpeafokjmmeaaGreatDoorQ
open Go Go.PE
theorem zno (k : Nat) (a b : Int) (hk : k ≤ 32) (ha : 0 ≤ a) (ha1 : a < 1073741824) (hb : 0 ≤ b) (hb1 : b < 2 ^ k) : ior .i64 (2 ^ k * a) b = 2 ^ k * a + b := by
  obtain ⟨x,rfl⟩ := Int.eq_ofNat_of_zero_le ha
  obtain ⟨y,rfl⟩ := Int.eq_ofNat_of_zero_le hb
  have e : ((2 : Int) ^ k) * (x : Int) = ((2 ^ k * x : Nat) : Int) := by simp
  have hp : 2 ^ k ≤ 2 ^ 32 := Nat.pow_le_pow_right (by omega) hk
  have hy : y < 2 ^ k := by
    have : ((2 ^ k : Nat) : Int) = 2 ^ k := by simp
    omega
  have hm : 2 ^ k * x ≤ 2 ^ 32 * 1073741824 := Nat.mul_le_mul hp (by omega)
  rw [e,zz4 (by omega) (by omega) (by omega) (by omega),Int.toNat_natCast,Int.toNat_natCast,← Nat.two_pow_add_eq_or_of_lt hy]
  simp
theorem znk (x : Int) (h0 : 0 ≤ x) (h1 : x < 4611686018427387904) : iand .i64 x 63 = x % 64 := by
  obtain ⟨u,rfl⟩ := Int.eq_ofNat_of_zero_le h0
  have e : iand .i64 (u : Int) 63 = z07 (((BitVec.ofInt 64 (u : Int)) &&& (BitVec.ofInt 64 63)).toNat : Int) := rfl
  rw [e,BitVec.toNat_and,toNat_ofInt (by omega) (by omega),toNat_ofInt (by omega) (by omega)]
  rw [show ((63 : Int)).toNat = 2 ^ 6 - 1 from rfl,Nat.and_two_pow_sub_one_eq_mod,Int.toNat_natCast,wi64 (by omega) (by omega)]
  omega
theorem zAm (s : Str) (i : Int) : v3 s i = 65536 * bt s i + 256 * bt s (i + 1) + bt s (i + 2) := by
  have a := z8L s i; have b := z8L s (i + 1); have c := z8L s (i + 2)
  rw [v3,wi64 (n := bt s i) (by omega) (by omega),wi64 (n := bt s (i + 1)) (by omega) (by omega),wi64 (n := bt s (i + 2)) (by omega) (by omega),zhC _ 16 65536 (by decide) (by omega) (by omega),zhC _ 8 256 (by decide) (by omega) (by omega)]
  have h1 := zno 16 (bt s i) (bt s (i + 1) * 256) (by omega) (by omega) (by omega) (by omega) (by omega)
  have h2 := zno 8 (256 * bt s i + bt s (i + 1)) (bt s (i + 2)) (by omega) (by omega) (by omega) (by omega) (by omega)
  rw [show bt s i * 65536 = 2 ^ 16 * bt s i by omega,h1,show (2 : Int) ^ 16 * bt s i + bt s (i + 1) * 256 = 2 ^ 8 * (256 * bt s i + bt s (i + 1)) by omega,h2]
  omega
theorem zxw (v : Int) (h0 : 0 ≤ v) (h1 : v < 16777216) : dig4 v = [bt AL (v / 262144),bt AL (v / 4096 % 64),bt AL (v / 64 % 64),bt AL (v % 64)] := by
  rw [dig4,zin _ 18 262144 (by decide) (by decide),zin _ 12 4096 (by decide) (by decide),zin _ 6 64 (by decide) (by decide),znk _ (by omega) (by omega),znk _ (by omega) (by omega),znk _ (by omega) (by omega)]
theorem zwn (v : Int) (h0 : 0 ≤ v) (h1 : v < 16777216) : ior .i64 (shl .i64 (ior .i64 (shl .i64 (ior .i64 (shl .i64 (ior .i64 (shl .i64 0 6) (v / 262144)) 6) (v / 4096 % 64)) 6) (v / 64 % 64)) 6) (v % 64) = v := by
  have s0 : shl .i64 0 6 = 2 ^ 6 * 0 := by rw [zhC 0 6 64 (by decide) (by omega) (by omega)]; omega
  have i0 := zno 6 0 (v / 262144) (by omega) (by omega) (by omega) (by omega) (by omega)
  have s1 : shl .i64 (v / 262144) 6 = 2 ^ 6 * (v / 262144) := by rw [zhC _ 6 64 (by decide) (by omega) (by omega)]; omega
  have i1 := zno 6 (v / 262144) (v / 4096 % 64) (by omega) (by omega) (by omega) (by omega) (by omega)
  have e1 : (2 : Int) ^ 6 * (v / 262144) + v / 4096 % 64 = v / 4096 := by omega
  have s2 : shl .i64 (v / 4096) 6 = 2 ^ 6 * (v / 4096) := by rw [zhC _ 6 64 (by decide) (by omega) (by omega)]; omega
  have i2 := zno 6 (v / 4096) (v / 64 % 64) (by omega) (by omega) (by omega) (by omega) (by omega)
  have e2 : (2 : Int) ^ 6 * (v / 4096) + v / 64 % 64 = v / 64 := by omega
  have s3 : shl .i64 (v / 64) 6 = 2 ^ 6 * (v / 64) := by rw [zhC _ 6 64 (by decide) (by omega) (by omega)]; omega
  have i3 := zno 6 (v / 64) (v % 64) (by omega) (by omega) (by omega) (by omega) (by omega)
  rw [s0,i0,show (2 : Int) ^ 6 * 0 + v / 262144 = v / 262144 by omega,s1,i1,e1,s2,i2,e2,s3,i3]
  omega
end Go.Proofs.YtchpeafokjmmeaaGreatDoorQ
set_option maxRecDepth 100000
set_option maxHeartbeats 2000000
namespace Go.Proofs.YtchpeafokjmmeaaGreatDoorQ
open Go Go.PE
def AN : List Str := [[110],[118],[117]]
def zpr (s : Str) : Str := zwh [48,65] 2 6 s
theorem zuI (s : Str) : (zpr s).length = 24 := by rw [zpr,zuA]; rfl
theorem zpU (s : Str) : plain (zpr s) := zqk _ _ _ (by unfold plain; decide)
theorem zaA.wf {v : z00} (h : zaA v) (d : Nat) : wf (d + 1) v := by
  rcases h with ⟨s,rfl,hs,hl⟩ | ⟨c,rfl⟩ | ⟨k,rfl,h0,h1⟩
  · exact zfz d s hs.asc (by omega)
  · exact zCU d c
  · exact zz1 d k (by omega) (by omega)
theorem zaA.len {v : z00} (h : zaA v) (d : Nat) : (encF (d + 1) v).length ≤ 102 := by
  rcases h with ⟨s,rfl,hs,hl⟩ | ⟨c,rfl⟩ | ⟨k,rfl,h0,h1⟩
  · rw [ziP,hs.zfv]; omega
  · have := zvy d c; omega
  · have := zhE d k (by omega) (by omega); omega
def zrg (nm : Str) (v : z00) (s : Str) : z00 := mapN AN [txt nm,v,txt (zpr s)]
theorem zzI (d : Nat) (nm : Str) (v : z00) (s : Str) (hn : plain nm) (hl : nm.length ≤ 32) (hv : zaA v) : wf (d + 2) (zrg nm v s) := by
  refine zka rfl (by decide) (by decide) (by unfold asc; decide) (fun y hy => ?_)
  simp only [List.mem_cons,List.not_mem_nil,or_false] at hy
  rcases hy with rfl | rfl | rfl
  · exact zfz d _ hn.asc (by omega)
  · exact hv.wf d
  · exact zfz d _ (zpU s).asc (by rw [zuI]; omega)
theorem zr9 (d : Nat) (nm : Str) (v : z00) (s : Str) (hn : plain nm) (hl : nm.length ≤ 32) (hv : zaA v) : (encF (d + 2) (zrg nm v s)).length ≤ 300 := by
  have e := zsX (d + 1) AN [txt nm,v,txt (zpr s)]
  have l1 := hv.len d
  have l2 : (encF (d + 1) (txt nm)).length ≤ 34 := by rw [ziP,hn.zfv]; omega
  have l3 : (encF (d + 1) (txt (zpr s))).length ≤ 26 := by rw [ziP,(zpU s).zfv,zuI]; omega
  rw [zrg,show d + 2 = d + 1 + 1 from rfl,e]
  simp only [AN,z3p,List.headD_cons,List.tail_cons,if_true,Bool.false_eq_true,if_false,List.nil_append,List.length_cons,List.length_append,List.length_nil]
  rw [show (z4k [110]).length = 3 from rfl,show (z4k [118]).length = 3 from rfl,show (z4k [117]).length = 3 from rfl]
  omega
def zlh (nm : Str) (v : z00) (s : Str) : Str := strOf (encF 8 (zrg nm v s))
def zBh (nm : Str) (v : z00) (s : Str) : Str := digF (zlh nm v s)
theorem zo1 (nm : Str) (v : z00) (s : Str) (hn : plain nm) (hl : nm.length ≤ 32) (hv : zaA v) : (zlh nm v s).length ≤ 300 := by
  rw [zlh,z1j]; exact zr9 6 nm v s hn hl hv
theorem zxY (v : Int) (h0 : 0 ≤ v) (h1 : v < 16777216) (r : List Int) (j : Nat) (hj : j < 4) : bt (strOf (dig4 v ++ r)) (j : Int) = match j with | 0 => bt AL (v / 262144) | 1 => bt AL (v / 4096 % 64) | 2 => bt AL (v / 64 % 64) | _ => bt AL (v % 64) := by
  rw [zxw v h0 h1]
  have w : ∀ i,wr8 (rd8 (bt AL i)) = bt AL i := fun i => by have := z8L AL i; exact zyF this.1 this.2
  have hj' : j = 0 ∨ j = 1 ∨ j = 2 ∨ j = 3 := by omega
  rcases hj' with rfl | rfl | rfl | rfl
  · exact w _
  · exact w _
  · exact w _
  · exact w _
theorem zzt (s : Str) : strOf (b64F 11 (0 :: s)) = 65 :: (strOf (b64F 11 (0 :: s))).drop 1 := by
  have hv := zg1 (0 :: s) 0
  have e := zAm (0 :: s) 0
  have b1 := z8L (0 :: s) (0 + 1); have b2 := z8L (0 :: s) (0 + 2)
  have z : bt (0 :: s) 0 = 0 := rfl
  have hz : v3 (0 :: s) 0 / 262144 = 0 := by omega
  rw [show 11 = 10 + 1 from rfl,b64F,zxw _ hv.1 hv.2,hz]
  rfl
theorem zBk (s : Str) : digF s = 69 :: (strOf (b64F 11 (0 :: shaF s))).drop 1 := rfl
end Go.Proofs.YtchpeafokjmmeaaGreatDoorQ
set_option maxRecDepth 100000
set_option maxHeartbeats 2000000
namespace Go.Proofs.YtchpeafokjmmeaaGreatDoorQ
open Go Go.PE
attribute [local irreducible] encF
def dtx (s : Str) : Prop := plain s ∧ s.length ≤ 44
theorem zAG (s : Str) : dtx (digF s) := ⟨ziS s,by rw [zg0]; omega⟩
theorem zBG : dtx [] := ⟨(fun b hb => by cases hb),by simp⟩
theorem dtx.wf {s : Str} (h : dtx s) (d : Nat) : wf (d + 1) (txt s) := zfz d s h.1.asc (by have := h.2; omega)
theorem dtx.len {s : Str} (h : dtx s) (d : Nat) : (encF (d + 1) (txt s)).length ≤ 46 := by rw [ziP,h.1.zfv]; have := h.2; omega
def EN : List Str := [[110],[102],[115],[111]]
def zzN (nm far sch : Str) (op : Int) : z00 := mapN EN [txt nm,txt far,txt sch,num op]
theorem zzV (d : Nat) {nm far sch : Str} {op : Int} (h1 : dtx nm) (h2 : dtx far) (h3 : dtx sch) (h4 : 0 ≤ op) (h5 : op ≤ 10) : wf (d + 2) (zzN nm far sch op) := by
  refine zka rfl (by decide) (by decide) (by unfold asc; decide) (fun y hy => ?_)
  simp only [List.mem_cons,List.not_mem_nil,or_false] at hy
  rcases hy with rfl | rfl | rfl | rfl
  · exact h1.wf d
  · exact h2.wf d
  · exact h3.wf d
  · exact zz1 d _ (by omega) (by omega)
theorem zym (d : Nat) {nm far sch : Str} {op : Int} (h1 : dtx nm) (h2 : dtx far) (h3 : dtx sch) (h4 : 0 ≤ op) (h5 : op ≤ 10) : (encF (d + 2) (zzN nm far sch op)).length ≤ 300 := by
  have e := zsX (d + 1) EN [txt nm,txt far,txt sch,num op]
  have l1 := h1.len d; have l2 := h2.len d; have l3 := h3.len d
  have l4 := zhE d op (by omega) (by omega)
  rw [zzN,show d + 2 = d + 1 + 1 from rfl,e]
  simp only [EN,z3p,List.headD_cons,List.tail_cons,if_true,Bool.false_eq_true,if_false,List.nil_append,List.length_cons,List.length_append,List.length_nil]
  rw [show (z4k [110]).length = 3 from rfl,show (z4k [102]).length = 3 from rfl,show (z4k [115]).length = 3 from rfl,show (z4k [111]).length = 3 from rfl]
  omega
def CN : List Str := [[105],[114,105],[104],[115],[97],[111],[101]]
def zvH (i r h s : Str) (ds : List Str) (g : Int) (es : List z00) : List z00 := [txt i,txt r,txt h,txt s,lst (ds.map txt),num g,lst es]
theorem zzY {i r h s : Str} {ds : List Str} {g : Int} {es : List z00} (hi : dtx i) (hr : dtx r) (hh : dtx h) (hs : dtx s) (hd : ∀ x ∈ ds,dtx x) (dl : ds.length ≤ 32) (g0 : 0 ≤ g) (g1 : g ≤ 10) (he : ∀ x ∈ es,wf 6 x ∧ (encF 6 x).length ≤ 300) (el : es.length ≤ 8) : Rest CN (zvH i r h s ds g es) := by
  refine ⟨rfl,by decide,by decide,by unfold asc; decide,fun y hy => ?_,?_⟩
  · simp only [zvH,List.mem_cons,List.not_mem_nil,or_false] at hy
    rcases hy with rfl | rfl | rfl | rfl | rfl | rfl | rfl
    · exact hi.wf 6
    · exact hr.wf 6
    · exact hh.wf 6
    · exact hs.wf 6
    · refine zAo (by simp; omega) fun y hy => ?_
      obtain ⟨x,hx,rfl⟩ := List.mem_map.1 hy
      exact (hd x hx).wf 5
    · exact zz1 6 _ (by omega) (by omega)
    · exact zAo (d := 6) (by omega) (fun y hy => (he y hy).1)
  · have e1 := zmx (encF 6) 46 (ds.map txt) true [] fun y hy => by
      obtain ⟨x,hx,rfl⟩ := List.mem_map.1 hy
      exact (hd x hx).len 5
    rw [List.length_map] at e1
    have e2 := zmx (encF 6) 300 es true [] fun y hy => (he y hy).2
    have l1 : (encF 7 (txt i)).length ≤ 46 := hi.len 6
    have l2 : (encF 7 (txt r)).length ≤ 46 := hr.len 6
    have l3 : (encF 7 (txt h)).length ≤ 46 := hh.len 6
    have l4 : (encF 7 (txt s)).length ≤ 46 := hs.len 6
    have l5 : (encF 7 (num g)).length ≤ 21 := zhE 6 g (by omega) (by omega)
    have q1 : encF 7 (lst (ds.map txt)) = 91 :: (z3p (encF 6) false true [] (ds.map txt) ++ [93]) := zxi 6 _
    have q2 : encF 7 (lst es) = 91 :: (z3p (encF 6) false true [] es ++ [93]) := zxi 6 _
    have m1 : ds.length * (46 + 1) ≤ 1504 := by omega
    have m2 : es.length * (300 + 1) ≤ 2408 := by omega
    simp only [CN,zvH,z3p,q1,q2,List.headD_cons,List.tail_cons,if_true,Bool.false_eq_true,if_false,List.length_cons,List.length_append,List.length_nil]
    generalize encF 7 (txt i) = A1 at l1 ⊢
    generalize encF 7 (txt r) = A2 at l2 ⊢
    generalize encF 7 (txt h) = A3 at l3 ⊢
    generalize encF 7 (txt s) = A4 at l4 ⊢
    generalize encF 7 (num g) = A5 at l5 ⊢
    clear q1 q2
    generalize z3p (encF 6) false true [] (ds.map txt) = A6 at e1 ⊢
    generalize z3p (encF 6) false true [] es = A7 at e2 ⊢
    rw [show (z4k [105]).length = 3 from rfl,show (z4k [114,105]).length = 4 from rfl,show (z4k [104]).length = 3 from rfl,show (z4k [115]).length = 3 from rfl,show (z4k [97]).length = 3 from rfl,show (z4k [111]).length = 3 from rfl,show (z4k [101]).length = 3 from rfl]
    have a6 := Nat.le_trans e1 m1
    have a7 := Nat.le_trans e2 m2
    clear e1 e2 m1 m2 hi hr hh hs hd he dl el g0 g1
    generalize A1.length = a1 at *
    generalize A2.length = a2 at *
    generalize A3.length = a3 at *
    generalize A4.length = a4 at *
    generalize A5.length = a5 at *
    generalize A6.length = b6 at *
    generalize A7.length = b7 at *
    simp only [Nat.zero_add,Nat.add_zero,Nat.reduceAdd,← Nat.add_assoc]
    omega
def CRED : Str := [67,82,69,68]
theorem zy5 : plain CRED := by unfold plain; decide
def zm6 : List Str := [[112,97,114,101,110,116],[103,117,105,108,100]]
theorem zyu (s : Str) (h : s ∈ zm6) : Title s := by
  simp only [zm6,List.mem_cons,List.not_mem_nil,or_false] at h
  rcases h with rfl | rfl <;> exact ⟨fun n => by kernel_rfl,fun n => by kernel_rfl,by unfold plain; decide,by decide⟩
end Go.Proofs.YtchpeafokjmmeaaGreatDoorQ
set_option maxRecDepth 100000
set_option maxHeartbeats 2000000
namespace Go.Proofs.YtchpeafokjmmeaaGreatDoorQ
open Go Go.PE
theorem zyC (x : Int) : w_u8 x = x % 256 := rfl
theorem zE7 : ∀ a b : Fin 64,a ≠ b → bt AL ((a.val : Nat) : Int) ≠ bt AL ((b.val : Nat) : Int) := by decide +kernel
theorem zxn (i : Nat) (hi : i < 64) : ∀ k j n : Nat,j + k = i → k + 1 ≤ n → z4G n (bt AL (i : Int)) (j : Int) = some (.inl (i : Int))
  | 0,j,n,h,hn => by
    obtain rfl : j = i := by omega
    obtain ⟨n,rfl⟩ : ∃ m,n = m + 1 := ⟨n - 1,by omega⟩
    rw [z4G.eq_2,if_pos (by simp only [decide_eq_true_eq]; omega),if_pos ⟨by omega,by omega⟩]
    exact if_pos (by rw [AL]; simp)
  | k + 1,j,n,h,hn => by
    obtain ⟨n,rfl⟩ : ∃ m,n = m + 1 := ⟨n - 1,by omega⟩
    have hne := zE7 ⟨j,by omega⟩ ⟨i,hi⟩ (by intro e; have := congrArg Fin.val e; simp only at this; omega)
    rw [z4G.eq_2,if_pos (by simp only [decide_eq_true_eq]; omega),if_pos ⟨by omega,by omega⟩]
    refine (if_neg (fun e => hne (eq_of_beq e))).trans ?_
    rw [wj (by omega)]
    exact zxn i hi k (j + 1) n (by omega) (by omega)
theorem zlR (n : Nat) (i : Int) (h0 : 0 ≤ i) (h1 : i < 64) (hn : 100 ≤ n) : zaF n (bt AL i) = some (i,true) := by
  obtain ⟨m,rfl⟩ := Int.eq_ofNat_of_zero_le h0
  rw [zaF,show (0 : Int) = ((0 : Nat) : Int) from rfl,zxn m (by omega) m 0 n (by omega) (by omega)]
  simp only [bs]
theorem zx5 : ∀ (q k : Nat) (s : Str),(strOf (b64F (q + k) s)).drop (4 * q) = strOf (b64F k (s.drop (3 * q)))
  | 0,k,s => by simp
  | q + 1,k,s => by
    have e := zx5 q k (s.drop 3)
    rw [show q + 1 + k = q + k + 1 by omega,b64F,z4L,show 4 * (q + 1) = 4 + 4 * q by omega,← List.drop_drop,List.drop_left' (by rw [z1j]; rfl),e,List.drop_drop,show 3 + 3 * q = 3 * (q + 1) by omega]
theorem zp3 (q k : Nat) (s : Str) (j : Nat) (hj : j < 4) : bt (strOf (b64F (q + (k + 1)) s)) (((4 * q + j : Nat)) : Int) = match j with | 0 => bt AL (v3 s (3 * q : Nat) / 262144) | 1 => bt AL (v3 s (3 * q : Nat) / 4096 % 64) | 2 => bt AL (v3 s (3 * q : Nat) / 64 % 64) | _ => bt AL (v3 s (3 * q : Nat) % 64) := by
  have hv := zg1 s (3 * q : Nat)
  have e := zi7 (strOf (b64F (q + (k + 1)) s)) (4 * q) (j : Int) (by omega)
  rw [zx5,b64F,zyY,zxY _ hv.1 hv.2 _ j hj] at e
  rw [Int.natCast_add]
  exact e.symm
theorem zBi (q k n : Nat) (s : Str) (o : List Int) (hl : s.length = 3 * (q + (k + 1))) (hb : q + (k + 1) ≤ 10000) (hn : 200 ≤ n) : z2m n (strOf (b64F (q + (k + 1)) s)) ((4 * q : Nat) : Int) 0 0 o = some (.inr (strOf (b64F (q + (k + 1)) s),((4 * q : Nat) : Int),v3 s (3 * q : Nat),o)) := by
  obtain ⟨n,rfl⟩ : ∃ m,n = m + 5 := ⟨n - 5,by omega⟩
  have hv := zg1 s (3 * q : Nat)
  have tl : (strOf (b64F (q + (k + 1)) s)).length = 4 * (q + (k + 1)) := by rw [z1j,zcr]
  have d0 := zp3 q k s 0 (by omega)
  have d1 := zp3 q k s 1 (by omega)
  have d2 := zp3 q k s 2 (by omega)
  have d3 := zp3 q k s 3 (by omega)
  simp only at d0 d1 d2 d3
  have p0 : z07 (((4 * q : Nat) : Int) + 0) = ((4 * q + 0 : Nat) : Int) := by rw [wi64 (by omega) (by omega)]; omega
  have p1 : z07 (((4 * q : Nat) : Int) + 1) = ((4 * q + 1 : Nat) : Int) := by rw [wi64 (by omega) (by omega)]; omega
  have p2 : z07 (((4 * q : Nat) : Int) + 2) = ((4 * q + 2 : Nat) : Int) := by rw [wi64 (by omega) (by omega)]; omega
  have p3 : z07 (((4 * q : Nat) : Int) + 3) = ((4 * q + 3 : Nat) : Int) := by rw [wi64 (by omega) (by omega)]; omega
  rw [show n + 5 = (n + 4) + 1 from rfl,z2m.eq_2,if_pos (by decide),p0,if_pos ⟨by omega,by omega⟩,d0]
  refine (congrArg (fun x => x >>= _) (zlR (n + 4) _ (by omega) (by omega) (by omega))).trans ?_
  simp only [bs,Bool.not_true,Bool.false_eq_true,if_false]
  rw [show z07 ((0 : Int) + 1) = 1 from by decide,show n + 4 = (n + 3) + 1 from rfl,z2m.eq_2,if_pos (by decide),p1,if_pos ⟨by omega,by omega⟩,d1]
  refine (congrArg (fun x => x >>= _) (zlR (n + 3) _ (by omega) (by omega) (by omega))).trans ?_
  simp only [bs,Bool.not_true,Bool.false_eq_true,if_false]
  rw [show z07 ((1 : Int) + 1) = 2 from by decide,show n + 3 = (n + 2) + 1 from rfl,z2m.eq_2,if_pos (by decide),p2,if_pos ⟨by omega,by omega⟩,d2]
  refine (congrArg (fun x => x >>= _) (zlR (n + 2) _ (by omega) (by omega) (by omega))).trans ?_
  simp only [bs,Bool.not_true,Bool.false_eq_true,if_false]
  rw [show z07 ((2 : Int) + 1) = 3 from by decide,show n + 2 = (n + 1) + 1 from rfl,z2m.eq_2,if_pos (by decide),p3,if_pos ⟨by omega,by omega⟩,d3]
  refine (congrArg (fun x => x >>= _) (zlR (n + 1) _ (by omega) (by omega) (by omega))).trans ?_
  simp only [bs,Bool.not_true,Bool.false_eq_true,if_false]
  rw [show z07 ((3 : Int) + 1) = 4 from by decide,z2m.eq_2,if_neg (by decide),zwn _ hv.1 hv.2]
theorem take3 (s : Str) (q : Nat) (h : 3 * q + 3 ≤ s.length) : bytesOf (s.take (3 * q)) ++ [bt s (3 * q : Nat),bt s ((3 * q : Nat) + 1),bt s ((3 * q : Nat) + 2)] = bytesOf (s.take (3 * (q + 1))) := by
  have e : ∀ j (hj : j < s.length),wr8 s[j] = bt s (j : Int) := fun j hj => by
    simp only [bt,Int.toNat_natCast,List.getD_eq_getElem?_getD,List.getElem?_eq_getElem hj,Option.getD_some,wr8]
  have e1 := e (3 * q) (by omega)
  have e2 := e (3 * q + 1) (by omega)
  have e3 := e (3 * q + 2) (by omega)
  have t1 : s.take (3 * q + 1) = s.take (3 * q) ++ [s[3 * q]'(by omega)] := (List.take_append_getElem (by omega)).symm
  have t2 : s.take (3 * q + 1 + 1) = s.take (3 * q + 1) ++ [s[3 * q + 1]'(by omega)] := (List.take_append_getElem (by omega)).symm
  have t3 : s.take (3 * q + 1 + 1 + 1) = s.take (3 * q + 1 + 1) ++ [s[3 * q + 2]'(by omega)] := (List.take_append_getElem (by omega)).symm
  rw [show 3 * (q + 1) = 3 * q + 1 + 1 + 1 by omega,t3,t2,t1,zeu,zeu,zeu]
  simp only [bytesOf,List.map_cons,List.map_nil,e1,e2,e3,List.append_assoc,List.cons_append,List.nil_append,Int.natCast_add]
  rfl
theorem zAl (K : Nat) (s : Str) (hl : s.length = 3 * K) (hb : K ≤ 10000) : ∀ k q n : Nat,q + k = K → 300 + k + 1 ≤ n → z3q n (strOf (b64F K s)) ((4 * q : Nat) : Int) (bytesOf (s.take (3 * q))) = some (.inl (bytesOf s))
  | 0,q,n,h,hn => by
    obtain ⟨n,rfl⟩ : ∃ m,n = m + 1 := ⟨n - 1,by omega⟩
    obtain rfl : q = K := by omega
    rw [z3q.eq_2,if_neg (by simp only [decide_eq_true_eq,z1j,zcr]; omega),List.take_of_length_le (by omega)]
  | k + 1,q,n,h,hn => by
    obtain ⟨n,rfl⟩ : ∃ m,n = m + 1 := ⟨n - 1,by omega⟩
    subst h
    have a := z8L s (3 * q : Nat); have b := z8L s ((3 * q : Nat) + 1); have c := z8L s ((3 * q : Nat) + 2)
    have hv := zAm s (3 * q : Nat)
    have r1 : w_u8 (shr .i64 (v3 s (3 * q : Nat)) 16) = bt s (3 * q : Nat) := by
      rw [zin _ 16 65536 (by decide) (by decide),show v3 s (3 * q : Nat) / 65536 = bt s (3 * q : Nat) by omega,wu8 (by omega) (by omega)]
    have r2 : w_u8 (shr .i64 (v3 s (3 * q : Nat)) 8) = bt s ((3 * q : Nat) + 1) := by
      rw [zin _ 8 256 (by decide) (by decide),zyC]
      omega
    have r3 : w_u8 (v3 s (3 * q : Nat)) = bt s ((3 * q : Nat) + 2) := by
      rw [zyC]
      omega
    rw [z3q.eq_2,if_pos (by simp only [decide_eq_true_eq,z1j,zcr]; omega)]
    refine (congrArg (fun x => x >>= _) (zBi q k n s _ hl hb (by omega))).trans ?_
    simp only [bs]
    rw [if_pos (by show _ ≤ _; rw [z5V,List.length_take]; omega),r1,r2,r3,take3 s q (by omega),show z07 (((4 * q : Nat) : Int) + 4) = ((4 * (q + 1) : Nat) : Int) from by rw [wi64 (by omega) (by omega)]; omega]
    exact zAl (q + (k + 1)) s hl hb k (q + 1) n (by omega) (by omega)
theorem zCS (n K : Nat) (s : Str) (hl : s.length = 3 * K) (hb : K ≤ 1000) (hn : 2000 ≤ n) : z9p n (strOf (b64F K s)) = some (s,0) := by
  have e := zAl K s hl (by omega) K 0 n (by omega) (by omega)
  have e' : z3q n (strOf (b64F K s)) 0 [] = some (.inl (bytesOf s)) := e
  rw [z9p,if_neg (by simp only [decide_eq_true_eq,z1j,zcr]; omega),if_neg (by
    simp only [bne_iff_ne,ne_eq,Decidable.not_not,z1j,zcr]
    rw [Int.tmod_eq_emod_of_nonneg (by omega)]; omega),e']
  simp only [bs,zcs]
theorem zvs (n : Nat) (s : Str) (hn : 3000 ≤ n) : z9e n (digF s) = some (⟨1,shaF s⟩,44,0) := by
  obtain ⟨n,rfl⟩ : ∃ m,n = m + 1 := ⟨n - 1,by omega⟩
  have hd := zBk s
  have hl := zg0 s
  have hs := zkV s
  have he := zCS n 11 (0 :: shaF s) (by simp only [List.length_cons,hs]) (by omega) (by omega)
  rw [zzt] at he
  rw [z9e,z4U.eq_2,if_pos (by decide),show z9r n 1 = some ([69],true) from rfl]
  simp only [bs]
  rw [if_neg (by rw [hl]; decide),if_pos (by rw [hl]; exact ⟨by decide,by decide⟩),if_neg (by rw [hd]; simp),show zaW n 1 = some 44 from rfl]
  simp only [bs]
  rw [if_neg (by rw [hl]; decide),show z7j n 1 = some 1 from rfl]
  simp only [bs]
  rw [if_pos ⟨by decide,by decide⟩,if_pos (by rw [hl]; exact ⟨by decide,by decide,by decide⟩),show (digF s).take (44 : Int).toNat = digF s from List.take_of_length_le (by rw [hl]; decide),if_pos (by show _ ≤ _; rw [List.length_drop,hl]; decide)]
  rw [show ([65,65] : Str).take (1 : Int).toNat ++ (digF s).drop ((([69] : Str).length : Int)).toNat = 65 :: (strOf (b64F 11 (0 :: shaF s))).drop 1 from by rw [hd]; rfl,he]
  simp only [bs]
  rw [if_neg (by decide),if_pos ⟨by decide,by simp; omega⟩,if_pos ⟨by decide,by decide⟩,if_neg (by simp),if_pos ⟨by decide,by simp; omega⟩]
  rfl
theorem zy0 (n : Nat) (s : Str) (hn : 3000 ≤ n) : zcJ n 1 (digF s) = some (shaF s,0) := by
  rw [zcJ,zvs n s hn]
  simp only [bs]
  rw [if_neg (by decide),if_neg (by simp),if_neg (by rw [zg0]; decide)]
theorem zyR (n : Nat) (s : Str) (hn : 3000 ≤ n) : z2G n (digF s) = some true := by
  rw [z2G,zlu,zy0 n s hn]
  rfl
end Go.Proofs.YtchpeafokjmmeaaGreatDoorQ
set_option maxRecDepth 100000
set_option maxHeartbeats 2000000
namespace Go.Proofs.YtchpeafokjmmeaaGreatDoorQ
open Go Go.PE
theorem name5 {a : z02} (h : zkP a) : Title a.z0L := zA9 _ (by
  have := h.name
  simp only [N5,NAMES,List.mem_cons,List.not_mem_nil,or_false] at *
  rcases this with h | h | h | h | h <;> simp [h])
theorem zaA.kinds {v : z00} (h : zaA v) : (((v.z0i == 3) || (v.z0i == 2)) || (v.z0i == 1)) = true := by
  rcases h with ⟨s,rfl,_⟩ | ⟨b,rfl⟩ | ⟨k,rfl,_⟩ <;> rfl
theorem wf_v {v : z00} (h : zaA v) : wf 8 v := h.wf 7
def aDig (a : z02) : Str := zBh a.z0L a.z0j a.z5W
theorem zzO (n : Nat) (s : Str) (h : s.length = 16) (hn : 2000 ≤ n) : z9l n 5 s = some (zpr s) :=
  zlC n 5 [48,65] s 16 2 6 rfl rfl (by decide) (by omega) h (by omega) (by omega) (by decide) hn
theorem zzj (n : Nat) (s : Str) (h : s.length = 16) (hn : 2000 ≤ n) : z4y n 5 s = some (zpr s) :=
  zfu n 5 [48,65] s 16 2 6 rfl (by decide) (by omega) h (by omega) (by omega) (by decide) hn
theorem zuk {a : z02} (h : zkP a) : wf 8 (zrg a.z0L a.z0j a.z5W) := zzI 6 _ _ _ (name5 h).plain (name5 h).len h.value
theorem zzB (n : Nat) (a : z02) (h : zkP a) (hn : 30000000 ≤ n) : z9i n a = some (zrg a.z0L a.z0j a.z5W) := by
  have hw := zuk h
  rw [z9i,z0M]
  simp only [bs]
  rw [zzO n _ h.salt (by omega)]
  simp only [bs]
  rw [z0M]
  simp only [bs]
  refine (congrArg (fun x => x >>= _) (zwc n 8 AN [txt a.z0L,a.z0j,txt (zpr a.z5W)] hw (by omega) (by omega))).trans ?_
  simp only [bs,zrg]
theorem zsh (n : Nat) (a : z02) (h : zkP a) (hn : 40000000 ≤ n) : z6r n a = some (aDig a,0) := by
  have ht := name5 h
  have hb := ht.b (n - 100)
  rw [show n - 100 + 100 = n by omega] at hb
  have hl := zo1 a.z0L a.z0j a.z5W ht.plain ht.len h.value
  have hl' : (encF 8 (zrg a.z0L a.z0j a.z5W)).length ≤ 300 := zr9 6 _ _ _ ht.plain ht.len h.value
  have va : z3t n a = some true := by
    rw [z3t,hb]
    simp only [bs,if_true]
    rw [zd7 n _ (wf_v h.value) (by omega)]
    simp only [bs,h.value.kinds,Bool.and_self,Bool.true_and,h.salt]
    rfl
  rw [z6r,va]
  simp only [bs,Bool.not_true,Bool.false_eq_true,if_false]
  rw [zzB n a h (by omega)]
  simp only [bs]
  rw [zsz n _ (zuk h) (by omega) (by omega)]
  simp only [bs]
  rw [if_neg (by decide),← zlh,zd0 n _ (by omega) (by omega)]
  simp only [bs]
  rfl
theorem zsu (l : List Str) (h : l.length ≤ 1000000) : z19 l = some l := if_pos (by show _ ≤ _; omega)
theorem zx0 (l : List z00) (h : l.length ≤ 1000000) : z1x l = some l := if_pos (by show _ ≤ _; omega)
theorem zwu (n : Nat) (ns : List Str) (is : List z00) (s : Str) (v : z00) (h : wf 8 (mapN (ns ++ [s]) (is ++ [v]))) (hn : 20000000 ≤ n) (x : z08) (hx : x = ⟨mapN ns is⟩) : z1W n x s v = some ⟨mapN (ns ++ [s]) (is ++ [v])⟩ := by
  subst hx
  obtain ⟨_,h1,h2,_⟩ := zuB h
  simp only [List.length_append,List.length_cons,List.length_nil] at h1 h2
  rw [z1W]
  refine (congrArg (fun x => x >>= _) (zsu ns (by omega))).trans ?_
  simp only [bs]
  rw [if_pos (by show _ ≤ _; omega)]
  refine (congrArg (fun x => x >>= _) (zx0 is (by omega))).trans ?_
  simp only [bs]
  rw [if_pos (by show _ ≤ _; omega),zAr n 8 _ _ h (by omega) (by omega)]
  simp only [bs]
  rfl
theorem zA2 (n : Nat) (a : z02) (h : zkP a) (hn : 30000000 ≤ n) : z5h n a = some true := by
  have ht := name5 h
  have ha := ht.a (n - 100)
  rw [show n - 100 + 100 = n by omega] at ha
  rw [z5h,ha]
  simp only [bs,if_true]
  rw [zxe n _ (wf_v h.value) (by omega)]
  simp only [bs,h.value.kinds,Bool.and_self,if_true]
  rw [show z9G n 5 = some 16 by kernel_rfl]
  simp only [bs,h.salt]
  rfl
theorem zzR (n : Nat) (a : z02) (h : zkP a) (hn : 30000000 ≤ n) : z1q n ⟨mapN [] []⟩ a = some ⟨zrg a.z0L a.z0j a.z5W⟩ := by
  have hw := zuk h
  have ht := name5 h
  have w1 : wf 8 (mapN ([] ++ [[110]]) ([] ++ [txt a.z0L])) := zka rfl (by decide) (by decide) (by unfold asc; decide) (fun y hy => by
    simp only [List.nil_append,List.mem_cons,List.not_mem_nil,or_false] at hy
    subst hy
    exact zfz 6 _ ht.plain.asc (by have := ht.len; omega))
  have w2 : wf 8 (mapN ([[110]] ++ [[118]]) ([txt a.z0L] ++ [a.z0j])) := zka rfl (by decide) (by decide) (by unfold asc; decide) (fun y hy => by
    simp only [List.cons_append,List.nil_append,List.mem_cons,List.not_mem_nil,or_false] at hy
    rcases hy with rfl | rfl
    · exact zfz 6 _ ht.plain.asc (by have := ht.len; omega)
    · exact h.value.wf 6)
  have w3 : wf 8 (mapN ([[110],[118]] ++ [[117]]) ([txt a.z0L,a.z0j] ++ [txt (zpr a.z5W)])) := hw
  have p1 := zwu n [] [] [110] (txt a.z0L) w1 (by omega) _ rfl
  have p2 := zwu n [[110]] [txt a.z0L] [118] a.z0j w2 (by omega) _ rfl
  have p3 := zwu n [[110],[118]] [txt a.z0L,a.z0j] [117] (txt (zpr a.z5W)) w3 (by omega) _ rfl
  rw [z1q,z1F,zfd]
  simp only [bs]
  refine (congrArg (fun x => (x >>= _) >>= _) p1).trans ?_
  simp only [bs]
  refine (congrArg (fun x => x >>= _) p2).trans ?_
  simp only [bs]
  rw [zzj n _ h.salt (by omega)]
  simp only [bs]
  rw [z1F,zfd]
  simp only [bs]
  refine (congrArg (fun x => (x >>= _) >>= _) p3).trans ?_
  simp only [bs]
  rfl
theorem zxO (n : Nat) (a : z02) (h : zkP a) (hn : 40000000 ≤ n) : z3E n a = some (aDig a,0) := by
  have ht := name5 h
  have hl := zo1 a.z0L a.z0j a.z5W ht.plain ht.len h.value
  have hl' : (encF 8 (zrg a.z0L a.z0j a.z5W)).length ≤ 300 := zr9 6 _ _ _ ht.plain ht.len h.value
  have e0 : wf 8 (mapN [] []) := zka rfl (by decide) (by decide) (fun s hs => by cases hs) (fun y hy => by cases hy)
  rw [z3E,zA2 n a h (by omega)]
  simp only [bs,Bool.not_true,Bool.false_eq_true,if_false]
  rw [zAr n 8 [] [] e0 (by omega) (by omega)]
  simp only [bs]
  refine (congrArg (fun x => x >>= _) (zzR n a h (by omega))).trans ?_
  simp only [bs]
  rw [zrD n _ (zuk h) (by simp [zrg,mapN]) (by omega) (by omega)]
  simp only [bs]
  rw [if_neg (by decide),← zlh,zrS n _ (by omega) (by omega)]
  simp only [bs]
  rfl
end Go.Proofs.YtchpeafokjmmeaaGreatDoorQ
set_option maxRecDepth 100000
set_option maxHeartbeats 2000000
namespace Go.Proofs.YtchpeafokjmmeaaGreatDoorQ
open Go Go.PE
structure zlU (e : z06) : Prop where
  name : e.z0L ∈ zm6
  far : ∃ s,e.zaB = digF s
  sch : e.z0s = [] ∨ ∃ s,e.z0s = digF s
  o0 : 1 ≤ e.z2h
  o1 : e.z2h ≤ 3
structure zd1 (l : List z06) : Prop where
  all : ∀ e ∈ l,zlU e
  sub : (l.map z06.z0L).Sublist zm6
theorem zd1.nd {l : List z06} (h : zd1 l) : (l.map z06.z0L).Nodup := (by decide : zm6.Nodup).sublist h.sub
theorem zd1.le {l : List z06} (h : zd1 l) : l.length ≤ 2 := by simpa [zm6] using h.sub.length_le
def zha (s : Str) : Prop := ∃ x,s = digF x
theorem zha.len {s : Str} (h : zha s) : s.length = 44 := by obtain ⟨x,rfl⟩ := h; exact zg0 x
theorem zha.ne {s : Str} (h : zha s) : ¬ s = [] := fun e => by have := h.len; rw [e] at this; simp at this
theorem zha.dtx {s : Str} (h : zha s) : dtx s := by obtain ⟨x,rfl⟩ := h; exact zAG x
theorem zha.is {s : Str} (h : zha s) (n : Nat) (hn : 3000 ≤ n) : z2G n s = some true := by obtain ⟨x,rfl⟩ := h; exact zyR n x hn
def zeB (k : Nat) : List Int := (List.range k).map (fun i => ((i : Nat) : Int))
theorem zd3 (k : Nat) : (zeB k).length = k := by simp [zeB]
theorem zsN (k j : Nat) (h : j < k) : rd 0 (zeB k) (j : Int) = (j : Int) := by
  rw [z9d 0 _ j (by rw [zd3]; exact h)]
  simp [zeB]
def z8j (said i r h s : Str) (as : List z02) (g : Int) (es : List z06) : z03 := ⟨said,i,r,h,s,as.map aDig,zeB as.length,as,g,es⟩
structure ziq (i r h s : Str) (as : List z02) (g : Int) (es : List z06) : Prop where
  hi : zha i
  hr : zha r
  hh : h = [] ∨ zha h
  hs : zha s
  ha : z9L as
  he : zd1 es
  hg : (es = [] ∧ g = 0) ∨ (es ≠ [] ∧ 1 ≤ g ∧ g ≤ 4)
theorem zxq (a : z02) : zha (aDig a) := ⟨_,rfl⟩
theorem zys (ds : List Str) (x : z03) (hd : ∀ d ∈ ds,zha d) (hl : ds.length ≤ 1000) : ∀ k j n : Nat,j + k = ds.length → 3000 + k + 1 ≤ n → z5u n ds (ds.length : Int) (j : Int) x = some (.inr x)
  | 0,j,n,h,hn => by
    obtain ⟨n,rfl⟩ : ∃ m,n = m + 1 := ⟨n - 1,by omega⟩
    rw [z5u.eq_2,if_neg (by simp only [decide_eq_true_eq]; omega)]
  | k + 1,j,n,h,hn => by
    obtain ⟨n,rfl⟩ : ∃ m,n = m + 1 := ⟨n - 1,by omega⟩
    have hj : j < ds.length := by omega
    have e := (hd _ (List.getElem_mem hj)).is n (by omega)
    rw [z5u.eq_2,if_pos (by simp only [decide_eq_true_eq]; omega),if_pos ⟨by omega,by omega⟩,z9d [] ds j hj,wj (by omega)]
    refine (congrArg (fun x => x >>= _) e).trans ?_
    simp only [bs,Bool.not_true,Bool.false_eq_true,if_false]
    exact zys ds x hd hl k (j + 1) n (by omega) (by omega)
theorem ztv {α β : Type} {f : α → β} {l : List α} (h : (l.map f).Nodup) {i j : Nat} (hi : i < l.length) (hj : j < l.length) (hne : i ≠ j) : f l[i] ≠ f l[j] := fun e => by
  have := (List.getElem_inj (h₀ := by simpa using hi) (h₁ := by simpa using hj) h).1 (by simpa using e)
  exact hne this
theorem zyN (x : z03) (hnd : (x.z0e.map z02.z0L).Nodup) (hl : x.z0e.length ≤ 1000) (i : Nat) (hi : i < x.z0e.length) (p1 : List Int) (p2 p3 p4 : Int) (p5 p6 p7 : Bool) (p8 : Str) (p9 : List Str) (p10 : Int) (p11 p12 : Str) (p13 : Bool) : ∀ k j n : Nat,j + k = i → k + 1 ≤ n → z5A n (i : Int) p1 p2 p3 p4 p5 p6 p7 p8 p9 p10 p11 p12 p13 (i : Int) (j : Int) x = some (.inr (p1,p2,p3,p4,p5,p6,p7,p8,p9,p10,p11,p12,p13,x))
  | 0,j,n,h,hn => by
    obtain ⟨n,rfl⟩ : ∃ m,n = m + 1 := ⟨n - 1,by omega⟩
    rw [z5A.eq_2,if_neg (by simp only [decide_eq_true_eq]; omega)]
  | k + 1,j,n,h,hn => by
    obtain ⟨n,rfl⟩ : ∃ m,n = m + 1 := ⟨n - 1,by omega⟩
    have hj : j < x.z0e.length := by omega
    have hne := ztv hnd hj hi (by omega)
    rw [z5A.eq_2,if_pos (by simp only [decide_eq_true_eq]; omega),if_pos ⟨by omega,by omega⟩,if_pos ⟨by omega,by omega⟩,z9d _ x.z0e j hj,z9d _ x.z0e i hi,if_neg (by simpa using hne),wj (by omega)]
    exact zyN x hnd hl i hi p1 p2 p3 p4 p5 p6 p7 p8 p9 p10 p11 p12 p13 k (j + 1) n (by omega) (by omega)
theorem zyx (said i r h s : Str) (as : List z02) (g : Int) (es : List z06) (ha : z9L as) : ∀ k j n : Nat,j + k = as.length → 40002000 + 2 * k + 1 ≤ n → z5o n (zeB as.length) (as.length : Int) (j : Int) (z8j said i r h s as g es) = some (.inr (z8j said i r h s as g es))
  | 0,j,n,e,hn => by
    obtain ⟨n,rfl⟩ : ∃ m,n = m + 1 := ⟨n - 1,by omega⟩
    rw [z5o.eq_2,if_neg (by simp only [decide_eq_true_eq]; omega)]
  | k + 1,j,n,e,hn => by
    obtain ⟨n,rfl⟩ : ∃ m,n = m + 1 + 1 := ⟨n - 2,by omega⟩
    have hj : j < as.length := by omega
    have hle := ha.le
    have hdl : (z8j said i r h s as g es).z0k.length = as.length := List.length_map ..
    have hpl : (z8j said i r h s as g es).z0H.length = as.length := zd3 _
    have hd : rd [] (z8j said i r h s as g es).z0k (j : Int) = aDig as[j] := by
      rw [z9d [] _ j (by rw [hdl]; exact hj)]
      exact List.getElem_map ..
    have ih := zyx said i r h s as g es ha k (j + 1) n (by omega) (by omega)
    have jn : ∀ (p4 p5 : Int) (a b c : Bool),p4 = (j : Int) → z6H (n + 1) (j : Int) (j : Int) (zeB as.length) (as.length : Int) p4 p5 a b c (z8j said i r h s as g es) = some (.inr (z8j said i r h s as g es)) := fun p4 p5 a b c e4 => by
      subst e4
      rw [z6H.eq_2,if_pos (show within (j : Int) (z8j said i r h s as g es).z0e.length from ⟨by omega,by show (j : Int) < (as.length : Int); omega⟩)]
      refine (congrArg (fun x => x >>= _) (show z6r n (rd z02.dft as (j : Int)) = some (aDig as[j],0) by rw [z9d _ as j hj]; exact zsh n _ (ha.all _ (List.getElem_mem hj)) (by omega))).trans ?_
      simp only [bs]
      rw [if_neg (by decide),if_pos (by rw [hdl]; exact ⟨by omega,by omega⟩),hd,if_neg (by simp)]
      refine (congrArg (fun x => x >>= _) (zyN (z8j said i r h s as g es) ha.nd (by show as.length ≤ _; omega) j hj _ _ _ _ _ _ _ _ _ _ _ _ _ j 0 n (by omega) (by omega))).trans ?_
      simp only [bs]
      rw [wj (by omega)]
      exact ih
    rw [z5o.eq_2,if_pos (by simp only [decide_eq_true_eq]; omega),if_pos (by rw [zd3]; exact ⟨by omega,by omega⟩),zsN _ j hj,if_neg (by rw [hdl]; simp only [Bool.or_eq_true,decide_eq_true_eq]; omega)]
    by_cases h0 : j = 0
    · subst h0
      rw [if_neg (by decide)]
      exact jn _ _ _ _ _ rfl
    · rw [if_pos (by simp only [decide_eq_true_eq]; omega)]
      have e1 : z07 ((j : Int) - 1) = ((j - 1 : Nat) : Int) := by rw [wi64 (by omega) (by omega)]; omega
      have e2 : rd 0 (z8j said i r h s as g es).z0H (z07 ((j : Int) - 1)) = ((j - 1 : Nat) : Int) := by
        rw [e1]; exact zsN _ _ (by omega)
      rw [e2,if_pos (by rw [e1,hpl]; exact ⟨by omega,by omega⟩),if_neg (by simp only [decide_eq_true_eq]; omega)]
      exact jn _ _ _ _ _ rfl
theorem zyP (x : z03) (y : z06) (i : Nat) (hi : i < x.z0z.length) (hy : y = x.z0z[i]) (hnd : (x.z0z.map z06.z0L).Nodup) (hl : x.z0z.length ≤ 1000) (p0 : List z06) (p1 p2 : Int) (p3 : Str) (p4 p5 : Bool) (p6 : Str) (p7 p8 p9 : Bool) : ∀ k j n : Nat,j + k = i → k + 1 ≤ n → z5H n p0 p1 p2 p3 p4 p5 p6 p7 p8 p9 (i : Int) (j : Int) x y = some (.inr (p0,p1,p2,p3,p4,p5,p6,p7,p8,p9,x,y))
  | 0,j,n,h,hn => by
    obtain ⟨n,rfl⟩ : ∃ m,n = m + 1 := ⟨n - 1,by omega⟩
    rw [z5H.eq_2,if_neg (by simp only [decide_eq_true_eq]; omega)]
  | k + 1,j,n,h,hn => by
    obtain ⟨n,rfl⟩ : ∃ m,n = m + 1 := ⟨n - 1,by omega⟩
    have hj : j < x.z0z.length := by omega
    have hne := ztv hnd hj hi (by omega)
    rw [z5H.eq_2,if_pos (by simp only [decide_eq_true_eq]; omega),if_pos ⟨by omega,by omega⟩,z9d _ x.z0z j hj,if_neg (by rw [hy]; simpa using hne),wj (by omega)]
    exact zyP x y i hi hy hnd hl p0 p1 p2 p3 p4 p5 p6 p7 p8 p9 k (j + 1) n (by omega) (by omega)
theorem zyp (x : z03) (he : zd1 x.z0z) : ∀ k j n : Nat,j + k = x.z0z.length → 4000 + 2 * k + 1 ≤ n → z5C n x.z0z (x.z0z.length : Int) (j : Int) x = some (.inr x)
  | 0,j,n,e,hn => by
    obtain ⟨n,rfl⟩ : ∃ m,n = m + 1 := ⟨n - 1,by omega⟩
    rw [z5C.eq_2,if_neg (by simp only [decide_eq_true_eq]; omega)]
  | k + 1,j,n,e,hn => by
    obtain ⟨n,rfl⟩ : ∃ m,n = m + 1 + 1 := ⟨n - 2,by omega⟩
    have hj : j < x.z0z.length := by omega
    have hle := he.le
    have ok := he.all _ (List.getElem_mem hj)
    have hb := (zyu _ ok.name).b (n + 1 - 100)
    rw [show n + 1 - 100 + 100 = n + 1 by omega] at hb
    have ih := zyp x he k (j + 1) n (by omega) (by omega)
    have jn : ∀ (p4 : Str) (p5 p6 : Bool) (p7 : Str) (p8 p9 p10 : Bool),z6D (n + 1) (j : Int) x.z0z (x.z0z.length : Int) (j : Int) p4 p5 p6 p7 p8 p9 p10 x (x.z0z[j]) = some (.inr x) := fun p4 p5 p6 p7 p8 p9 p10 => by
      rw [z6D.eq_2]
      refine (congrArg (fun x => x >>= _) (zyP x _ j hj rfl he.nd (by omega) _ _ _ _ _ _ _ _ _ _ j 0 n (by omega) (by omega))).trans ?_
      simp only [bs]
      rw [wj (by omega)]
      exact ih
    rw [z5C.eq_2,if_pos (by simp only [decide_eq_true_eq]; omega),if_pos ⟨by omega,by omega⟩,z9d _ x.z0z j hj,hb]
    simp only [bs,Bool.not_true,Bool.false_eq_true,if_false]
    have hf : z2G (n + 1) (x.z0z[j]).zaB = some true := zha.is ok.far _ (by omega)
    rw [hf]
    simp only [bs,Bool.not_true,Bool.false_eq_true,if_false]
    have o0 := ok.o0; have o1 := ok.o1
    rcases ok.sch with hs | hs
    · rw [if_neg (by rw [hs]; decide),if_neg (by simp only [Bool.or_eq_true,decide_eq_true_eq]; omega)]
      exact jn _ _ _ _ _ _ _
    · have hs : zha _ := hs
      rw [if_pos (by simpa using hs.ne),hs.is _ (by omega)]
      simp only [bs,Bool.not_true,Bool.false_or]
      rw [if_neg (by simp only [Bool.or_eq_true,decide_eq_true_eq]; omega)]
      exact jn _ _ _ _ _ _ _
theorem zAO (n : Nat) (said i r h s : Str) (as : List z02) (g : Int) (es : List z06) (ok : ziq i r h s as g es) (hn : 41000000 ≤ n) : zcF n (z8j said i r h s as g es) = some true := by
  have hla := ok.ha.le; have hle := ok.he.le
  have j1 : z8i n (z8j said i r h s as g es) = some true := by
    have hdl : (z8j said i r h s as g es).z0k.length = as.length := List.length_map ..
    have hpl : (z8j said i r h s as g es).z0H.length = as.length := zd3 _
    have f1 := zys (as.map aDig) (z8j said i r h s as g es) (fun d hd => by
      obtain ⟨a,_,rfl⟩ := List.mem_map.1 hd
      exact zxq a) (by simp; omega) as.length 0 n (by simp) (by omega)
    have f2 := zyx said i r h s as g es ok.ha as.length 0 n (by omega) (by omega)
    have f4 := zyp (z8j said i r h s as g es) ok.he es.length 0 n (Nat.zero_add _) (by omega)
    rw [z8i,if_neg (by
      rw [hdl,hpl]
      show ¬ ((decide ((as.length : Int) > 32) || decide ((es.length : Int) > 8)) || ((as.length : Int) != (as.length : Int))) = true
      simp; omega)]
    refine (congrArg (fun x => x >>= _) f1).trans ?_
    simp only [bs]
    rw [hpl]
    refine (congrArg (fun x => x >>= _) f2).trans ?_
    simp only [bs]
    refine (congrArg (fun x => x >>= _) f4).trans ?_
    simp only [bs]
    rcases ok.hg with ⟨he,hg⟩ | ⟨he,g0,g1⟩
    · rw [if_pos (by show ((es.length : Int) == 0) = true; rw [he]; rfl)]
      show some (g == 0) = _
      rw [hg]; rfl
    · rw [if_neg (by
        show ¬ ((es.length : Int) == 0) = true
        have : es.length ≠ 0 := fun e => he (List.eq_nil_of_length_eq_zero e)
        simp only [beq_iff_eq]; omega)]
      show some (decide (g ≥ 1) && decide (g ≤ 4)) = _
      rw [decide_eq_true g0,decide_eq_true g1]; rfl
  rw [zcF]
  refine (congrArg (fun x => x >>= _) (ok.hi.is n (by omega))).trans ?_
  simp only [bs,Bool.not_true,Bool.false_eq_true,if_false]
  refine (congrArg (fun x => x >>= _) (ok.hr.is n (by omega))).trans ?_
  simp only [bs,Bool.not_true,Bool.false_eq_true,if_false]
  refine (congrArg (fun x => x >>= _) (ok.hs.is n (by omega))).trans ?_
  simp only [bs,Bool.not_true,Bool.false_eq_true,if_false]
  rcases ok.hh with hh | hh
  · rw [if_neg (by show ¬ (!(h == [])) = true; rw [hh]; decide)]
    exact j1
  · rw [if_pos (by show (!(h == [])) = true; simpa using hh.ne)]
    refine (congrArg (fun x => x >>= _) (hh.is n (by omega))).trans ?_
    simp only [bs,Bool.not_true,Bool.false_eq_true,if_false]
    exact j1
end Go.Proofs.YtchpeafokjmmeaaGreatDoorQ
set_option maxRecDepth 100000
set_option maxHeartbeats 2000000
namespace Go.Proofs.YtchpeafokjmmeaaGreatDoorQ
open Go Go.PE
def zxH (e : z06) : z00 := zzN e.z0L e.zaB e.z0s e.z2h
theorem zAa {s : Str} (h : s = [] ∨ zha s) : dtx s := by
  rcases h with rfl | h
  · exact zBG
  · exact h.dtx
theorem zlU.name' {e : z06} (h : zlU e) : dtx e.z0L := ⟨(zyu _ h.name).plain,by have := (zyu _ h.name).len; omega⟩
theorem zlU.far' {e : z06} (h : zlU e) : dtx e.zaB := zha.dtx h.far
theorem zlU.sch' {e : z06} (h : zlU e) : dtx e.z0s := zAa h.sch
theorem zxh (d : Nat) {e : z06} (h : zlU e) : wf (d + 2) (zxH e) := zzV d h.name' h.far' h.sch' (by have := h.o0; omega) (by have := h.o1; omega)
theorem zx7 (es : List z06) (x : z03) (he : zd1 es) : ∀ k j n : Nat,j + k = es.length → 20000000 + k + 1 ≤ n → z1V n es (es.length : Int) (j : Int) x ((es.take j).map zxH) = some (x,es.map zxH)
  | 0,j,n,e,hn => by
    obtain ⟨n,rfl⟩ : ∃ m,n = m + 1 := ⟨n - 1,by omega⟩
    rw [z1V.eq_2,if_neg (by simp only [decide_eq_true_eq]; omega),List.take_of_length_le (by omega)]
  | k + 1,j,n,e,hn => by
    obtain ⟨n,rfl⟩ : ∃ m,n = m + 1 := ⟨n - 1,by omega⟩
    have hj : j < es.length := by omega
    have hle := he.le
    have ok := he.all _ (List.getElem_mem hj)
    have hm := zwc n 2 EN [txt es[j].z0L,txt es[j].zaB,txt es[j].z0s,num es[j].z2h] (zxh 0 ok) (by omega) (by omega)
    have ih := zx7 es x he k (j + 1) n (by omega) (by omega)
    rw [List.take_succ_eq_append_getElem hj,List.map_append,List.map_cons,List.map_nil] at ih
    rw [z1V.eq_2,if_pos (by simp only [decide_eq_true_eq]; omega),if_pos ⟨by omega,by omega⟩,z9d _ es j hj,wj (by omega),z0M]
    simp only [bs]
    rw [z0M]
    simp only [bs]
    rw [z0M]
    simp only [bs]
    rw [z5s]
    simp only [bs]
    refine (congrArg (fun x => x >>= _) hm).trans ?_
    simp only [bs]
    rw [if_pos (by show _ ≤ _; simp only [List.length_map,List.length_take]; omega)]
    exact ih
theorem zx6 (ds : List Str) (hl : ds.length ≤ 1000) : ∀ k j n : Nat,j + k = ds.length → k + 1 ≤ n → z4P n ds (ds.length : Int) (j : Int) ((ds.take j).map txt) = some (ds.map txt)
  | 0,j,n,e,hn => by
    obtain ⟨n,rfl⟩ : ∃ m,n = m + 1 := ⟨n - 1,by omega⟩
    rw [z4P.eq_2,if_neg (by simp only [decide_eq_true_eq]; omega),List.take_of_length_le (by omega)]
  | k + 1,j,n,e,hn => by
    obtain ⟨n,rfl⟩ : ∃ m,n = m + 1 := ⟨n - 1,by omega⟩
    have hj : j < ds.length := by omega
    have ih := zx6 ds hl k (j + 1) n (by omega) (by omega)
    rw [List.take_succ_eq_append_getElem hj,List.map_append,List.map_cons,List.map_nil] at ih
    rw [z4P.eq_2,if_pos (by simp only [decide_eq_true_eq]; omega),if_pos ⟨by omega,by omega⟩,z9d _ ds j hj,wj (by omega),z0M]
    simp only [bs]
    rw [if_pos (by show _ ≤ _; simp only [List.length_map,List.length_take]; omega)]
    exact ih
def zeU (i r h s : Str) (as : List z02) (g : Int) (es : List z06) : List z00 := zvH i r h s (as.map aDig) g (es.map zxH)
theorem ziq.rest {i r h s : Str} {as : List z02} {g : Int} {es : List z06} (ok : ziq i r h s as g es) : Rest CN (zeU i r h s as g es) := by
  have h1 := ok.ha.le; have h2 := ok.he.le
  have hg : 0 ≤ g ∧ g ≤ 10 := by rcases ok.hg with ⟨_,h⟩ | ⟨_,h,h'⟩ <;> omega
  refine zzY ok.hi.dtx ok.hr.dtx (zAa ok.hh) ok.hs.dtx (fun x hx => ?_) (by simp; omega) hg.1 hg.2 (fun x hx => ?_) (by simp; omega)
  · obtain ⟨a,_,rfl⟩ := List.mem_map.1 hx
    exact (zxq a).dtx
  · obtain ⟨e,he,rfl⟩ := List.mem_map.1 hx
    have o := ok.he.all e he
    exact ⟨zxh 4 o,zym 4 o.name' o.far' o.sch' (by have := o.o0; omega) (by have := o.o1; omega)⟩
theorem zAX (n : Nat) (i r h s : Str) (as : List z02) (g : Int) (es : List z06) (ok : ziq i r h s as g es) (hn : 21000000 ≤ n) : z4R n (z8j [] i r h s as g es) = some (mapX CN (zeU i r h s as g es) []) := by
  have h1 := ok.ha.le; have h2 := ok.he.le
  have hr := ok.rest
  have l1 := zx7 es (z8j [] i r h s as g es) ok.he es.length 0 n (by omega) (by omega)
  have t1 := zx6 (as.map aDig) (by simp; omega) as.length 0 n (by simp) (by omega)
  have we : wf 7 (lst (es.map zxH)) := hr.all _ (by simp [zeU,zvH])
  have l2 := zA1 n 7 (es.map zxH) we (by omega) (by omega)
  have m := zwc n 8 _ _ (hr.wfX (fun b hb => by cases hb) (by simp : ([] : Str).length ≤ 65536)) (by omega) (by omega)
  rw [z4R]
  refine (congrArg (fun x => x >>= _) l1).trans ?_
  simp only [bs]
  rw [z0M]
  simp only [bs]
  rw [z0M]
  simp only [bs]
  rw [z0M]
  simp only [bs]
  rw [z0M]
  simp only [bs]
  rw [z0M]
  simp only [bs]
  rw [zdd]
  refine (congrArg (fun x => (x >>= _) >>= _) t1).trans ?_
  simp only [bs]
  rw [z5s]
  simp only [bs]
  refine (congrArg (fun x => x >>= _) l2).trans ?_
  simp only [bs]
  refine (congrArg (fun x => x >>= _) m).trans ?_
  simp only [bs,mapX]
def ziJ (i r h s : Str) (as : List z02) (g : Int) (es : List z06) : Str := zvS CRED CN (zeU i r h s as g es)
theorem zAL (n : Nat) (i r h s : Str) (as : List z02) (g : Int) (es : List z06) (ok : ziq i r h s as g es) (hn : 60000000 ≤ n) : zf8 n (z8j [] i r h s as g es) = some (textF CRED CN (zeU i r h s as g es),ziJ i r h s as g es,0) := by
  have hr := ok.rest
  have p := zwY n CRED zyc zy5 CN _ hr [] (fun b hb => by cases hb) (by simp) (by omega)
  have hd := ziS (strOf (encF 8 (mapY CN (zeU i r h s as g es) (verF CRED (zby CN (zeU i r h s as g es))) dummy)))
  have hdl := zg0 (strOf (encF 8 (mapY CN (zeU i r h s as g es) (verF CRED (zby CN (zeU i r h s as g es))) dummy)))
  have g1 := zCh n (nV :: nD :: CN) (txt (verF CRED (zby CN (zeU i r h s as g es))) :: txt (zvS CRED CN (zeU i r h s as g es)) :: zeU i r h s as g es) nD 1 (txt (zvS CRED CN (zeU i r h s as g es))) (by simp [hr.len]) (by decide) rfl (fun j hj => by
    have h0 : j = 0 := by omega
    subst h0
    decide) rfl (zmH 8 _ (zfz 7 _ hd.asc (by show (digF _).length ≤ _; omega))) (by omega)
  rw [zf8,zAX n i r h s as g es ok (by omega)]
  simp only [bs]
  refine (congrArg (fun x => x >>= _) p).trans ?_
  simp only [bs]
  rw [if_neg (by decide)]
  refine (congrArg (fun x => x >>= _) g1).trans ?_
  simp only [bs]
  rfl
theorem ztz (v : z00) : (⟨v.z0i,v.z0K,v.z0n,v.z0D,v.z0d,v.z09⟩ : z00) = v := by cases v; rfl
theorem zxt (as : List z02) (ha : z9L as) (p3 p4 p5 p6 p7 : Str) (p8 : Int) (p9 : List Str) (p10 : List Int) (p12 : List z06) : ∀ k j n : Nat,j + k = as.length → 20000000 + k + 1 ≤ n → z5B n as (as.length : Int) (j : Int) p3 p4 p5 p6 p7 p8 p9 p10 (as.take j) p12 = some (p3,p4,p5,p6,p7,p8,p9,p10,as,p12)
  | 0,j,n,e,hn => by
    obtain ⟨n,rfl⟩ : ∃ m,n = m + 1 := ⟨n - 1,by omega⟩
    rw [z5B.eq_2,if_neg (by simp only [decide_eq_true_eq]; omega),List.take_of_length_le (by omega)]
  | k + 1,j,n,e,hn => by
    obtain ⟨n,rfl⟩ : ∃ m,n = m + 1 := ⟨n - 1,by omega⟩
    have hj : j < as.length := by omega
    have hle := ha.le
    have ok := ha.all _ (List.getElem_mem hj)
    have c := zkh 8 n (as[j].z0j) (zmH 8 _ (wf_v ok.value)) (by omega)
    have ih := zxt as ha p3 p4 p5 p6 p7 p8 p9 p10 p12 k (j + 1) n (by omega) (by omega)
    rw [List.take_succ_eq_append_getElem hj] at ih
    rw [z5B.eq_2,if_pos (by simp only [decide_eq_true_eq]; omega),if_pos ⟨by omega,by omega⟩,z9d _ as j hj,wj (by omega),ztz]
    refine (congrArg (fun x => x >>= _) c).trans ?_
    simp only [bs]
    rw [if_pos (by show _ ≤ _; simp only [List.length_take]; omega),ztz]
    exact ih
theorem zzo (n : Nat) (i r h s : Str) (as : List z02) (g : Int) (es : List z06) (ok : ziq i r h s as g es) (hn : 21000000 ≤ n) : zcE n (z8j [] i r h s as g es) = some (z8j [] i r h s as g es) := by
  have h1 := ok.ha.le; have h2 := ok.he.le
  have hdl : (z8j [] i r h s as g es).z0k.length = as.length := List.length_map ..
  have hpl : (z8j [] i r h s as g es).z0H.length = as.length := zd3 _
  have l1 := zxt as ok.ha [] i r h s g (as.map aDig) (zeB as.length) es as.length 0 n (by omega) (by omega)
  rw [zcE,if_pos (by show _ ≤ _; rw [hdl]; omega),if_pos (by show _ ≤ _; rw [hpl]; omega),if_pos (by show es.length * 56 ≤ _; omega)]
  refine (congrArg (fun x => x >>= _) l1).trans ?_
  simp only [bs]
  rfl
theorem zzk (n : Nat) (i r h s : Str) (as : List z02) (g : Int) (es : List z06) (ok : ziq i r h s as g es) (hn : 60000000 ≤ n) : zcG n (z8j [] i r h s as g es) = some (z8j (ziJ i r h s as g es) i r h s as g es,0) := by
  rw [zcG,zAO n [] i r h s as g es ok (by omega)]
  simp only [bs,Bool.not_true,Bool.false_eq_true,if_false]
  rw [zAL n i r h s as g es ok hn]
  simp only [bs]
  rw [if_neg (by decide),zzo n i r h s as g es ok (by omega)]
  simp only [bs]
  rfl
theorem zyw (as : List z02) (ha : z9L as) (p3 p4 p5 p6 : Str) (p8 : Int) (p9 : List z06) : ∀ k j n : Nat,j + k = as.length → 40000000 + k + 1 ≤ n → z2E n as (as.length : Int) (j : Int) p3 p4 p5 p6 as p8 p9 ((as.take j).map aDig) ((List.range j).map (fun i => ((i : Nat) : Int))) = some (p3,p4,p5,p6,as,p8,p9,as.map aDig,zeB as.length)
  | 0,j,n,e,hn => by
    obtain ⟨n,rfl⟩ : ∃ m,n = m + 1 := ⟨n - 1,by omega⟩
    obtain rfl : j = as.length := by omega
    rw [z2E.eq_2,if_neg (by simp only [decide_eq_true_eq]; omega),List.take_of_length_le (by omega),zeB]
  | k + 1,j,n,e,hn => by
    obtain ⟨n,rfl⟩ : ∃ m,n = m + 1 := ⟨n - 1,by omega⟩
    have hj : j < as.length := by omega
    have hle := ha.le
    have ok := ha.all _ (List.getElem_mem hj)
    have d := zsh n _ ok (by omega)
    have ih := zyw as ha p3 p4 p5 p6 p8 p9 k (j + 1) n (by omega) (by omega)
    rw [List.take_succ_eq_append_getElem hj,List.map_append,List.map_cons,List.map_nil,List.range_succ,List.map_append,List.map_cons,List.map_nil] at ih
    rw [z2E.eq_2,if_pos (by simp only [decide_eq_true_eq]; omega),if_pos ⟨by omega,by omega⟩,z9d _ as j hj,wj (by omega)]
    refine (congrArg (fun x => x >>= _) d).trans ?_
    simp only [bs]
    rw [if_pos (by show _ ≤ _; simp only [List.length_map,List.length_take]; omega),if_pos (by show _ ≤ _; simp only [List.length_map,List.length_range]; omega)]
    exact ih
theorem zzF (n : Nat) (i r h s : Str) (as : List z02) (g : Int) (es : List z06) (ok : ziq i r h s as g es) (hn : 60000000 ≤ n) : z6l n i r h s as g es = some (z8j (ziJ i r h s as g es) i r h s as g es) := by
  have h1 := ok.ha.le
  have l1 := zyw as ok.ha i r h s g es as.length 0 n (by omega) (by omega)
  rw [z6l]
  refine (congrArg (fun x => x >>= _) l1).trans ?_
  simp only [bs]
  refine (congrArg (fun x => x >>= _) (zzk n i r h s as g es ok hn)).trans ?_
  simp only [bs]
theorem zwL (l : List Int) (hl : l.length ≤ 1000) (as : List z02) : ∀ (k j n i : Nat) (acc : List z06),j + k = 2 → 3000000 + k + 1 ≤ n → (∀ a ∈ acc,zlU a) → (acc.map z06.z0L).Sublist (zm6.take j) →
    ∃ (r : List z06) (i' : Nat),z4E n as (j : Int) l (i : Int) acc = some (as,l,(i' : Int),r) ∧ zd1 r
  | 0,j,n,i,acc,e,hn,ha,hs => by
    obtain ⟨n,rfl⟩ : ∃ m,n = m + 1 := ⟨n - 1,by omega⟩
    refine ⟨acc,i,?_,ha,hs.trans (List.take_sublist j zm6)⟩
    rw [z4E.eq_2,if_neg (by simp; omega)]
  | k + 1,j,n,i,acc,e,hn,ha,hs => by
    obtain ⟨n,rfl⟩ : ∃ m,n = m + 1 := ⟨n - 1,by omega⟩
    have hj : j < zm6.length := by simp only [zm6,List.length_cons,List.length_nil]; omega
    have hla : acc.length ≤ j := by have := hs.length_le; rw [List.length_map,List.length_take] at this; omega
    obtain ⟨v,i1,e1,_,_⟩ := zgv 3 (by omega) (by omega) n l i hl
    rw [z4E.eq_2,if_pos (by simp; omega),if_pos ⟨by omega,by simp; omega⟩,e1]
    simp only [bs]
    rw [wj (by omega)]
    have hup : (zm6.take j).Sublist (zm6.take (j + 1)) := by rw [List.take_succ_eq_append_getElem hj]; exact List.sublist_append_left _ _
    by_cases hv : (v == 0) = true
    · rw [if_pos hv]
      obtain ⟨x,i2,e2,_⟩ := zqd n l i1 hl (by omega)
      obtain ⟨y,i3,e3,_⟩ := zqd n l i2 hl (by omega)
      obtain ⟨w,i4,e4,hw⟩ := zuf n [[],digF y] l i3 hl (by simp) (by simp)
      obtain ⟨o,i5,e5,o0,o1⟩ := zgv 3 (by omega) (by omega) n l i4 hl
      rw [e2]
      simp only [bs]
      rw [e3]
      simp only [bs]
      rw [e4]
      simp only [bs]
      rw [e5]
      simp only [bs]
      rw [if_pos (by show _ ≤ _; simp; omega),← zm6,z9d [] zm6 j hj,wi64 (by omega) (by omega)]
      refine zwL l hl as k (j + 1) n i5 _ (by omega) (by omega) (fun a h => ?_) ?_
      · rcases List.mem_append.1 h with h | h
        · exact ha a h
        · simp only [List.mem_cons,List.not_mem_nil,or_false] at h
          subst h
          refine ⟨List.getElem_mem hj,⟨x,rfl⟩,?_,by show (1 : Int) ≤ 1 + o; omega,by show 1 + o ≤ (3 : Int); omega⟩
          simp only [List.mem_cons,List.not_mem_nil,or_false] at hw
          rcases hw with rfl | rfl
          · exact .inl rfl
          · exact .inr ⟨y,rfl⟩
      · rw [List.map_append,List.take_succ_eq_append_getElem hj]
        exact hs.append (List.Sublist.refl _)
    · rw [if_neg hv]
      exact zwL l hl as k (j + 1) n i1 acc (by omega) (by omega) ha (hs.trans hup)
theorem zyH (n : Nat) (l : List Int) (hl : l.length ≤ 1000) (as : List z02) (ha : z9L as) (es : List z06) (he : zd1 es) (g : Int) (hg : (es = [] ∧ g = 0) ∨ (es ≠ [] ∧ 1 ≤ g ∧ g ≤ 4)) (i : Nat) (hn : 60000000 ≤ n) :
    ∃ a b c d i',ziq a b c d as g es ∧ z9o n as g l (i : Int) es = some (z8j (ziJ a b c d as g es) a b c d as g es,as,l,((i' : Nat) : Int)) := by
  obtain ⟨a,i1,e1,_⟩ := zqd n l i hl (by omega)
  obtain ⟨b,i2,e2,_⟩ := zqd n l i1 hl (by omega)
  obtain ⟨c,i3,e3,_⟩ := zqd n l i2 hl (by omega)
  obtain ⟨w,i4,e4,hw⟩ := zuf n [[],digF c] l i3 hl (by simp) (by simp)
  obtain ⟨d,i5,e5,_⟩ := zqd n l i4 hl (by omega)
  have ok : ziq (digF a) (digF b) w (digF d) as g es := ⟨⟨a,rfl⟩,⟨b,rfl⟩,by
    simp only [List.mem_cons,List.not_mem_nil,or_false] at hw
    rcases hw with rfl | rfl
    · exact .inl rfl
    · exact .inr ⟨c,rfl⟩,⟨d,rfl⟩,ha,he,hg⟩
  refine ⟨digF a,digF b,w,digF d,i5,ok,?_⟩
  rw [z9o,e1]
  simp only [bs]
  rw [e2]
  simp only [bs]
  rw [e3]
  simp only [bs]
  rw [e4]
  simp only [bs]
  rw [e5]
  simp only [bs]
  refine (congrArg (fun x => x >>= _) (zzF n _ _ _ _ as g es ok hn)).trans ?_
  simp only [bs]
theorem zBy (n : Nat) (l : List Int) (i : Nat) (hl : l.length ≤ 1000) (hn : 60000000 ≤ n) :
    ∃ a b c d as g es i',ziq a b c d as g es ∧ zdB n l (i : Int) = some (z8j (ziJ a b c d as g es) a b c d as g es,as,l,((i' : Nat) : Int)) := by
  obtain ⟨as,i1,e1,ha⟩ := zzG n l i hl (by omega)
  obtain ⟨es,i2,e2,he⟩ := zwL l hl as 2 0 n i1 [] rfl (by omega) (fun a h => by cases h) (List.nil_sublist _)
  have e2' : z4E n as 0 l (i1 : Int) [] = some (as,l,(i2 : Int),es) := e2
  rw [zdB,e1]
  simp only [bs]
  rw [e2']
  simp only [bs]
  by_cases h : es = []
  · rw [if_neg (by simp [h])]
    obtain ⟨a,b,c,d,i3,ok,e3⟩ := zyH n l hl as ha es he 0 (.inl ⟨h,rfl⟩) i2 hn
    exact ⟨a,b,c,d,as,0,es,i3,ok,e3⟩
  · have : es.length ≠ 0 := fun e => h (List.eq_nil_of_length_eq_zero e)
    obtain ⟨g,i3,e3,g0,g1⟩ := zgv 4 (by omega) (by omega) n l i2 hl
    rw [if_pos (by simp only [decide_eq_true_eq]; omega),e3]
    simp only [bs]
    rw [wi64 (by omega) (by omega)]
    obtain ⟨a,b,c,d,i4,ok,e4⟩ := zyH n l hl as ha es he (1 + g) (.inr ⟨h,by omega,by omega⟩) i3 hn
    exact ⟨a,b,c,d,as,1 + g,es,i4,ok,e4⟩
end Go.Proofs.YtchpeafokjmmeaaGreatDoorQ
set_option maxRecDepth 100000
set_option maxHeartbeats 2000000
namespace Go.Proofs.YtchpeafokjmmeaaGreatDoorQ
open Go Go.PE
theorem zAb (as : List z02) (i : Nat) (hi : i < as.length) (hnd : (as.map z02.z0L).Nodup) (hl : as.length ≤ 1000) : ∀ k j n : Nat,j + k = i → k + 1 ≤ n → z1w n (as[i].z0L) as (as.length : Int) (j : Int) = some (.inl as[i].z0j)
  | 0,j,n,e,hn => by
    obtain rfl : j = i := by omega
    obtain ⟨n,rfl⟩ : ∃ m,n = m + 1 := ⟨n - 1,by omega⟩
    rw [z1w.eq_2,if_pos (by simp only [decide_eq_true_eq]; omega),if_pos ⟨by omega,by omega⟩,z9d _ as j hi,if_pos (by simp),ztz]
  | k + 1,j,n,e,hn => by
    obtain ⟨n,rfl⟩ : ∃ m,n = m + 1 := ⟨n - 1,by omega⟩
    have hj : j < as.length := by omega
    have hne := ztv hnd hj hi (by omega)
    rw [z1w.eq_2,if_pos (by simp only [decide_eq_true_eq]; omega),if_pos ⟨by omega,by omega⟩,z9d _ as j hj,if_neg (by simpa using hne),wj (by omega)]
    exact zAb as i hi hnd hl k (j + 1) n (by omega) (by omega)
theorem zuY (as : List z02) (s : Str) (hs : ∀ a ∈ as,a.z0L ≠ s) (hl : as.length ≤ 1000) : ∀ k j n : Nat,j + k = as.length → k + 1 ≤ n → z1w n s as (as.length : Int) (j : Int) = some (.inr ())
  | 0,j,n,e,hn => by
    obtain ⟨n,rfl⟩ : ∃ m,n = m + 1 := ⟨n - 1,by omega⟩
    rw [z1w.eq_2,if_neg (by simp only [decide_eq_true_eq]; omega)]
  | k + 1,j,n,e,hn => by
    obtain ⟨n,rfl⟩ : ∃ m,n = m + 1 := ⟨n - 1,by omega⟩
    have hj : j < as.length := by omega
    have hne := hs _ (List.getElem_mem hj)
    rw [z1w.eq_2,if_pos (by simp only [decide_eq_true_eq]; omega),if_pos ⟨by omega,by omega⟩,z9d _ as j hj,if_neg (by simpa using hne),wj (by omega)]
    exact zuY as s hs hl k (j + 1) n (by omega) (by omega)
theorem zD9 (n : Nat) (c : z03) (as : List z02) (hc : c.z0e = as) (ha : z9L as) (i : Nat) (hi : i < as.length) (hn : 2000 ≤ n) : z3d n c (as[i].z0L) = some (as[i].z0j,true) := by
  subst hc
  have hle := ha.le
  rw [z3d]
  refine (congrArg (fun x => x >>= _) (zAb _ i hi ha.nd (by omega) i 0 n (by omega) (by omega))).trans ?_
  simp only [bs]
theorem zuP (n : Nat) (c : z03) (s : Str) (hs : ∀ a ∈ c.z0e,a.z0L ≠ s) (hl : c.z0e.length ≤ 1000) (hn : 2000 ≤ n) : z3d n c s = some (⟨0,false,0,[],[],[]⟩,false) := by
  rw [z3d]
  refine (congrArg (fun x => x >>= _) (zuY _ s hs hl c.z0e.length 0 n (by omega) (by omega))).trans ?_
  simp only [bs]
theorem zxI (n : Nat) (said i r h s : Str) (as : List z02) (g : Int) (es : List z06) (ha : z9L as) (he : zd1 es) : z3j n (z8j said i r h s as g es) = some ⟨said,i,r,h,s,as.map aDig,[],[],g,es⟩ := by
  have h1 := ha.le; have h2 := he.le
  have c1 : z19 (as.map aDig) = some (as.map aDig) := zsu _ (by simp; omega)
  have c2 : z7Q ([] : List Int) = some [] := if_pos (by show _ ≤ _; simp)
  have c3 : z1Y ([] : List z02) = some [] := if_pos (by show _ ≤ _; simp)
  have c4 : z3H es = some es := if_pos (by show _ ≤ _; omega)
  rw [z3j,z6d]
  refine (congrArg (fun x => (x >>= _) >>= _) c1).trans ?_
  simp only [bs]
  refine (congrArg (fun x => (x >>= _) >>= _) c2).trans ?_
  simp only [bs]
  refine (congrArg (fun x => (x >>= _) >>= _) c3).trans ?_
  simp only [bs]
  refine (congrArg (fun x => (x >>= _) >>= _) c4).trans ?_
  simp only [bs]
  rfl
theorem zzD (n : Nat) (v : z00) (h : zaA v) (hn : 10 ≤ n) : z8a n v v = some true := by
  obtain ⟨n,rfl⟩ : ∃ m,n = m + 2 := ⟨n - 2,by omega⟩
  have hz : v.z0d = [] ∧ v.z09 = [] := by rcases h with ⟨s,rfl,_⟩ | ⟨b,rfl⟩ | ⟨k,rfl,_⟩ <;> exact ⟨rfl,rfl⟩
  rw [show n + 2 = (n + 1) + 1 from rfl,z8a,if_neg (by simp),hz.1,z8b.eq_2,if_neg (by decide)]
  simp only [bs]
  rw [hz.2,z7Y,if_neg (by decide)]
  simp only [bs]
theorem zxX (n : Nat) (hn : 100000 ≤ n) : zb4 n = some true := by
  obtain ⟨m,rfl⟩ : ∃ m,n = m + 1000 := ⟨n - 1000,by omega⟩
  kernel_rfl
theorem zz7 (said i r h s : Str) (as : List z02) (g : Int) (es : List z06) (ha : z9L as) (he : zd1 es) : ∀ k j n : Nat,j + k = as.length → 40000000 + k + 1 ≤ n → z1l n as (as.length : Int) (j : Int) (z8j said i r h s as g es) = some (.inr (z8j said i r h s as g es))
  | 0,j,n,e,hn => by
    obtain ⟨n,rfl⟩ : ∃ m,n = m + 1 := ⟨n - 1,by omega⟩
    rw [z1l.eq_2,if_neg (by simp only [decide_eq_true_eq]; omega)]
  | k + 1,j,n,e,hn => by
    obtain ⟨n,rfl⟩ : ∃ m,n = m + 1 := ⟨n - 1,by omega⟩
    have hj : j < as.length := by omega
    have hle := ha.le
    have ok := ha.all _ (List.getElem_mem hj)
    have g1 := zD9 n (z8j said i r h s as g es) as rfl ha j hj (by omega)
    have g2 := zuP n ⟨said,i,r,h,s,as.map aDig,[],[],g,es⟩ (as[j].z0L) (fun a h => by cases h) (by simp) (by omega)
    have hd : rd [] (z8j said i r h s as g es).z0k (j : Int) = aDig as[j] := by
      rw [z9d [] _ j (by show j < (as.map aDig).length; rw [List.length_map]; exact hj)]
      exact List.getElem_map ..
    rw [z1l.eq_2,if_pos (by simp only [decide_eq_true_eq]; omega),if_pos ⟨by omega,by omega⟩,z9d _ as j hj,wj (by omega),ztz]
    refine (congrArg (fun x => x >>= _) g1).trans ?_
    simp only [bs]
    refine (congrArg (fun x => x >>= _) (zxI n said i r h s as g es ha he)).trans ?_
    simp only [bs]
    refine (congrArg (fun x => x >>= _) g2).trans ?_
    simp only [bs]
    refine (congrArg (fun x => x >>= _) (zxO n _ ok (by omega))).trans ?_
    simp only [bs]
    rw [if_neg (by decide)]
    refine (congrArg (fun x => x >>= _) (zzD n _ ok.value (by omega))).trans ?_
    simp only [bs]
    rw [if_neg (by decide),if_pos (by show (0 : Int) ≤ j ∧ (j : Int) < ((as.map aDig).length : Int); rw [List.length_map]; exact ⟨by omega,by omega⟩),hd,if_neg (by simp)]
    exact zz7 said i r h s as g es ha he k (j + 1) n (by omega) (by omega)
theorem gets (xs : List Int) (n : Nat) (hn : 70000000 ≤ n) : z4m n xs = some true := by
  have aw := zxX n (by omega)
  rw [z4m,zib]
  simp only [bs]
  by_cases hl : (xs.length : Int) ≤ 500
  · rw [decide_eq_true hl]
    simp only [Bool.not_true,Bool.false_eq_true,if_false]
    rw [zkM]
    simp only [bs]
    obtain ⟨a,b,c,d,as,g,es,i',ok,e⟩ := zBy n xs 0 (by omega) (by omega)
    have e' : zdB n xs 0 = _ := e
    rw [e']
    simp only [bs]
    have hle := ok.ha.le
    refine (congrArg (fun x => x >>= _) (zz7 _ a b c d as g es ok.ha ok.he as.length 0 n (by omega) (by omega))).trans ?_
    simp only [bs]
    have nb := zuP n (z8j (ziJ a b c d as g es) a b c d as g es) ([110,111,98,111,100,121] : Str) (fun x hx e => by
      have := (ok.ha.all x hx).name
      rw [e] at this
      revert this; decide) (by show as.length ≤ _; omega) (by omega)
    refine (congrArg (fun x => x >>= _) nb).trans ?_
    simp only [bs]
    rw [if_pos (by decide),aw]
    simp only [bs]
  · rw [decide_eq_false hl]
    simp only [Bool.not_false,if_true]
    rw [aw]
    simp only [bs]
end Go.Proofs.YtchpeafokjmmeaaGreatDoorQ
