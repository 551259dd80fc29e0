/-
  PE, new rows: as rows of the call's own, or as facts; slice literals.
-/
import Derived.Test.YtchpeafokjmmeaaGreatDoorQEb
import Derived.Laws.Slices
import Derived.Laws.BytesString
import Derived.Lib.ConvBytes
import Derived.Laws.Append
import Derived.Laws.AppendOwn
import Derived.MapKept
import Derived.Laws.Small
set_option linter.unusedVariables false
set_option linter.unusedSectionVars false
set_option linter.unusedSimpArgs false
namespace Go.PE
section
variable [Univ] [z2U] {cx : Cx} {I I' : Facts} {s : Hand} {hp hpr : Nat → Option C} {w w' : World} {P : Program}
theorem WInv.newRow (h : WInv cx I s hp w) {nid : Nat} (hn : hp nid = none) {t : Shape} {xs : List (El t)} {arr : Array Value} {cap : Nat} {e : TypeId} {fr : Nat × Nat}
    (hw : But (some w.heap.size) w w') (hg : w'.heap[w.heap.size]? = some (.cells arr e fr)) (hth : still t fr arr.size) (hsz : arr.size = cap * PE.size t) (hl : xs.length ≤ cap)
    (hr : z1t I (cellsD t xs) (arr.toList.take (xs.length * PE.size t))) :
    Res cx I s hp [(nid,.row t xs 0)] (.row nid) (.slice (some ⟨w.heap.size,0,none⟩) xs.length cap) w' := by
  refine ⟨I,setF s nid (.slice (some ⟨w.heap.size,0,none⟩) xs.length cap),Facts.le_refl _,z8T (h.unknown hn),?_,?_⟩
  · refine h.create hn _ _ hw (Facts.le_refl _) (fun _ _ _ => rfl) (fun o u hu => by rw [h.z5j] at hu; cases hu) (fun b hb => ?_) ?_
    · cases cap with
      | zero => simp [blk] at hb
      | succ c => simp [blk] at hb; exact hb.symm
    · simp only [repC]
      exact ⟨_,cap,by simp,hl,.inr ⟨_,rfl,arr,e,fr,hg,hth,hsz,hr,(fun o v hv => by rw [h.z5j] at hv; cases hv),fun _ => h.z5j,(fun h2 => by cases h2)⟩⟩
  · simp only [repV]
    exact ⟨by simp,_,_,_,rfl⟩
def z1k (I : Facts) (b : Nat) (cs : List Value) : Facts := fun b' o => if b' = b then cs[o]? else I b' o
theorem WInv.zAp (h : WInv cx I s hp w) {nid : Nat} (hn : hp nid = none) {t : Shape} {xs : List (El t)} {arr : Array Value} {cap fl : Nat} {e : TypeId} {fr : Nat × Nat}
    (hw : But (some w.heap.size) w w') (hg : w'.heap[w.heap.size]? = some (.cells arr e fr)) (hl : xs.length ≤ cap)
    (hr : z1t I (cellsD t xs) (arr.toList.take (xs.length * PE.size t))) (hf : flag fl (.slice (some ⟨w.heap.size,0,none⟩) xs.length cap)) :
    Res cx I s hp [(nid,.dead)] (.lst t xs fl) (.slice (some ⟨w.heap.size,0,none⟩) xs.length cap) w' := by
  have hle : I.le (z1k I w.heap.size (arr.toList.take (xs.length * PE.size t))) := by
    intro b o v hv
    have hb := h.zmC hv
    simp only [z1k]
    rw [if_neg (by omega)]
    exact hv
  refine ⟨z1k I w.heap.size (arr.toList.take (xs.length * PE.size t)),s,hle,Hand.le_refl _,?_,?_⟩
  · refine h.zk1 nid .dead (some w.heap.size) (fun c0 h0 => by rw [hn] at h0; cases h0) (Hand.le_refl _) (fun i v hv => .inr hv) (fun b hb => by simp [blk] at hb) hw hle
      (fun b hb o => by simp only [z1k]; rw [if_neg (fun e => hb (by rw [e]))]) (fun b o v e hv => ?_) (fun b e i c0 h0 hb => by cases e; have := h.zpC h0 hb; omega)
      (fun b e => by cases e; exact .inl h.size) trivial
    cases e
    simp only [z1k,if_true] at hv
    rw [List.getElem?_take] at hv
    split at hv
    · simp only [World.cell?,hg]
      simpa using hv
    · cases hv
  · simp only [repV,repD]
    refine ⟨⟨_,cap,rfl,hl,.inr ⟨_,0,rfl,z3O _ _ 0 (z8g hle _ _ hr) (fun j v hj => ?_)⟩⟩,hf⟩
    simp only [z1k,if_true,Nat.zero_add]
    exact hj
theorem zsx (h : WInv cx I s hp w) {nid : Nat} (hn : hp nid = none) {dir : Option Dir} {t : Shape} {xs : List (El t)} {conds : List Prop} {ef : Eff} (he : made nid dir t xs 0 [] conds = some ef)
    {arr : Array Value} {cap : Nat} {e : TypeId} {fr : Nat × Nat}
    (hw : But (some w.heap.size) w w') (hg : w'.heap[w.heap.size]? = some (.cells arr e fr)) (hth : still t fr arr.size) (hsz : arr.size = cap * size t) (hl : xs.length ≤ cap)
    (hr : z1t I (cellsD t xs) (arr.toList.take (xs.length * size t))) :
    Res cx I s hp ef.upd ef.v (.slice (some ⟨w.heap.size,0,none⟩) xs.length cap) w' := by
  unfold made at he
  split at he
  · simp only [Option.some.injEq] at he
    subst he
    exact h.zAp hn hw hg hl hr (by unfold flag; trivial)
  · simp only [Option.some.injEq] at he
    subst he
    exact h.newRow hn hw hg hth hsz hl hr
theorem zsn (h : WInv cx I s hp w) (hsub : ∀ id c,hpr id = some c → hp id = some c) {a : Shape} : ∀ (parts : List (Nat × V)) (vs : List (Nat × Value)) (k : Nat) (xs : List (El a)) (arr : Array Value),
    elems hpr a k parts = some xs → zpf I s parts vs → (k + parts.length) * size a = arr.size →
    ∃ arr',Instr.fill (fun i => some (i * size a,size a)) arr vs = some arr' ∧ arr'.size = arr.size ∧ arr'.toList.take (k * size a) = arr.toList.take (k * size a) ∧ xs.length = parts.length ∧
      z1t I (cellsD a xs) (arr'.toList.drop (k * size a))
  | [],[],k,xs,arr,he,_,hsz => by
    simp only [elems,Option.some.injEq] at he
    subst he
    refine ⟨arr,rfl,rfl,rfl,rfl,?_⟩
    have : arr.toList.drop (k * size a) = [] := List.drop_of_length_le (by simp at hsz ⊢; omega)
    rw [this]
    trivial
  | (i,x) :: r,(j,v) :: q,k,xs,arr,he,hp,hsz => by
    simp only [zpf] at hp
    obtain ⟨rfl,hx,hq⟩ := hp
    simp only [elems] at he
    cases hik : (Nat.beq i k && zru x) with
    | false => simp [hik] at he
    | true =>
      simp only [hik,cond_true] at he
      simp only [Bool.and_eq_true] at hik
      have := Nat.eq_of_beq_eq_true hik.1
      subst this
      split at he
      · rename_i y hy
        split at he
        · rename_i ys hys
          simp only [Option.some.injEq] at he
          subst he
          have hmul : (i + (r.length + 1)) * size a = i * size a + size a + r.length * size a := by rw [Nat.add_mul,Nat.add_mul]; omega
          simp only [List.length_cons] at hsz
          rw [hmul] at hsz
          have hsol : z0v I s (PE.cellsOf x) v.cells.toList := zgs hx hik.2
          have hD := zdb h hsub hy hsol
          have hvl := z1c _ _ hD
          rw [z8e] at hvl
          have hlA : arr.toList.length = arr.size := Array.length_toList
          have hlV : v.cells.toList.length = v.cells.size := Array.length_toList
          rw [zqH (off := i * size a) (sz := size a) rfl (by omega) (by omega)]
          obtain ⟨arr',g1,g2,g3,g4,g5⟩ := zsn h hsub r q (i + 1) ys (arr.toList.take (i * size a) ++ v.cells.toList ++ arr.toList.drop (i * size a + v.cells.toList.length)).toArray hys hq (by
            rw [List.size_toArray,z9s _ _ _ (by omega),hlA,← hsz,Nat.add_mul,Nat.add_mul]; omega)
          have e1 : (i + 1) * size a = i * size a + size a := by rw [Nat.add_mul]; omega
          have hz : (arr.toList.take (i * size a) ++ v.cells.toList ++ arr.toList.drop (i * size a + v.cells.toList.length)).toArray.size = arr.size := by
            rw [List.size_toArray,z9s _ _ _ (by omega),hlA]
          rw [hz] at g2
          rw [e1] at g3 g5
          have ht : arr'.toList.take (i * size a + size a) = arr.toList.take (i * size a) ++ v.cells.toList := by
            rw [g3]
            have hl2 : (arr.toList.take (i * size a) ++ v.cells.toList).length = i * size a + size a := by simp; omega
            simp only [List.take_append,hl2,Nat.sub_self,List.take_zero,List.append_nil]
            rw [← List.take_append,List.take_of_length_le (by omega)]
          refine ⟨arr',g1,g2,?_,by simp [g4],?_⟩
          · have := congrArg (List.take (i * size a)) ht
            rw [List.take_take,Nat.min_eq_left (by omega)] at this
            rw [this,List.take_append_of_le_length (by simp; omega),List.take_take,Nat.min_self]
          · have e2 : arr'.toList.drop (i * size a) = v.cells.toList ++ arr'.toList.drop (i * size a + size a) := by
              have hs := congrArg (List.drop (i * size a)) (List.take_append_drop (i * size a + size a) arr'.toList)
              rw [← hs,ht,List.append_assoc,List.drop_left' (by simp; omega)]
            rw [e2]
            have : cellsD a (y :: ys) = toD a y ++ cellsD a ys := by simp [cellsD]
            rw [this]
            exact z4O _ _ _ _ hD g5
        · cases he
      · cases he
  | [],_ :: _,_,_,_,_,hp,_ => hp.elim
  | _ :: _,[],_,_,_,_,hp,_ => hp.elim
theorem zpu {t e : TypeId} {n : Nat} {i : TypeInfo} {z : Value} (ht : P.underlying t = some (.slice e)) (hi : P.info? e = some i) (hz : i.zero = some z) (hle : n * i.size ≤ 16777216)
    {vs : Array (Nat × Value)} (w : World) :
    ∃ zs : Array Value,zs.size = n * i.size ∧ (Instr.buildSlice t n vs).run P w = (match Instr.fill (fun j => some (j * i.size,i.size)) zs vs.toList with
      | some cells => Result.ok (.slice (some ⟨w.heap.size,0,none⟩) n n) (w.alloc (.cells cells e))
      | none => .halt (.stuck "buildSlice: a part of the wrong size") w) := by
  have hgt : ¬ (n * i.size > 2 ^ 24) := by omega
  refine ⟨(Array.range (n * i.size)).map ((if n * i.size = 0 then #[] else z.cells)[· % (if n * i.size = 0 then #[] else z.cells).size]!),by simp,?_⟩
  simp only [Instr.buildSlice,Sem.run_bind,run_underlying ht,Result.andThen_ok,z1D hi,if_neg hgt,Sem.run_ite]
  by_cases h0 : n * i.size = 0
  · simp only [h0,if_true,Sem.run_pure,Result.andThen_ok]
    generalize Instr.fill _ _ _ = r
    cases r <;> rfl
  · simp only [h0,if_false,Sem.run_bind,z4A hi hz,Sem.run_pure,Result.andThen_ok]
    generalize Instr.fill _ _ _ = r
    cases r <;> rfl
theorem zkU (h : WInv cx I s hp w) (hsub : ∀ id c,hpr id = some c → hp id = some c) {nid : Nat} (hn : hp nid = none) {dir : Option Dir} {t : TypeId} {n : Nat} {parts : List (Nat × V)} {ef : Eff}
    (he : ze5 P hpr nid dir t n parts = some ef) {vs : Array (Nat × Value)} (hp' : zpf I s parts vs.toList) :
    ∃ y w',(Instr.buildSlice t n vs).run P w = .ok y w' ∧ Res cx I s hp ef.upd ef.v y w' := by
  unfold ze5 at he
  split at he
  · rename_i e hd
    have ht := z0t hd (by simp)
    split at he
    · rename_i a ha
      cases hz : (tsz P e (size a) && Nat.ble (n * zan P e) 16777216 && Nat.beq parts.length n && ztn P e (size a)) with
      | false => simp [hz] at he
      | true =>
        simp only [hz,cond_true] at he
        simp only [Bool.and_eq_true] at hz
        obtain ⟨⟨⟨z1,z2⟩,z3⟩,z4⟩ := hz
        obtain ⟨i,hi,hsz,hco⟩ := z4w z1
        have hle := Nat.le_of_ble_eq_true z2
        have hpl := Nat.eq_of_beq_eq_true z3
        have hz0 : ∃ z,i.zero = some z := by
          unfold ztn at z4
          rw [hi] at z4
          simp only at z4
          split at z4
          · rename_i z hz; exact ⟨z,hz⟩
          · cases z4
        obtain ⟨z,hz0⟩ := hz0
        have htz : zan P e = i.size := by simp only [zan]; rw [hco,hsz]
        obtain ⟨zs,q1,q2⟩ := zpu (P := P) (n := n) ht hi hz0 (by rw [← htz]; exact hle) (vs := vs) w
        split at he
        · rename_i xs hxs
          obtain ⟨arr',g1,g2,g3,g4,g5⟩ := zsn h hsub parts vs.toList 0 xs zs hxs hp' (by rw [hpl,q1,hsz,Nat.zero_add])
          rw [← hsz] at g1
          rw [g1] at q2
          simp only at q2
          have hxn : xs.length = n := by rw [g4,hpl]
          have hA : arr'.size = xs.length * size a := by rw [g2,q1,hsz,hxn]
          have hr : z1t I (cellsD a xs) (arr'.toList.take (xs.length * size a)) := by
            rw [List.take_of_length_le (by rw [← hA]; simp)]
            simpa using g5
          split at he
          · simp only [Option.some.injEq] at he
            subst he
            refine ⟨_,_,q2,?_⟩
            have := h.newRow hn (z7D w (.cells arr' e)) (alloc_at _ _) (zms _ _) hA (Nat.le_refl _) hr
            rw [hxn] at this
            exact this
          · simp only [Option.some.injEq] at he
            subst he
            refine ⟨_,_,q2,?_⟩
            have := h.zAp (fl := 1) hn (z7D w (.cells arr' e)) (alloc_at _ _) (Nat.le_refl _) hr (by simp [flag])
            rw [hxn] at this
            exact this
        · cases he
    · cases he
  · cases he
end
end Go.PE
namespace Go.PE
section
variable [Univ] [z2U] {cx : Cx} {I I' : Facts} {s : Hand} {hp hpr : Nat → Option C} {w w' : World} {P : Program}
theorem zpi {t : Shape} (xs : List (El t)) (n : Nat) : cellsD t (xs.take n) = (cellsD t xs).take (n * size t) := by
  by_cases hn : n ≤ xs.length
  · have e : cellsD t xs = cellsD t (xs.take n) ++ cellsD t (xs.drop n) := by rw [← z6J,List.take_append_drop]
    have hl : (cellsD t (xs.take n)).length = n * size t := by rw [z0V,List.length_take,Nat.min_eq_left hn]
    rw [e,← hl,List.take_left]
  · rw [List.take_of_length_le (by omega),List.take_of_length_le]
    rw [z0V]
    exact Nat.mul_le_mul_right _ (by omega)
theorem zq0 {t : Shape} (xs : List (El t)) (n : Nat) : cellsD t (xs.drop n) = (cellsD t xs).drop (n * size t) := by
  by_cases hn : n ≤ xs.length
  · have e : cellsD t xs = cellsD t (xs.take n) ++ cellsD t (xs.drop n) := by rw [← z6J,List.take_append_drop]
    have hl : (cellsD t (xs.take n)).length = n * size t := by rw [z0V,List.length_take,Nat.min_eq_left hn]
    rw [e,← hl,List.drop_left]
  · rw [List.drop_of_length_le (by omega),List.drop_of_length_le]
    · rfl
    · rw [z0V]
      exact Nat.mul_le_mul_right _ (by omega)
theorem zsk {I : Facts} : ∀ (l : List D) (vs : List Value) (n : Nat),z1t I l vs → z1t I (l.take n) (vs.take n)
  | [],[],n,_ => by simp [z1t]
  | d :: r,v :: q,0,_ => by simp [z1t]
  | d :: r,v :: q,n + 1,e => ⟨e.1,zsk r q n e.2⟩
  | [],_ :: _,_,e => e.elim
  | _ :: _,[],_,e => e.elim
theorem zsy {I : Facts} : ∀ (l : List D) (vs : List Value) (n : Nat),z1t I l vs → z1t I (l.drop n) (vs.drop n)
  | [],[],n,_ => by simp [z1t]
  | d :: r,v :: q,0,e => by simpa using e
  | d :: r,v :: q,n + 1,e => by simpa using zsy r q n e.2
  | [],_ :: _,_,e => e.elim
  | _ :: _,[],_,e => e.elim
theorem zyJ {t : Shape} {xs : List (El t)} {base : Option Addr} {n cap l h m : Nat} (hr : repD I (.list xs.length (cellsD t xs)) (.slice base n cap)) (h1 : l ≤ h) (h2 : h ≤ xs.length) (h3 : h ≤ m) :
    repD I (.list ((xs.take h).drop l).length (cellsD t ((xs.take h).drop l))) (.slice (if m = l then base else base.map (·.add (l * size t))) (h - l) (m - l)) := by
  simp only [repD] at hr ⊢
  obtain ⟨base',cap',e,hc,hx⟩ := hr
  cases e
  have hlen : ((xs.take h).drop l).length = h - l := by simp; omega
  refine ⟨_,_,by rw [hlen],by rw [hlen]; omega,?_⟩
  by_cases hm : m = l
  · left
    have : (xs.take h).drop l = [] := List.length_eq_zero_iff.1 (by rw [hlen]; omega)
    rw [this]; rfl
  · rcases hx with hx | ⟨b,o,hb,hx⟩
    · left
      rw [zq0,zpi,hx]; simp
    · right
      subst hb
      refine ⟨b,o + l * size t,by rw [if_neg hm]; simp [zg8],?_⟩
      obtain ⟨cs,k1,k2⟩ := zbb _ _ hx
      rw [zq0,zpi]
      refine z3O _ _ _ (zsy _ _ _ (zsk _ _ _ k1)) ?_
      have := zso k2 (l * size t) (h * size t - l * size t)
      rwa [← List.drop_take] at this
def repO (I : Facts) (s : Hand) : Option V → Option Value → Prop
  | none,none => True
  | some x,some v => repV I s x v
  | _,_ => False
theorem z2f {x : Option V} {v : Option Value} (h : bound x = some none) (hv : repO I s x v) : v = none := by
  unfold bound at h
  split at h
  · cases v with
    | none => rfl
    | some _ => exact hv.elim
  · cases h
  · cases h
theorem z4T {x : Option V} {v : Option Value} {i : Int} (h : bound x = some (some i)) (hv : repO I s x v) : ∃ k,v = some (.int k i) := by
  unfold bound at h
  split at h
  · cases h
  · rename_i k j
    simp only [Option.some.injEq] at h
    subst h
    cases v with
    | none => exact hv.elim
    | some u => simp only [repO,repV] at hv; exact ⟨k,by rw [hv]⟩
  · cases h
theorem zu4 {t e : TypeId} (ht : P.underlying t = some (.slice e)) (x : Value) (lo hi mx : Option Value) : (Instr.sliceAt t x lo hi mx).run P w = (Instr.slice t x lo hi mx).run P w := by
  simp only [Instr.sliceAt,Sem.run_bind,run_underlying ht,Result.andThen_ok]
theorem zrv {t : TypeId} (ht : P.underlying t = some .string) (x : Value) (lo hi mx : Option Value) : (Instr.sliceAt t x lo hi mx).run P w = (Instr.slice t x lo hi mx).run P w := by
  simp only [Instr.sliceAt,Sem.run_bind,run_underlying ht,Result.andThen_ok]
theorem zqy {t e : TypeId} {i : TypeInfo} (ht : P.underlying t = some (.slice e)) (hi : P.info? e = some i) {a : Option Addr} {len cap l h m : Nat} {lo hi' mx : Option Value}
    (hb : (Instr.sliceBounds true len cap lo hi' mx).run P w = .ok (l,h,m) w) :
    (Instr.sliceAt t (.slice a len cap) lo hi' mx).run P w = .ok (.slice (if m = l then a else a.map (·.add (l * i.size))) (h - l) (m - l)) w := by
  rw [zu4 ht]
  simp only [Instr.slice,Sem.run_bind,run_underlying ht,Result.andThen_ok,hb,z1D hi,Sem.run_pure]
theorem zrj {b : Bool} {len cap : Nat} {k : IntKind} {l : Int} (h : cLo l len) : (Instr.sliceBounds b len cap (some (.int k l)) none none).run P w = .ok (l.toNat,len,cap) w := by
  simp only [Instr.sliceBounds,Sem.run_bind,Sem.run_pure,Result.andThen_ok,run_sliceBound w k l len _ h.1 h.2]
theorem zvQ {b : Bool} {len cap : Nat} {k : IntKind} {h : Int} (hh : cLo h len) (hc : len ≤ cap) : (Instr.sliceBounds b len cap none (some (.int k h)) none).run P w = .ok (0,h.toNat,cap) w := by
  have h2 := hh.2
  simp only [Instr.sliceBounds,Sem.run_bind,Sem.run_pure,Result.andThen_ok,run_sliceBound w k h cap _ hh.1 (by omega)]
theorem zq1 {b : Bool} {len cap : Nat} {k k' : IntKind} {l h : Int} (hh : cLH l h len) (hc : len ≤ cap) : (Instr.sliceBounds b len cap (some (.int k l)) (some (.int k' h)) none).run P w = .ok (l.toNat,h.toNat,cap) w := by
  obtain ⟨h1,h2,h3⟩ := hh
  have e : ((h.toNat : Nat) : Int) = h := Int.toNat_of_nonneg (by omega)
  simp only [Instr.sliceBounds,Sem.run_bind,Sem.run_pure,Result.andThen_ok,run_sliceBound w k' h cap _ (by omega) (by omega),run_sliceBound w k l h.toNat _ h1 (by omega)]
theorem zoh {len cap : Nat} {k k' : IntKind} {h m : Int} (hh : cLH h m len) (hc : len ≤ cap) : (Instr.sliceBounds true len cap none (some (.int k h)) (some (.int k' m))).run P w = .ok (0,h.toNat,m.toNat) w := by
  obtain ⟨h1,h2,h3⟩ := hh
  have e : ((m.toNat : Nat) : Int) = m := Int.toNat_of_nonneg (by omega)
  simp only [Instr.sliceBounds,Sem.run_bind,Sem.run_pure,Result.andThen_ok,run_sliceBound w k' m cap _ (by omega) (by omega),run_sliceBound w k h m.toNat _ h1 (by omega)]
theorem zm4 {t : TypeId} (ht : P.underlying t = some .string) {b : List UInt8} {l h m : Nat} {lo hi' : Option Value} (hh : h ≤ b.length)
    (hb : (Instr.sliceBounds false b.length b.length lo hi' none).run P w = .ok (l,h,m) w) :
    (Instr.sliceAt t (.string ⟨b.toArray⟩) lo hi' none).run P w = .ok (.string ⟨((b.take h).drop l).toArray⟩) w := by
  rw [zrv ht]
  have hs : (ByteArray.mk b.toArray).size = b.length := by simp [ByteArray.size]
  simp only [Instr.slice,Sem.run_bind,run_underlying ht,Result.andThen_ok,Option.isSome_none,Bool.false_eq_true,if_false,Sem.run_pure,hs,hb]
  congr 2
  apply ByteArray.ext
  apply Array.ext'
  simp [ByteArray.data_extract,Array.toList_extract,List.extract_eq_take_drop,List.drop_take]
theorem ztL (h : WInv cx I s hp w) (hsub : ∀ id c,hpr id = some c → hp id = some c) {nid : Nat} {t : TypeId} {x : V} {lo hi mx : Option V} {e : Eff} (he : zwk P hpr nid t x lo hi mx = some e) (hc : ∀ q ∈ e.conds,q)
    {v : Value} {lov hiv mxv : Option Value} (hv : repV I s x v) (h1 : repO I s lo lov) (h2 : repO I s hi hiv) (h3 : repO I s mx mxv) :
    ∃ y,(Instr.sliceAt t v lov hiv mxv).run P w = .ok y w ∧ Res cx I s hp e.upd e.v y w := by
  have str : ∀ (b : List UInt8) (r : List UInt8),e = ⟨.str r,[],e.conds⟩ → (Instr.sliceAt t v lov hiv mxv).run P w = .ok (.string ⟨r.toArray⟩) w → ∃ y,(Instr.sliceAt t v lov hiv mxv).run P w = .ok y w ∧ Res cx I s hp e.upd e.v y w := by
    intro b r he hr
    rw [he]
    exact ⟨_,hr,Res.same h (by simp only [repV])⟩
  unfold zwk at he
  split at he
  · rename_i b hd hb1 hb2 hb3
    simp only [ok1,Option.some.injEq] at he
    subst he
    simp only [repV] at hv
    subst hv
    have e1 := z2f hb1 h1; have e2 := z2f hb2 h2; have e3 := z2f hb3 h3
    subst e1; subst e2; subst e3
    refine str b b rfl ?_
    have := zm4 (P := P) (w := w) (z0t hd (by simp)) (b := b) (l := 0) (h := b.length) (m := b.length) (lo := none) (hi' := none) (Nat.le_refl _) (by simp [Instr.sliceBounds])
    simpa using this
  · rename_i b l hd hb1 hb2 hb3
    simp only [Option.some.injEq] at he
    subst he
    simp only [repV] at hv
    subst hv
    obtain ⟨k,e1⟩ := z4T hb1 h1
    have e2 := z2f hb2 h2; have e3 := z2f hb3 h3
    subst e1; subst e2; subst e3
    have hw : cLo l b.length := hc _ (by simp)
    refine str b _ rfl ?_
    have := zm4 (P := P) (w := w) (z0t hd (by simp)) (Nat.le_refl _) (zrj (k := k) hw)
    simpa using this
  · rename_i b l hd hb1 hb2 hb3
    simp only [Option.some.injEq] at he
    subst he
    simp only [repV] at hv
    subst hv
    obtain ⟨k,e2⟩ := z4T hb2 h2
    have e1 := z2f hb1 h1; have e3 := z2f hb3 h3
    subst e1; subst e2; subst e3
    have hw : cLo l b.length := hc _ (by simp)
    refine str b _ rfl ?_
    have := zm4 (P := P) (w := w) (z0t hd (by simp)) (h := l.toNat) (by have := hw.1; have := hw.2; omega) (zvQ (k := k) hw (Nat.le_refl _))
    simpa using this
  · rename_i b l h' hd hb1 hb2 hb3
    simp only [Option.some.injEq] at he
    subst he
    simp only [repV] at hv
    subst hv
    obtain ⟨k,e1⟩ := z4T hb1 h1
    obtain ⟨k',e2⟩ := z4T hb2 h2
    have e3 := z2f hb3 h3
    subst e1; subst e2; subst e3
    have hw : cLH l h' b.length := hc _ (by simp)
    refine str b _ rfl ?_
    exact zm4 (P := P) (w := w) (z0t hd (by simp)) (h := h'.toNat) (by have := hw.1; have := hw.2; omega) (zq1 (k := k) (k' := k') hw (Nat.le_refl _))
  · rename_i e' l h' m hd hb1 hb2 hb3
    have ht := z0t hd (by simp)
    split at he
    · rename_i a ha
      cases hz : tsz P e' (size a) with
      | false => simp [hz] at he
      | true =>
        simp only [hz,cond_true] at he
        obtain ⟨inf,hi,hsz,_⟩ := z4w hz
        split at he
        · rename_i xs hxs
          have hrep := zn1 h hsub hxs hv
          obtain ⟨base,cap,hv',hcap⟩ : ∃ base cap,v = .slice base xs.length cap ∧ xs.length ≤ cap := by
            have h' := hrep
            simp only [repD] at h'
            obtain ⟨base,cap,q1,q2,_⟩ := h'
            exact ⟨base,cap,q1,q2⟩
          subst hv'
          have fin : ∀ (L H M : Nat) (ys : List (El a)) (fl : Nat) (cs : List Prop),L ≤ H → H ≤ xs.length → H ≤ M → ys = (xs.take H).drop L →
              (Instr.sliceBounds true xs.length cap lov hiv mxv).run P w = .ok (L,H,M) w → (∀ u,flag fl (.slice u (H - L) (M - L))) → e = ⟨.lst a ys fl,[],cs⟩ →
              ∃ y,(Instr.sliceAt t (.slice base xs.length cap) lov hiv mxv).run P w = .ok y w ∧ Res cx I s hp e.upd e.v y w := by
            intro L H M ys fl cs q1 q2 q3 q4 q5 q6 q7
            subst q4; subst q7
            refine ⟨_,zqy ht hi q5,Res.same h ?_⟩
            simp only [repV]
            rw [hsz]
            exact ⟨zyJ hrep q1 q2 q3,q6 _⟩
          have nofl : ∀ u n m,flag 0 (.slice u n m) := fun _ _ _ => by unfold flag; trivial
          split at he
          · rename_i l'
            simp only [Option.some.injEq] at he
            have hw : cLo l' xs.length := hc _ (by rw [← he]; simp)
            obtain ⟨k,e1⟩ := z4T hb1 h1
            have e2 := z2f hb2 h2; have e3 := z2f hb3 h3
            subst e1; subst e2; subst e3
            exact fin l'.toNat xs.length cap _ 0 _ (by have := hw.1; have := hw.2; omega) (Nat.le_refl _) hcap (by rw [List.take_length]) (zrj hw) (fun _ => nofl _ _ _) he.symm
          · rename_i h''
            simp only [Option.some.injEq] at he
            have hw : cLo h'' xs.length := hc _ (by rw [← he]; simp)
            obtain ⟨k,e2⟩ := z4T hb2 h2
            have e1 := z2f hb1 h1; have e3 := z2f hb3 h3
            subst e1; subst e2; subst e3
            exact fin 0 h''.toNat cap _ 0 _ (Nat.zero_le _) (by have := hw.1; have := hw.2; omega) (by have := hw.1; have := hw.2; omega) (by simp) (zvQ hw hcap) (fun _ => nofl _ _ _) he.symm
          · rename_i l' h''
            simp only [Option.some.injEq] at he
            have hw : cLH l' h'' xs.length := hc _ (by rw [← he]; simp)
            obtain ⟨k,e1⟩ := z4T hb1 h1
            obtain ⟨k',e2⟩ := z4T hb2 h2
            have e3 := z2f hb3 h3
            subst e1; subst e2; subst e3
            obtain ⟨w1,w2,w3⟩ := hw
            exact fin l'.toNat h''.toNat cap _ 0 _ (by omega) (by omega) (by omega) rfl (zq1 ⟨w1,w2,w3⟩ hcap) (fun _ => nofl _ _ _) he.symm
          · simp only [Option.some.injEq] at he
            have hw : cLH 0 0 xs.length := hc _ (by rw [← he]; simp)
            obtain ⟨k,e2⟩ := z4T hb2 h2
            obtain ⟨k',e3⟩ := z4T hb3 h3
            have e1 := z2f hb1 h1
            subst e1; subst e2; subst e3
            exact fin 0 0 0 _ 1 _ (Nat.le_refl _) (Nat.zero_le _) (Nat.le_refl _) (by simp) (zoh hw hcap) (fun _ => by simp [flag]) he.symm
          · rename_i h'' m' _
            simp only [Option.some.injEq] at he
            have hw : cLH h'' m' xs.length := hc _ (by rw [← he]; simp)
            obtain ⟨k,e2⟩ := z4T hb2 h2
            obtain ⟨k',e3⟩ := z4T hb3 h3
            have e1 := z2f hb1 h1
            subst e1; subst e2; subst e3
            obtain ⟨w1,w2,w3⟩ := hw
            exact fin 0 h''.toNat m'.toNat _ 0 _ (Nat.zero_le _) (by omega) (by omega) (by simp) (zoh ⟨w1,w2,w3⟩ hcap) (fun _ => nofl _ _ _) he.symm
          · cases he
        · cases he
    · cases he
  · rename_i n e' id hd hb1 hb2 hb3
    have ht := z0t hd (by simp)
    have e1 := z2f hb1 h1; have e2 := z2f hb2 h2; have e3 := z2f hb3 h3
    subst e1; subst e2; subst e3
    split at he
    · rename_i a xs hid
      cases hz : tsz P e' (size a) with
      | false => simp [hz] at he
      | true =>
        simp only [hz,cond_true,Option.some.injEq] at he
        subst he
        obtain ⟨inf,hi,hsz,_⟩ := z4w hz
        have hn : xs.length = n := hc _ (by simp)
        simp only [repV] at hv
        obtain ⟨b,q1,rfl⟩ := hv
        have hr := h.cont id _ (hsub _ _ hid)
        simp only [repC] at hr
        obtain ⟨b',arr,e'',fr,k1,k2,k3,k4,k5⟩ := hr
        rw [k1] at q1
        cases q1
        have hrun : (Instr.sliceAt t (.pointer (some ⟨b,0,none⟩)) none none none).run P w = .ok (.slice (some ⟨b,0,none⟩) n n) w := by
          simp only [Instr.sliceAt,Sem.run_bind,run_underlying ht,Result.andThen_ok,Instr.sureAddr,Sem.run_pure,Instr.sliceBounds,z1D hi,Nat.zero_mul,Nat.sub_zero,Addr.add_zero',ite_self]
        refine ⟨_,hrun,?_⟩
        have hle : I.le (z1k I b arr.toList) := by
          intro b' o v hv
          simp only [z1k]
          rw [if_neg (fun e => by subst e; rw [k4] at hv; cases hv)]
          exact hv
        refine ⟨z1k I b arr.toList,s,hle,Hand.le_refl _,?_,?_⟩
        · have hk := h.kill id
          have := hk.zk1 (w' := w) (s' := s) (I' := z1k I b arr.toList) id .dead (some b) (fun c0 h0 => by simp at h0; subst h0; rfl) (Hand.le_refl _) (fun i v hv => .inr hv) (fun b' hb' => by simp [blk] at hb')
            ⟨Nat.le_refl _,fun _ _ _ => rfl,rfl,rfl,rfl⟩ hle (fun b' hb o => by simp only [z1k]; rw [if_neg (fun e => hb (by rw [e]))])
            (fun b' o v e hv => by
              cases e
              simp only [z1k,if_true] at hv
              simp only [World.cell?,k2]
              simpa using hv)
            (fun b' e i c0 h0 hb' => by
              cases e
              by_cases hi' : i = id
              · subst hi'; simp at h0; subst h0; simp [blk] at hb'
              · rw [z0O _ _ hi'] at h0
                exact hi' (h.apart i id c0 _ b h0 (hsub _ _ hid) hb' (by simp [blk,k1])))
            (fun b' e => by cases e; exact h.own id _ b (hsub _ _ hid) (by simp [blk,k1])) trivial
          rwa [zeO] at this
        · simp only [repV,repD]
          refine ⟨⟨some ⟨b,0,none⟩,n,by rw [hn],by omega,.inr ⟨b,0,rfl,z3O _ _ 0 (z8g hle _ _ k5) (fun j v hj => ?_)⟩⟩,by unfold flag; trivial⟩
          simp only [z1k,if_true,Nat.zero_add]
          exact hj
    · cases he
  · rename_i n e' id l hd hb1 hb2 hb3
    have ht := z0t hd (by simp)
    obtain ⟨k,e1⟩ := z4T hb1 h1; have e2 := z2f hb2 h2; have e3 := z2f hb3 h3
    subst e1; subst e2; subst e3
    split at he
    · rename_i a xs hid
      cases hz : tsz P e' (size a) with
      | false => simp [hz] at he
      | true =>
        simp only [hz,cond_true,Option.some.injEq] at he
        subst he
        obtain ⟨inf,hi,hsz,_⟩ := z4w hz
        have hn : xs.length = n := hc _ (by simp)
        have hw : cLo l xs.length := hc _ (by simp)
        simp only [repV] at hv
        obtain ⟨b,q1,rfl⟩ := hv
        have hr := h.cont id _ (hsub _ _ hid)
        simp only [repC] at hr
        obtain ⟨b',arr,e'',fr,k1,k2,k3,k4,k5⟩ := hr
        rw [k1] at q1
        cases q1
        have hbd := zrj (P := P) (w := w) (b := false) (len := n) (cap := n) (k := k) (by rwa [hn] at hw)
        have hrun : (Instr.sliceAt t (.pointer (some ⟨b,0,none⟩)) (some (.int k l)) none none).run P w = .ok (.slice (if n = l.toNat then some ⟨b,0,none⟩ else (some ⟨b,0,none⟩ : Option Addr).map (·.add (l.toNat * inf.size))) (n - l.toNat) (n - l.toNat)) w := by
          simp only [Instr.sliceAt,Sem.run_bind,run_underlying ht,Result.andThen_ok,Instr.sureAddr,Sem.run_pure,hbd,z1D hi,Option.map_some]
          by_cases e0 : n = l.toNat
          · rw [if_pos e0,if_pos e0]
          · rw [if_neg e0,if_neg e0]
        refine ⟨_,hrun,?_⟩
        have hle : I.le (z1k I b arr.toList) := by
          intro b' o v hv
          simp only [z1k]
          rw [if_neg (fun e => by subst e; rw [k4] at hv; cases hv)]
          exact hv
        refine ⟨z1k I b arr.toList,s,hle,Hand.le_refl _,?_,?_⟩
        · have hk := h.kill id
          have := hk.zk1 (w' := w) (s' := s) (I' := z1k I b arr.toList) id .dead (some b) (fun c0 h0 => by simp at h0; subst h0; rfl) (Hand.le_refl _) (fun i v hv => .inr hv) (fun b' hb' => by simp [blk] at hb')
            ⟨Nat.le_refl _,fun _ _ _ => rfl,rfl,rfl,rfl⟩ hle (fun b' hb o => by simp only [z1k]; rw [if_neg (fun e => hb (by rw [e]))])
            (fun b' o v e hv => by
              cases e
              simp only [z1k,if_true] at hv
              simp only [World.cell?,k2]
              simpa using hv)
            (fun b' e i c0 h0 hb' => by
              cases e
              by_cases hi' : i = id
              · subst hi'; simp at h0; subst h0; simp [blk] at hb'
              · rw [z0O _ _ hi'] at h0
                exact hi' (h.apart i id c0 _ b h0 (hsub _ _ hid) hb' (by simp [blk,k1])))
            (fun b' e => by cases e; exact h.own id _ b (hsub _ _ hid) (by simp [blk,k1])) trivial
          rwa [zeO] at this
        · have whole : repD (z1k I b arr.toList) (.list xs.length (cellsD a xs)) (.slice (some ⟨b,0,none⟩) n n) := by
            simp only [repD]
            refine ⟨some ⟨b,0,none⟩,n,by rw [hn],by omega,.inr ⟨b,0,rfl,z3O _ _ 0 (z8g hle _ _ k5) (fun j v hj => ?_)⟩⟩
            simp only [z1k,if_true,Nat.zero_add]
            exact hj
          have hl : l.toNat ≤ n := by have := hw.1; have := hw.2; omega
          have := zyJ (l := l.toNat) (h := n) (m := n) whole hl (by omega) (Nat.le_refl _)
          simp only [repV]
          rw [hsz]
          have e0 : xs.take n = xs := by rw [← hn,List.take_length]
          rw [e0] at this
          exact ⟨this,by unfold flag; trivial⟩
    · cases he
  · cases he
end
end Go.PE
namespace Go.PE
section
variable [Univ] [z2U] {cx : Cx} {I I' : Facts} {s : Hand} {hp hpr : Nat → Option C} {w w' : World} {P : Program}
theorem zuW (h : WInv cx I s hp w) {t : Shape} {xs : List (El t)} {v : Value} (hr : repD I (.list xs.length (cellsD t xs)) v) :
    ∃ base cap cs,v = .slice base xs.length cap ∧ xs.length ≤ cap ∧ z1t I (cellsD t xs) cs ∧ (cs = [] ∨ ∃ b o,base = some ⟨b,o,none⟩ ∧ stands w b o cs) := by
  simp only [repD] at hr
  obtain ⟨base,cap,rfl,hc,hx⟩ := hr
  rcases hx with hx | ⟨b,o,rfl,hx⟩
  · exact ⟨base,cap,[],rfl,hc,by rw [hx]; trivial,.inl rfl⟩
  · obtain ⟨cs,k1,k2⟩ := zbb _ _ hx
    exact ⟨_,cap,cs,rfl,hc,k1,.inr ⟨b,o,rfl,zie h k2⟩⟩
theorem zpy (h : WInv cx I s hp w) {id : Nat} {t : Shape} {xs : List (El t)} {fz : Nat} (hid : hp id = some (.row t xs fz)) {v : Value} (hv : s id = some v) :
    ∃ base cap cs,v = .slice base xs.length cap ∧ xs.length ≤ cap ∧ z1t I (cellsD t xs) cs ∧ (cs = [] ∨ ∃ b o,base = some ⟨b,o,none⟩ ∧ stands w b o cs) := by
  have hr := h.cont id _ hid
  simp only [repC] at hr
  obtain ⟨base,cap,k1,k2,k3⟩ := hr
  rw [k1] at hv
  have hv' := Option.some.inj hv
  subst hv'
  rcases k3 with rfl | ⟨b,rfl,arr,e,fr,q1,q2,q3,q4,_⟩
  · have : xs = [] := List.length_eq_zero_iff.1 (by omega)
    subst this
    exact ⟨base,0,[],rfl,k2,trivial,.inl rfl⟩
  · exact ⟨_,cap,_,rfl,k2,q4,.inr ⟨b,0,rfl,zk6 (zfQ q1) _⟩⟩
theorem zpM : ∀ (xs : List Int) (cs : List Value),z1t I (cellsD (.int .u8) xs) cs → cs = xs.map (Value.int .u8)
  | [],[],_ => rfl
  | x :: r,v :: q,h => by
    have h' : repD I (.int .u8 x) v ∧ z1t I (cellsD (.int .u8) r) q := h
    have e := h'.1
    simp only [repD] at e
    rw [e,zpM r q h'.2]
    rfl
  | [],_ :: _,h => h.elim
  | _ :: _,[],h => h.elim
theorem zsJ : ∀ (xs : List Int) (b : ByteArray),xs.foldl (fun r n => r.push (UInt8.ofNat n.toNat)) b = ⟨(b.data.toList ++ strOf xs).toArray⟩
  | [],b => by simp [strOf]
  | x :: r,b => by
    rw [List.foldl_cons,zsJ r]
    congr 1
    simp [strOf,rd8,ByteArray.push]
theorem zv7 {base : Option Addr} {cap : Nat} {xs : List Int} {cs : List Value} (hr : z1t I (cellsD (.int .u8) xs) cs) (hb : cs = [] ∨ ∃ b o,base = some ⟨b,o,none⟩ ∧ stands w b o cs) :
    (Conv.bytesToString (.slice base xs.length cap)).run P w = .ok (.string ⟨(strOf xs).toArray⟩) w := by
  have hcs := zpM xs cs hr
  cases base with
  | none =>
    have : xs = [] := by
      rcases hb with hb | ⟨b,o,hb,_⟩
      · rw [hcs] at hb; simpa using hb
      · cases hb
    subst this
    rfl
  | some a =>
    have hl : (loadCells a xs.length).run P w = .ok (xs.map (Value.int .u8)).toArray w := by
      rw [← hcs]
      have hn : xs.length = cs.length := by rw [hcs]; simp
      rw [hn]
      refine run_loadCells_list w a cs fun j v hj => ?_
      rcases hb with hb | ⟨b,o,hb,hs⟩
      · rw [hb] at hj; simp at hj
      · cases hb; rw [zg8]; exact hs j v hj
    rw [run_bytesToString w a _ _ xs hl,zsJ]
    rfl
theorem grownCap_le (w : World) (n : Nat) (e : TypeId) : n ≤ grownCap w n 0 e := by
  simp only [grownCap,Question.cut]; omega
theorem zlM : ∀ (l : List UInt8),z1t I (cellsD (.int .u8) (bytesOf l)) (l.map fun b => Value.int .u8 b.toNat)
  | [] => trivial
  | b :: r => by
    have : repD I (.int .u8 (wr8 b)) (Value.int .u8 b.toNat) := by simp only [repD,wr8]
    exact ⟨this,zlM r⟩
theorem zy1 (h : WInv cx I s hp w) {nid : Nat} (hn : hp nid = none) {dir : Option Dir} {l : List UInt8} {e : TypeId} {ef : Eff} (he : made nid dir (.int .u8) (bytesOf l) 0 [] [] = some ef) :
    Res cx I s hp ef.upd ef.v (.slice (some ⟨w.heap.size,0,none⟩) l.length (grownCap w l.length 0 e)) (Lib.bytesWorld w e ⟨l.toArray⟩) := by
  have hs : (ByteArray.mk l.toArray).size = l.length := by simp [ByteArray.size]
  have hA : (Lib.bytesCells w e ⟨l.toArray⟩).toList = (l.map fun b => Value.int .u8 b.toNat) ++ List.replicate (grownCap w l.length 0 e - l.length) (.int .u8 0) := by
    simp [Lib.bytesCells,hs]
  have hle := grownCap_le w l.length e
  have hsz : (Lib.bytesCells w e ⟨l.toArray⟩).size = grownCap w l.length 0 e := by
    rw [← Array.length_toList,hA]; simp; omega
  have hl : List.length (α := El (.int .u8)) (bytesOf l) = l.length := by show (bytesOf l).length = _; simp [bytesOf]
  have := zsx h hn he (w' := Lib.bytesWorld w e ⟨l.toArray⟩) (arr := Lib.bytesCells w e ⟨l.toArray⟩) (cap := grownCap w l.length 0 e)
    ⟨by rw [Lib.bytesWorld_size]; omega,fun b hb hlt => Lib.bytesWorld_at_old w e _ b hlt,rfl,rfl,rfl⟩ (Lib.bytesWorld_at_new w e _) ⟨fun o ho h2 => by simp only at h2; omega,.inl rfl⟩
    (by rw [hsz]; simp [size]) (by rw [hl]; exact hle) (by
      rw [hA,hl]
      simp only [size,Nat.mul_one]
      rw [List.take_left' (by simp)]
      exact zlM l)
  rwa [hl] at this
theorem zvt (h : WInv cx I s hp w) (hsub : ∀ id c,hpr id = some c → hp id = some c) {nid : Nat} {dir : Option Dir} {src dst : TypeId} {x : V} {e : Eff} (he : zzm P hpr nid dir src dst x = some e)
    (hn : ∀ id ∈ keys e.upd,id = nid → hp nid = none) {v : Value} (hv : repV I s x v) : ∃ y w',(convert src dst v).run P w = .ok y w' ∧ Res cx I s hp e.upd e.v y w' := by
  unfold zzm at he
  split at he
  · cases he
  · rename_i k k' n hd h0
    simp only [ok1,Option.some.injEq] at he
    subst he
    simp only [repV] at hv
    subst hv
    have hs := z0t (rfl : und P src = _) h0
    refine ⟨.int k (k.wrap n),w,?_,Res.same h (by simp only [repV])⟩
    simp only [convert,Sem.run_bind,run_underlying hs,run_underlying (z0t hd (by simp)),Result.andThen_ok]
    rfl
  · rename_i b hd h0
    simp only [ok1,Option.some.injEq] at he
    subst he
    simp only [repV] at hv
    subst hv
    have hs := z0t (rfl : und P src = _) h0
    refine ⟨.string ⟨b.toArray⟩,w,?_,Res.same h (by simp only [repV])⟩
    simp only [convert,Sem.run_bind,run_underlying hs,run_underlying (z0t hd (by simp)),Result.andThen_ok]
    rfl
  · rename_i e' b hd h0
    split at he
    · rename_i hu
      simp only [repV] at hv
      subst hv
      have hs := z0t (rfl : und P src = _) h0
      have hk : nid ∈ keys e.upd := by
        unfold made at he
        split at he <;> (simp only [Option.some.injEq] at he; subst he; simp [keys])
      have hrun := Lib.run_convert_string_bytes (P := P) w src dst e' ⟨b.toArray⟩ hs (z0t hd (by simp)) (z0t hu (by simp))
      have hsz : (ByteArray.mk b.toArray).size = b.length := by simp [ByteArray.size]
      rw [hsz] at hrun
      exact ⟨_,_,hrun,zy1 h (hn nid hk rfl) he⟩
    · cases he
  · rename_i e' hs0 hd0 _
    have hs := z0t hs0 (by simp)
    split at he
    · rename_i hu
      have fin : ∀ xs : List Int,e = ⟨.str (strOf xs),[],[]⟩ → (∃ base cap cs,v = .slice base xs.length cap ∧ xs.length ≤ cap ∧ z1t I (cellsD (.int .u8) xs) cs ∧ (cs = [] ∨ ∃ b o,base = some ⟨b,o,none⟩ ∧ stands w b o cs)) →
          ∃ y w',(convert src dst v).run P w = .ok y w' ∧ Res cx I s hp e.upd e.v y w' := by
        rintro xs rfl ⟨base,cap,cs,rfl,_,k1,k2⟩
        refine ⟨_,w,?_,Res.same h (x := .str (strOf xs)) (by simp only [repV]; rfl)⟩
        rw [run_convert_bytes_string w src dst e' base _ cap hs (z0t hu (by simp)) (z0t hd0 (by simp))]
        exact zv7 k1 k2
      split at he
      · rename_i xs hxs
        simp only [ok1,Option.some.injEq] at he
        exact fin xs he.symm (zuW h (zn1 h hsub hxs hv))
      · split at he
        · rename_i id
          split at he
          · rename_i xs fz hid
            simp only [ok1,Option.some.injEq] at he
            simp only [repV] at hv
            exact fin xs he.symm (zpy h (hsub _ _ hid) hv.1)
          · cases he
        · cases he
    · cases he
  · cases he
end
end Go.PE
namespace Go.PE
theorem zxd (z : List Value) (hz : z.length ≠ 0) (d : Value) : ∀ c : Nat,((List.range (c * z.length)).map fun i => z.getD (i % z.length) d) = (List.replicate c z).flatten
  | 0 => by simp
  | c + 1 => by
    have ih := zxd z hz d c
    rw [Nat.add_mul,Nat.one_mul,List.range_add,List.map_append,ih,List.replicate_succ',List.flatten_append,List.flatten_singleton,List.map_map]
    congr 1
    apply List.ext_getElem?
    intro i
    by_cases hi : i < z.length
    · simp [hi,Nat.mul_add_mod_self_right,Nat.mod_eq_of_lt hi,List.getD]
    · simp [hi]
section
variable [Univ] [z2U] {cx : Cx} {I I' : Facts} {s : Hand} {hp hpr : Nat → Option C} {w w' : World} {P : Program}
theorem zfV {t : Shape} {x : El t} {z : List Value} (h : z1t I (toD t x) z) : ∀ c : Nat,z1t I (cellsD t (List.replicate c x)) (List.replicate c z).flatten
  | 0 => trivial
  | c + 1 => by
    have : cellsD t (List.replicate (c + 1) x) = toD t x ++ cellsD t (List.replicate c x) := by simp [cellsD,List.replicate_succ]
    rw [this,List.replicate_succ,List.flatten_cons]
    exact z4O _ _ _ _ h (zfV h c)
theorem zxx : ∀ (ss : List Shape) (cs : List Value),isZs ss cs = true → z1t I (zpA ss) cs
  | [],[],_ => trivial
  | t :: r,v :: q,h => by
    simp only [isZs,Bool.and_eq_true] at h
    have : zpA (t :: r) = toD t (dflt t) ++ zpA r := by simp [zpA]
    rw [this]
    exact z4O _ _ [v] q (zyz h.1) (zxx r q h.2)
  | [],_ :: _,h => by simp [isZs] at h
  | _ :: _,[],h => by simp [isZs] at h
theorem zyi (n : Nat) : toD (.user n) (dflt (.user n)) = zpA (Univ.fields n) := z2U.zero n
theorem zmT {e : TypeId} {t : Shape} (h : zl7 P e t = true) : ∃ i z,P.info? e = some i ∧ i.zero = some z ∧ i.size = size t ∧ z1t I (toD t (dflt t)) z.cells.toList ∧ isEl I t (dflt t) z := by
  unfold zl7 at h
  split at h
  · rename_i i hi
    split at h
    · rename_i z hz
      simp only [Bool.and_eq_true] at h
      obtain ⟨⟨h1,h2⟩,h3⟩ := h
      have hr : z1t I (toD t (dflt t)) z.cells.toList := by
        have := zxx (I := I) _ _ h1
        cases t with
        | user n => rw [zyi]; exact this
        | int k => simpa [zmd,zpA] using this
        | bool => simpa [zmd,zpA] using this
        | str => simpa [zmd,zpA] using this
        | list u => simpa [zmd,zpA] using this
      refine ⟨i,z,hi,hz,Nat.eq_of_beq_eq_true h2,hr,?_⟩
      unfold isEl
      cases hu : z3k t with
      | true =>
        rw [hu] at h3
        cases z <;> simp only at h3 <;> first
          | exact ⟨_,rfl,hr⟩
          | cases h3
      | false =>
        rw [hu] at h3
        cases z <;> simp only at h3 <;> first
          | exact hr
          | cases h3
    · cases h
  · cases h
theorem wrap_small {n : Int} (h0 : 0 ≤ n) (h1 : n ≤ 140737488355328) : IntKind.i64.wrap n = n := by
  have hm : n % (2 ^ IntKind.i64.bits : Int) = n := Int.emod_eq_of_lt h0 (by simp [IntKind.bits]; omega)
  simp only [IntKind.wrap,hm]
  rw [if_neg]
  simp [IntKind.bits]
  intro _
  omega
theorem zzh (z : Array Value) (i : Nat) : z[i]! = z.toList.getD i default := by
  simp only [List.getD,getElem!_def,Array.getElem?_toList]
  cases z[i]? <;> rfl
theorem zyo {e : TypeId} {i : TypeInfo} {z : Value} (hi : P.info? e = some i) (hz : i.zero = some z) (hs : z.cells.toList.length = i.size) (c : Nat) :
    ∃ zs : Array Value,((if c * i.size = 0 then pure #[] else do pure (← zeroValue e).cells : Sem (Array Value)).run P w) = .ok zs w ∧
      ((Array.range (c * i.size)).map (zs[· % zs.size]!)).toList = (List.replicate c z.cells.toList).flatten := by
  by_cases h0 : c * i.size = 0
  · refine ⟨#[],by simp [h0],?_⟩
    rw [h0]
    rcases Nat.mul_eq_zero.1 h0 with h1 | h1
    · subst h1; simp
    · have : z.cells.toList = [] := List.length_eq_zero_iff.1 (by omega)
      rw [this]; simp
  · refine ⟨z.cells,by simp [h0,z4A hi hz],?_⟩
    have hz0 : z.cells.toList.length ≠ 0 := by intro h; rw [h] at hs; rw [← hs] at h0; simp at h0
    rw [← hs,← zxd z.cells.toList hz0 default c]
    simp [zzh]
theorem zmE (h : WInv cx I s hp w) {nid : Nat} {dir : Option Dir} {t : TypeId} {l c : V} {e : Eff} (he : zkq P nid dir t l c = some e) (hc : ∀ q ∈ e.conds,q)
    (hn : ∀ id ∈ keys e.upd,id = nid → hp nid = none) {vl vc : Value} (hl : repV I s l vl) (hv : repV I s c vc) : ∃ y w',(Instr.makeSlice t vl vc).run P w = .ok y w' ∧ Res cx I s hp e.upd e.v y w' := by
  unfold zkq at he
  split at he
  · rename_i e' n k hd
    have ht := z0t hd (by simp)
    split at he
    · rename_i a ha
      cases hz : (tsz P e' (size a) && zl7 P e' a) with
      | false => simp [hz] at he
      | true =>
        simp only [hz,cond_true] at he
        simp only [Bool.and_eq_true] at hz
        obtain ⟨i,z,hi,hzz,hsz,hr,_⟩ := zmT (I := I) hz.2
        have hk : nid ∈ keys e.upd ∧ e.conds = [cMk n k (zcf P e')] := by
          unfold made at he
          split at he <;> (simp only [Option.some.injEq] at he; subst he; simp [keys])
        have hb : zcf P e' = i.bytes := by simp [zcf,Program.bytesOf,hi]
        obtain ⟨q1,q2,q3,q4⟩ : cMk n k (zcf P e') := hc _ (by rw [hk.2]; simp)
        rw [hb] at q3
        simp only [repV] at hl hv
        subst hl; subst hv
        have w1 := wrap_small q1 (by omega)
        have w2 := wrap_small (n := k) (by omega) q4
        obtain ⟨zs,g1,g2⟩ := zyo (P := P) (w := w) hi hzz (by have := z1c _ _ hr; rw [z8e] at this; omega) k.toNat
        have hbig : ¬ ((i.bytes : Int) * k > 2 ^ 48) := by rw [Int.mul_comm]; omega
        have hrun : (Instr.makeSlice t (.int .i64 n) (.int .i64 k)).run P w =
            .ok (.slice (some ⟨w.heap.size,0,none⟩) n.toNat k.toNat) (w.alloc (.cells ((Array.range (k.toNat * i.size)).map (zs[· % zs.size]!)) e')) := by
          have h1 : ¬ k < 0 := by omega
          have h2 : ¬ n < 0 := by omega
          have h3 : ¬ n > k := by omega
          simp only [Instr.makeSlice,Sem.run_bind,run_underlying ht,Result.andThen_ok,asInt,asIntOf,Sem.run_pure,zcu hi,w1,w2,h1,h2,h3,hbig,decide_false,Bool.or_self,Bool.false_eq_true,if_false,run_askRoom,z1D hi]
          by_cases h0 : k.toNat * i.size = 0
          · simp only [h0,if_true,Sem.run_pure] at g1 ⊢
            cases g1
            rfl
          · simp only [h0,if_false,Sem.run_bind,z4A hi hzz,Result.andThen_ok,Sem.run_pure] at g1 ⊢
            cases g1
            rfl
        have hA : ((Array.range (k.toNat * i.size)).map (zs[· % zs.size]!)).size = k.toNat * size a := by simp [hsz]
        have hlen : List.length (List.replicate n.toNat (dflt a)) = n.toNat := by simp
        refine ⟨_,_,hrun,?_⟩
        have := zsx h (hn nid hk.1 rfl) he (z7D w (.cells ((Array.range (k.toNat * i.size)).map (zs[· % zs.size]!)) e')) (alloc_at _ _) (zms _ _) hA (by rw [hlen]; omega) (by
          rw [g2,hlen]
          have h5 : k.toNat = n.toNat + (k.toNat - n.toNat) := by omega
          rw [h5,← List.replicate_append_replicate,List.flatten_append,List.take_left']
          · exact zfV hr _
          · have h6 := z1c _ _ (zfV (I := I) hr n.toNat)
            rw [z0V] at h6
            simpa using h6.symm)
        rwa [hlen] at this
    · cases he
  · cases he
end
end Go.PE
namespace Go.PE
section
variable [Univ] [z2U] {cx : Cx} {I I' : Facts} {s : Hand} {hp hpr : Nat → Option C} {w w' : World} {P : Program}
def Reads (P : Program) (I : Facts) (w : World) (t : Shape) (ys : List (El t)) (v : Value) : Prop :=
  ∃ cs,z1t I (cellsD t ys) cs ∧ (Builtin.lenOf v).run P w = .ok ys.length w ∧
    ∀ n,n ≤ ys.length → (Builtin.firstCells (size t) n v).run P w = .ok (cs.take (n * size t)).toArray w
theorem zgz {t : Shape} {xs : List (El t)} {base : Option Addr} {cap : Nat} {cs : List Value} (hr : z1t I (cellsD t xs) cs) (hb : cs = [] ∨ ∃ b o,base = some ⟨b,o,none⟩ ∧ stands w b o cs) :
    Reads P I w t xs (.slice base xs.length cap) := by
  refine ⟨cs,hr,rfl,fun n hn => ?_⟩
  have hl := z1c _ _ hr
  rw [z0V] at hl
  have hle : n * size t ≤ xs.length * size t := Nat.mul_le_mul_right _ hn
  cases base with
  | none =>
    have : cs = [] := by
      rcases hb with hb | ⟨b,o,hb,_⟩
      · exact hb
      · cases hb
    subst this
    simp [Builtin.firstCells]
  | some a =>
    have e : n * size t = (cs.take (n * size t)).length := by rw [List.length_take]; omega
    show (loadCells a (n * size t)).run P w = _
    have := run_loadCells_list (P := P) w a (cs.take (n * size t)) (fun j v hj => by
      rcases hb with hb | ⟨b,o,hb,hs⟩
      · rw [hb] at hj; simp at hj
      · cases hb; rw [zg8]; exact zk6 hs _ j v hj)
    rwa [← e] at this
theorem zuZ (l : List UInt8) : Reads P I w (.int .u8) (bytesOf l) (.string ⟨l.toArray⟩) := by
  have hl : List.length (α := El (.int .u8)) (bytesOf l) = l.length := by show (bytesOf l).length = _; simp [bytesOf]
  refine ⟨_,zlM l,?_,fun n hn => ?_⟩
  · rw [hl]; simp [Builtin.lenOf,ByteArray.size]
  · simp only [size,Nat.mul_one,Builtin.firstCells,Sem.run_pure]
    congr 1
    apply Array.ext'
    simp [ByteArray.data_extract,Array.toList_extract,List.extract_eq_take_drop,List.map_take]
theorem zkD (h : WInv cx I s hp w) (hsub : ∀ id c,hpr id = some c → hp id = some c) {t : Shape} {x : V} {ys : List (El t)} (hi : zty hpr t x = some ys) {v : Value} (hv : repV I s x v) : Reads P I w t ys v := by
  unfold zty at hi
  split at hi
  · cases hi
    simp only [repV] at hv
    subst hv
    exact zgz (xs := ([] : List (El t))) (cs := []) trivial (.inl rfl)
  · rename_i u xs fl
    obtain ⟨e,rfl⟩ := zge hi
    subst e
    simp only [repV] at hv
    obtain ⟨base,cap,cs,rfl,_,k1,k2⟩ := zuW h hv.1
    exact zgz k1 k2
  · rename_i id
    split at hi
    · rename_i u xs fz hid
      obtain ⟨e,rfl⟩ := zge hi
      subst e
      simp only [repV] at hv
      obtain ⟨base,cap,cs,rfl,_,k1,k2⟩ := zpy h (hsub _ _ hid) hv.1
      exact zgz k1 k2
    · cases hi
  · rename_i b
    obtain ⟨e,rfl⟩ := zge hi
    subst e
    simp only [repV] at hv
    subst hv
    exact zuZ b
  · cases hi
theorem zkJ {t u e : TypeId} {d : TypeDesc} {i : TypeInfo} (ht : P.underlying t = some (.slice e)) (hu : P.underlying u = some d) (hd : ∀ k,d ≠ .int k) (hi : P.info? e = some i)
    {a : Shape} (hsz : i.size = size a) {ys : List (El a)} {v : Value} {cs : List Value} (hl : (Builtin.lenOf v).run P w = .ok ys.length w) (hf : (Builtin.firstCells (size a) ys.length v).run P w = .ok cs.toArray w)
    {base : Option Addr} {n cap : Nat} (hroom : n + ys.length ≤ cap) (ty : TypeId) {w' : World} (hst : ∀ b,base = some b → (storeCells (b.add (n * size a)) cs).run P w = .ok () w') (hno : base = none → w' = w) :
    (Builtin.append_ #[t,u] ty #[.slice base n cap,v]).run P w = .ok (.slice base (n + ys.length) cap) w' := by
  have hz : (d matches .int _) = false := by cases d <;> first | rfl | exact absurd rfl (hd _)
  simp only [Builtin.append_,List.getElem?_toArray,List.getElem?_cons_zero,List.getElem?_cons_succ,Sem.run_bind,run_underlying ht,run_underlying hu,Result.andThen_ok,z1D hi,Sem.run_pure,hz,Bool.false_eq_true,if_false,hl,if_pos hroom,hsz,Bool.not_false,if_true,hf]
  cases base with
  | none => simp only [Sem.run_pure,Result.andThen_ok]; rw [hno rfl]
  | some b => simp only [hst b rfl,Sem.run_bind,Result.andThen_ok,Sem.run_pure]
theorem zqG {t u e : TypeId} {d : TypeDesc} {i : TypeInfo} {z : Value} (ht : P.underlying t = some (.slice e)) (hu : P.underlying u = some d) (hd : ∀ k,d ≠ .int k) (hi : P.info? e = some i) (hz : i.zero = some z)
    {k : Nat} {v : Value} {olds cs : List Value} (hl : (Builtin.lenOf v).run P w = .ok k w) (hf : (Builtin.firstCells i.size k v).run P w.drew = .ok cs.toArray w.drew)
    {base : Option Addr} {n cap : Nat} (hfo : (Builtin.firstCells i.size n (.slice base n cap)).run P w.drew = .ok olds.toArray w.drew) (hg : cap < n + k) (hb : 0 < i.bytes) (hfit : (n + k) * i.bytes ≤ 140737488355328) (ty : TypeId) :
    (Builtin.append_ #[t,u] ty #[.slice base n cap,v]).run P w =
      .ok (.slice (some ⟨w.heap.size,0,none⟩) (n + k) (grownCap w (n + k) cap e)) (w.drew.alloc (.cells (olds.toArray ++ cs.toArray ++ Builtin.zeroCells z.cells (grownCap w (n + k) cap e - (n + k))) e)) := by
  have hzz : (d matches .int _) = false := by cases d <;> first | rfl | exact absurd rfl (hd _)
  have hn : ¬ (n + k ≤ cap) := by omega
  have hle : n + k ≤ (n + k) * i.bytes := Nat.le_mul_of_pos_right _ hb
  have h63 : ¬ (((n + k : Nat) : Int) > IntKind.i64.max ∧ (False ∨ i.bytes = 0)) := by rintro ⟨_,h | h⟩; exact h; omega
  have h48 : ¬ (Builtin.nextslicecap (n + k) cap * i.bytes > 2 ^ 48) := by have := growslice_fits (old := cap) hg hfit; omega
  have hforced : (Question.appendCap (n + k) cap e).forced = false := rfl
  simp only [Builtin.append_,List.getElem?_toArray,List.getElem?_cons_zero,List.getElem?_cons_succ,Sem.run_bind,run_underlying ht,run_underlying hu,Result.andThen_ok,z1D hi,Sem.run_pure,hzz,Bool.false_eq_true,if_false,hl,if_neg hn,
    zcu hi,if_neg h63,if_neg h48,run_choose,hforced,World.drew_eq,run_askRoom,hfo,hf,Bool.not_false,if_true,z4A hi hz,newRow,run_newObj,World.alloc_eq,grownCap,World.size_drew]
end
end Go.PE
namespace Go.PE
section
variable [Univ] [z2U] {cx : Cx} {I I' : Facts} {s : Hand} {hp hpr : Nat → Option C} {w w' : World} {P : Program}
theorem rowAt (h : WInv cx I s hp w) {nid b : Nat} (hn : hp nid = none) (hfree : ∀ i c0,hp i = some c0 → blk s i c0 ≠ some b) (hown : cx.w0.heap.size ≤ b ∨ cx.hid b) {t : Shape} {xs : List (El t)} {arr : Array Value} {cap : Nat} {e : TypeId} {fr : Nat × Nat}
    (hw : But (some b) w w') (hg : w'.heap[b]? = some (.cells arr e fr)) (hth : still t fr arr.size) (hsz : arr.size = cap * size t) (hl : xs.length ≤ cap)
    (hr : z1t I (cellsD t xs) (arr.toList.take (xs.length * size t))) (hI : ∀ o v,I b o = some v → o < xs.length * size t ∧ arr[o]? = some v) {fz : Nat} (hf : fz = 0 → ∀ o,I b o = none) (hf2 : fz ≠ 2) :
    Res cx I s hp [(nid,.row t xs fz)] (.row nid) (.slice (some ⟨b,0,none⟩) xs.length cap) w' := by
  refine ⟨I,setF s nid (.slice (some ⟨b,0,none⟩) xs.length cap),Facts.le_refl _,z8T (h.unknown hn),?_,?_⟩
  · refine h.zk1 nid _ (some b) (fun c0 h0 => by rw [hn] at h0; cases h0) (z8T (h.unknown hn)) (fun i u hu => ?_) (fun b' hb => ?_) hw (Facts.le_refl _) (fun _ _ _ => rfl)
      (fun b' o v e hv => by
        cases e
        simp only [World.cell?,hg]
        simpa using (hI o v hv).2)
      (fun b' e i c0 h0 => by cases e; exact hfree i c0 h0) (fun b' e => by cases e; exact hown) ?_
    · by_cases hi : i = nid
      · exact .inl hi
      · rw [z0O _ _ hi] at hu; exact .inr hu
    · cases cap with
      | zero => simp [blk] at hb
      | succ c => simp [blk] at hb; rw [hb]
    · simp only [repC]
      exact ⟨_,cap,by simp,hl,.inr ⟨b,rfl,arr,e,fr,hg,hth,hsz,hr,(fun o v hv => (hI o v hv).1),hf,(fun h2 => absurd h2 hf2)⟩⟩
  · simp only [repV]
    exact ⟨by simp,_,_,_,rfl⟩
theorem zDU (h : WInv cx I s hp w) {nid b : Nat} (hn : hp nid = none) (hfree : ∀ i c0,hp i = some c0 → blk s i c0 ≠ some b) (hown : cx.w0.heap.size ≤ b ∨ cx.hid b) {t : Shape} {xs : List (El t)} {arr : Array Value} {cap fl : Nat} {e : TypeId} {fr : Nat × Nat}
    (hw : But (some b) w w') (hg : w'.heap[b]? = some (.cells arr e fr)) (hl : xs.length ≤ cap)
    (hr : z1t I (cellsD t xs) (arr.toList.take (xs.length * size t))) (hI : ∀ o v,I b o = some v → o < xs.length * size t ∧ arr[o]? = some v) (hf : flag fl (.slice (some ⟨b,0,none⟩) xs.length cap)) :
    Res cx I s hp [(nid,.dead)] (.lst t xs fl) (.slice (some ⟨b,0,none⟩) xs.length cap) w' := by
  have hle : I.le (z1k I b (arr.toList.take (xs.length * size t))) := by
    intro b' o v hv
    simp only [z1k]
    split
    · rename_i hb
      subst hb
      obtain ⟨q1,q2⟩ := hI o v hv
      rw [List.getElem?_take,if_pos q1]
      simpa using q2
    · exact hv
  refine ⟨z1k I b (arr.toList.take (xs.length * size t)),s,hle,Hand.le_refl _,?_,?_⟩
  · refine h.zk1 nid .dead (some b) (fun c0 h0 => by rw [hn] at h0; cases h0) (Hand.le_refl _) (fun i v hv => .inr hv) (fun b hb => by simp [blk] at hb) hw hle
      (fun b' hb o => by simp only [z1k]; rw [if_neg (fun e => hb (by rw [e]))]) (fun b' o v e hv => ?_) (fun b' e i c0 h0 => by cases e; exact hfree i c0 h0)
      (fun b' e => by cases e; exact hown) trivial
    cases e
    simp only [z1k,if_true] at hv
    rw [List.getElem?_take] at hv
    split at hv
    · simp only [World.cell?,hg]
      simpa using hv
    · cases hv
  · simp only [repV,repD]
    refine ⟨⟨_,cap,rfl,hl,.inr ⟨_,0,rfl,z3O _ _ 0 (z8g hle _ _ hr) (fun j v hj => ?_)⟩⟩,hf⟩
    simp only [z1k,if_true,Nat.zero_add]
    exact hj
theorem zp6 (h : WInv cx I s hp w) {nid : Nat} (hn : hp nid = none) {t : Shape} {fz : Nat} (base : Option Addr) :
    Res cx I s hp [(nid,.row t ([] : List (El t)) fz)] (.row nid) (.slice base 0 0) w ∧ Res cx I s hp [(nid,.dead)] (.lst t [] 0) (.slice base 0 0) w := by
  constructor
  · refine ⟨I,setF s nid (.slice base 0 0),Facts.le_refl _,z8T (h.unknown hn),?_,?_⟩
    · refine h.zk1 nid _ none (fun c0 h0 => by rw [hn] at h0; cases h0) (z8T (h.unknown hn)) (fun i u hu => ?_) (fun b' hb => by cases base <;> simp [blk] at hb) ⟨Nat.le_refl _,fun _ _ _ => rfl,rfl,rfl,rfl⟩ (Facts.le_refl _) (fun _ _ _ => rfl)
        (fun b' o v e hv => by cases e) (fun b' e => by cases e) (fun b' e => by cases e) ?_
      · by_cases hi : i = nid
        · exact .inl hi
        · rw [z0O _ _ hi] at hu; exact .inr hu
      · simp only [repC]
        exact ⟨base,0,by simp,Nat.le_refl _,.inl rfl⟩
    · simp only [repV]
      exact ⟨by simp,_,_,_,rfl⟩
  · refine ⟨I,s,Facts.le_refl _,Hand.le_refl _,?_,?_⟩
    · exact h.zk1 nid .dead none (fun c0 h0 => by rw [hn] at h0; cases h0) (Hand.le_refl _) (fun i u hu => .inr hu) (fun b' hb => by simp [blk] at hb) ⟨Nat.le_refl _,fun _ _ _ => rfl,rfl,rfl,rfl⟩ (Facts.le_refl _) (fun _ _ _ => rfl)
        (fun b' o v e hv => by cases e) (fun b' e => by cases e) (fun b' e => by cases e) trivial
    · simp only [repV,repD]
      exact ⟨⟨base,0,rfl,Nat.le_refl _,.inl rfl⟩,by unfold flag; trivial⟩
end
end Go.PE
namespace Go.PE
section
variable [Univ] [z2U] {cx : Cx} {I I' : Facts} {s : Hand} {hp hpr : Nat → Option C} {w w' : World} {P : Program}
theorem zyn (h : WInv cx I s hp w) {nid b : Nat} (hn : hp nid = none) (hfree : ∀ i c0,hp i = some c0 → blk s i c0 ≠ some b) (hown : cx.w0.heap.size ≤ b ∨ cx.hid b) {dir : Option Dir} {t : Shape} {xs : List (El t)} {fz : Nat}
    {upd : List (Nat × C)} {conds : List Prop} {ef : Eff} (he : made nid dir t xs fz upd conds = some ef) {arr : Array Value} {cap : Nat} {e : TypeId} {fr : Nat × Nat}
    (hw : But (some b) w w') (hg : w'.heap[b]? = some (.cells arr e fr)) (hth : still t fr arr.size) (hsz : arr.size = cap * size t) (hl : xs.length ≤ cap)
    (hr : z1t I (cellsD t xs) (arr.toList.take (xs.length * size t))) (hI : ∀ o v,I b o = some v → o < xs.length * size t ∧ arr[o]? = some v) (hf : fz = 0 → ∀ o,I b o = none) (hf2 : fz ≠ 2) :
    ∃ c,ef.upd = (nid,c) :: upd ∧ Res cx I s hp [(nid,c)] ef.v (.slice (some ⟨b,0,none⟩) xs.length cap) w' := by
  unfold made at he
  split at he
  · simp only [Option.some.injEq] at he
    subst he
    exact ⟨_,rfl,zDU h hn hfree hown hw hg hl hr hI (by unfold flag; trivial)⟩
  · simp only [Option.some.injEq] at he
    subst he
    exact ⟨_,rfl,rowAt h hn hfree hown hw hg hth hsz hl hr hI hf hf2⟩
theorem zsr {nid : Nat} {dir : Option Dir} {t : Shape} {xs : List (El t)} {fz : Nat} {upd : List (Nat × C)} {conds : List Prop} {ef : Eff} (he : made nid dir t xs fz upd conds = some ef) : ef.conds = conds := by
  unfold made at he
  split at he <;> (simp only [Option.some.injEq] at he; subst he; rfl)
theorem zsF (h : WInv cx I s hp w) {nid : Nat} (hn : hp nid = none) {dir : Option Dir} {t : Shape} {fz : Nat} {upd : List (Nat × C)} {conds : List Prop} {ef : Eff} (he : made nid dir t ([] : List (El t)) fz upd conds = some ef) (base : Option Addr) :
    ∃ c,ef.upd = (nid,c) :: upd ∧ Res cx I s hp [(nid,c)] ef.v (.slice base 0 0) w := by
  unfold made at he
  split at he
  · simp only [Option.some.injEq] at he
    subst he
    exact ⟨_,rfl,(zp6 h (fz := 0) hn base).2⟩
  · simp only [Option.some.injEq] at he
    subst he
    exact ⟨_,rfl,(zp6 h hn base).1⟩
theorem zvP (h : WInv cx I s hp w) {nid : Nat} (hn : hp nid = none) {dir : Option Dir} {a : Shape} {xs ys : List (El a)} {fz : Nat} {upd : List (Nat × C)} {conds : List Prop} {ef : Eff} (he : made nid dir a (xs ++ ys) fz upd conds = some ef) (hf2 : fz ≠ 2)
    {e : TypeId} {cap old : Nat} {olds cs : List Value} {z : Array Value} (hz : z.size = size a) (h1 : z1t I (cellsD a xs) olds) (h2 : z1t I (cellsD a ys) cs) (hcap : xs.length + ys.length ≤ cap) :
    ∃ c,ef.upd = (nid,c) :: upd ∧ Res cx I s hp [(nid,c)] ef.v (.slice (some ⟨w.heap.size,0,none⟩) (xs.length + ys.length) cap)
      (w.drew.alloc (.cells (olds.toArray ++ cs.toArray ++ Builtin.zeroCells z (cap - (xs.length + ys.length))) e)) := by
  have l1 := z1c _ _ h1
  have l2 := z1c _ _ h2
  rw [z0V] at l1 l2
  have hadd : (xs.length + ys.length) * size a = olds.length + cs.length := by rw [Nat.add_mul,l1,l2]
  have hcap2 : cap * size a = (xs.length + ys.length) * size a + (cap - (xs.length + ys.length)) * size a := by rw [← Nat.add_mul]; congr 1; omega
  have := zyn h (b := w.heap.size) hn (fun i c0 h0 hb => by have := h.zpC h0 hb; omega) (.inl h.size) he (cap := cap) (e := e) (fr := (0,0))
    (w' := w.drew.alloc (.cells (olds.toArray ++ cs.toArray ++ Builtin.zeroCells z (cap - (xs.length + ys.length))) e)) (arr := olds.toArray ++ cs.toArray ++ Builtin.zeroCells z (cap - (xs.length + ys.length)))
    (let q := z7D w.drew _; ⟨q.size,q.heap,q.os,q.tape,q.out⟩) (alloc_at w.drew _) (zms _ _) (by simp only [Array.size_append,List.size_toArray,Builtin.zeroCells,Array.size_map,Array.size_range,hz]; omega) (by rw [List.length_append]; exact hcap)
    (by
      rw [List.length_append,hadd]
      simp only [Array.toList_append]
      rw [List.take_left' (by simp),z6J]
      exact z4O _ _ _ _ h1 h2)
    (fun o v hv => by rw [h.z5j] at hv; cases hv) (fun _ => h.z5j) hf2
  rwa [List.length_append] at this
theorem zeH (h : WInv cx I s hp w) (hsub : ∀ id c,hpr id = some c → hp id = some c) {nid : Nat} (hn : hp nid = none) {dir : Option Dir} {t u : TypeId} {d : TypeDesc} (hu : P.underlying u = some d) (hd : ∀ k,d ≠ .int k) {b x : V} {ef : Eff}
    (he : zg2 P hpr nid dir t b x = some ef) (hc : ∀ q ∈ ef.conds,q) {va vx : Value} (ha : repV I s b va) (hx : repV I s x vx) (ty : TypeId) :
    ∃ y w',(Builtin.append_ #[t,u] ty #[va,vx]).run P w = .ok y w' ∧ Res cx I s hp ef.upd ef.v y w' := by
  have hD : WInv cx I s hp w.drew := h.of_heap rfl rfl rfl rfl
  unfold zg2 at he
  split at he
  · rename_i e hdd
    have ht := z0t hdd (by simp)
    split at he
    · rename_i a hshp
      cases hz : (tsz P e (size a) && zl7 P e a && Nat.blt 0 (zcf P e)) with
      | false => simp [hz] at he
      | true =>
        simp only [hz,cond_true] at he
        simp only [Bool.and_eq_true] at hz
        obtain ⟨⟨z1,z2⟩,z3⟩ := hz
        obtain ⟨i,z,hi,hzz,hsz,hr,_⟩ := zmT (I := I) z2
        have hb : zcf P e = i.bytes := by simp [zcf,Program.bytesOf,hi]
        have hbp : 0 < i.bytes := by rw [← hb]; simpa [Nat.blt_eq] using z3
        have hzs : z.cells.size = size a := by
          have := z1c _ _ hr
          rw [z8e] at this
          rw [← Array.length_toList,this]
        split at he
        · rename_i ys hys
          obtain ⟨cs,r1,r2,r3⟩ := zkD h hsub hys hx
          obtain ⟨cs',s1,s2,s3⟩ := zkD hD hsub hys hx
          have lcs := z1c _ _ r1
          have lcs' := z1c _ _ s1
          rw [z0V] at lcs lcs'
          have f1 : (Builtin.firstCells (size a) ys.length vx).run P w = .ok cs.toArray w := by
            have := r3 ys.length (Nat.le_refl _)
            rwa [List.take_of_length_le (by omega)] at this
          have f2 : (Builtin.firstCells i.size ys.length vx).run P w.drew = .ok cs'.toArray w.drew := by
            have := s3 ys.length (Nat.le_refl _)
            rwa [List.take_of_length_le (by omega),← hsz] at this
          have nothing : ∀ base,va = .slice base 0 0 → made nid dir a ys 0 [] [fits (ys.length * zcf P e)] = some ef → ∃ y w',(Builtin.append_ #[t,u] ty #[va,vx]).run P w = .ok y w' ∧ Res cx I s hp ef.upd ef.v y w' := by
            rintro base rfl he
            by_cases h0 : ys = []
            · subst h0
              have hc0 : cs = [] := List.length_eq_zero_iff.1 (by simp at lcs; omega)
              subst hc0
              have hrun := zkJ (P := P) (w := w) ht hu hd hi hsz r2 f1 (base := base) (n := 0) (cap := 0) (by simp) ty (w' := w) (fun b _ => rfl) (fun _ => rfl)
              obtain ⟨c,e1,e2⟩ := zsF h hn he base
              exact ⟨_,_,hrun,by rw [e1]; exact e2⟩
            · have hpos : 0 < ys.length := List.length_pos_iff.2 h0
              have hfit : fits (ys.length * zcf P e) := hc _ (by rw [zsr he]; simp)
              have hrun := zqG (P := P) (w := w) ht hu hd hi hzz r2 f2 (base := base) (n := 0) (cap := 0) (olds := []) (by cases base <;> simp [Builtin.firstCells,loadCells,loadCellsFrom]) (by omega) hbp (by rw [← hb]; simpa using hfit) ty
              have := zvP h hn (xs := []) (ys := ys) he (by omega) (e := e) (cap := grownCap w (0 + ys.length) 0 e) (old := 0) (olds := []) hzs trivial s1 (by have := grownCap_ge w (0 + ys.length) 0 e; simpa using this)
              obtain ⟨c,e1,e2⟩ := this
              exact ⟨_,_,hrun,by rw [e1]; exact e2⟩
          split at he
          · simp only [repV] at ha
            exact nothing none ha he
          · simp only [repV,repD,flag] at ha
            obtain ⟨⟨base,cap,rfl,hle,_⟩,hfl⟩ := ha
            have : cap = 0 := by simpa using hfl
            subst this
            exact nothing base rfl he
          · rename_i id
            split at he
            · rename_i a' xs fz hid
              split at he
              · rename_i xs' hcast
                obtain ⟨ee,rfl⟩ := zge hcast
                subst ee
                simp only [repV] at ha
                obtain ⟨ha1,_⟩ := ha
                have hfit : fits ((xs.length + ys.length) * zcf P e) := hc _ (by rw [zsr he]; simp)
                have hfz2 : (match fz with | 0 => 0 | _ => 1) ≠ 2 := by split <;> omega
                have hne : nid ≠ id := by rintro rfl; rw [hsub _ _ hid] at hn; cases hn
                have hk := h.kill id
                have hkn : setF hp id .dead nid = none := by rw [z0O _ _ hne]; exact hn
                have hr := h.cont id _ (hsub _ _ hid)
                simp only [repC] at hr
                obtain ⟨base,cap,k1,k2,k3⟩ := hr
                rw [k1] at ha1
                have ha1 := Option.some.inj ha1
                subst ha1
                by_cases hroom : xs.length + ys.length ≤ cap
                · rcases Nat.eq_zero_or_pos cap with hc0 | hcp
                  · subst hc0
                    have hx0 : xs = [] := List.length_eq_zero_iff.1 (by omega)
                    have hy0 : ys = [] := List.length_eq_zero_iff.1 (by omega)
                    subst hx0; subst hy0
                    have hcs0 : cs = [] := List.length_eq_zero_iff.1 (by simp at lcs; omega)
                    subst hcs0
                    have hrun := zkJ (P := P) (w := w) ht hu hd hi hsz r2 f1 (base := base) (n := 0) (cap := 0) (by simp) ty (w' := w) (fun b _ => rfl) (fun _ => rfl)
                    obtain ⟨c,e1,e2⟩ := zsF hk hkn he base
                    exact ⟨_,_,hrun,by rw [e1]; exact e2⟩
                  · rcases k3 with hc0 | ⟨b,rfl,arr,e',fr,q1,q2,q3,q4,q5,q6,q7⟩
                    · omega
                    · have hal : arr.toList.length = arr.size := Array.length_toList
                      have hmul : (xs.length + ys.length) * size a' ≤ cap * size a' := Nat.mul_le_mul_right _ hroom
                      rw [Nat.add_mul] at hmul
                      have hst := z6I P b (xs.length * size a') e' fr cs 0 arr w q1 q2.1 (by omega) (zl1 _ _ r1)
                      rw [Nat.add_zero] at hst
                      have hrun := zkJ (P := P) (w := w) ht hu hd hi hsz r2 f1 (base := some ⟨b,0,none⟩) (n := xs.length) (cap := cap) hroom ty (fun b' hb' => by cases hb'; rw [zg8,Nat.zero_add]; exact hst) (fun hb' => by cases hb')
                      have hlen : (arr.toList.take (xs.length * size a') ++ cs ++ arr.toList.drop (xs.length * size a' + cs.length)).length = arr.size := by
                        rw [z9s _ _ _ (by omega),hal]
                      have hblk : blk s id (.row a' xs fz) = some b := by
                        obtain ⟨c',rfl⟩ : ∃ c',cap = c' + 1 := ⟨cap - 1,by omega⟩
                        simp [blk,k1]
                      have := zyn hk (b := b) hkn (fun i c0 h0 hb' => by
                          by_cases hi' : i = id
                          · subst hi'; simp at h0; subst h0; simp [blk] at hb'
                          · rw [z0O _ _ hi'] at h0
                            exact hi' (h.apart i id c0 _ b h0 (hsub _ _ hid) hb' hblk))
                        (h.own id _ b (hsub _ _ hid) hblk) he (cap := cap) (zcK w b _) (zeL q1) (by rw [List.size_toArray,hlen]; exact q2) (by rw [List.size_toArray,hlen]; exact q3) (by rw [List.length_append]; exact hroom)
                        (by
                          rw [List.length_append,Nat.add_mul,z6J]
                          have : (arr.toList.take (xs.length * size a') ++ cs ++ arr.toList.drop (xs.length * size a' + cs.length)).toArray.toList.take (xs.length * size a' + ys.length * size a') = arr.toList.take (xs.length * size a') ++ cs := by
                            rw [List.take_left']
                            rw [List.length_append,List.length_take]; omega
                          rw [this]
                          exact z4O _ _ _ _ q4 r1)
                        (fun o v hv => by
                          have ho := q5 o v hv
                          refine ⟨by show o < (xs ++ ys).length * size a'; rw [List.length_append,Nat.add_mul]; omega,?_⟩
                          have hag := h.agree b o v hv
                          simp only [World.cell?,q1] at hag
                          have hag' : arr.toList[o]? = some v := by simpa using hag
                          rw [List.getElem?_toArray,List.append_assoc,List.getElem?_append_left (by rw [List.length_take]; omega),List.getElem?_take,if_pos ho]
                          exact hag')
                        (fun hf => q6 (by revert hf; split <;> simp)) hfz2
                      obtain ⟨c,e1,e2⟩ := this
                      rw [List.length_append] at e2
                      exact ⟨_,_,hrun,by rw [e1]; exact e2⟩
                · obtain ⟨base',cap',olds,p1,p2,p3,p4⟩ := zpy hD (hsub _ _ hid) k1
                  cases p1
                  obtain ⟨olds',o1,_,o3⟩ := zgz (P := P) (cap := cap) p3 p4
                  have lo := z1c _ _ o1
                  rw [z0V] at lo
                  have fo : (Builtin.firstCells i.size xs.length (.slice base xs.length cap)).run P w.drew = .ok olds'.toArray w.drew := by
                    have := o3 xs.length (Nat.le_refl _)
                    rwa [List.take_of_length_le (by omega),← hsz] at this
                  have hrun := zqG (P := P) (w := w) ht hu hd hi hzz r2 f2 fo (by omega) hbp (by rw [← hb]; exact hfit) ty
                  obtain ⟨c,e1,e2⟩ := zvP hk hkn he hfz2 (e := e) (cap := grownCap w (xs.length + ys.length) cap e) (old := cap) hzs o1 s1 (grownCap_ge w _ cap e)
                  exact ⟨_,_,hrun,by rw [e1]; exact e2⟩
              · cases he
            · cases he
          · cases he
        · cases he
    · cases he
  · cases he
end
end Go.PE
namespace Go.PE
section
variable [Univ] [z2U] {cx : Cx} {I I' : Facts} {s : Hand} {hp hpr : Nat → Option C} {w w' : World} {P : Program}
theorem zyb {t : Shape} {ys : List (El t)} {cs : List Value} (h : z1t I (cellsD t ys) cs) (n : Nat) : z1t I (cellsD t (ys.take n)) (cs.take (n * size t)) := by
  by_cases hn : n ≤ ys.length
  · have e : cellsD t (ys.take n) ++ cellsD t (ys.drop n) = cellsD t ys := by rw [← z6J,List.take_append_drop]
    rw [← e] at h
    have := (z8Y _ _ _ h).1
    rw [z0V,List.length_take,Nat.min_eq_left hn] at this
    exact this
  · have l := z1c _ _ h
    rw [z0V] at l
    have : ys.length * size t ≤ n * size t := Nat.mul_le_mul_right _ (by omega)
    rw [List.take_of_length_le (by omega),List.take_of_length_le (by omega)]
    exact h
theorem zyd {t : Shape} {ys : List (El t)} {cs : List Value} (h : z1t I (cellsD t ys) cs) (n : Nat) : z1t I (cellsD t (ys.drop n)) (cs.drop (n * size t)) := by
  by_cases hn : n ≤ ys.length
  · have e : cellsD t (ys.take n) ++ cellsD t (ys.drop n) = cellsD t ys := by rw [← z6J,List.take_append_drop]
    rw [← e] at h
    have := (z8Y _ _ _ h).2
    rw [z0V,List.length_take,Nat.min_eq_left hn] at this
    exact this
  · have l := z1c _ _ h
    rw [z0V] at l
    have : ys.length * size t ≤ n * size t := Nat.mul_le_mul_right _ (by omega)
    rw [List.drop_of_length_le (by omega),List.drop_of_length_le (by omega)]
    trivial
theorem zx2 {t u e : TypeId} {i : TypeInfo} (ht : P.underlying t = some (.slice e)) (hi : P.info? e = some i) {base : Option Addr} {n cap k : Nat} {v : Value} {cs : Array Value} (hl : (Builtin.lenOf v).run P w = .ok k w)
    (hf : (Builtin.firstCells i.size (min k n) v).run P w = .ok cs w) (hst : ∀ a,base = some a → (storeCells a cs.toList).run P w = .ok () w') (hno : base = none → w' = w) (ty : TypeId) :
    (Builtin.copy_ #[t,u] ty #[.slice base n cap,v]).run P w = .ok (.int .i64 (min k n : Nat)) w' := by
  have hm : Nat.min k n = min k n := rfl
  cases base with
  | none =>
    rw [hno rfl]
    simp only [Builtin.copy_,List.getElem?_toArray,List.getElem?_cons_zero,List.getElem?_cons_succ,Sem.run_bind,run_underlying ht,Result.andThen_ok,hl,z1D hi,hm,hf,Sem.run_pure]
    rfl
  | some a =>
    simp only [Builtin.copy_,List.getElem?_toArray,List.getElem?_cons_zero,List.getElem?_cons_succ,Sem.run_bind,run_underlying ht,Result.andThen_ok,hl,z1D hi,hm,hf,hst a rfl,Sem.run_pure]
    rfl
theorem zuD (h : WInv cx I s hp w) (hsub : ∀ id c,hpr id = some c → hp id = some c) {t u : TypeId} {d x : V} {ef : Eff} (he : zyt P hpr t d x = some ef) {vd vx : Value} (hd : repV I s d vd) (hx : repV I s x vx) (ty : TypeId) :
    ∃ y w',(Builtin.copy_ #[t,u] ty #[vd,vx]).run P w = .ok y w' ∧ Res cx I s hp ef.upd ef.v y w' := by
  unfold zyt at he
  split at he
  · rename_i e hdd
    have ht := z0t hdd (by simp)
    split at he
    · rename_i id
      split at he
      · rename_i a xs hid
        cases hz : tsz P e (size a) with
        | false => simp [hz] at he
        | true =>
          simp only [hz,cond_true] at he
          obtain ⟨i,hi,hsz,_⟩ := z4w hz
          split at he
          · rename_i ys hys
            simp only [Option.some.injEq] at he
            subst he
            obtain ⟨cs,r1,r2,r3⟩ := zkD h hsub hys hx
            have lcs := z1c _ _ r1
            rw [z0V] at lcs
            have hf := r3 (min ys.length xs.length) (Nat.min_le_left _ _)
            rw [← hsz] at hf
            simp only [repV] at hd
            obtain ⟨hd1,_⟩ := hd
            have hr := h.cont id _ (hsub _ _ hid)
            simp only [repC] at hr
            obtain ⟨base,cap,k1,k2,k3⟩ := hr
            rw [k1] at hd1
            have hd1 := Option.some.inj hd1
            subst hd1
            have hlen : (ys.take xs.length ++ xs.drop ys.length).length = xs.length := by simp; omega
            rcases Nat.eq_zero_or_pos cap with hc0 | hcp
            · subst hc0
              have hx0 : xs = [] := List.length_eq_zero_iff.1 (by omega)
              subst hx0
              have hrun := zx2 (P := P) (u := u) (cap := 0) ht hi r2 hf (base := base) (w' := w) (fun a _ => by simp [storeCells]) (fun _ => rfl) ty
              refine ⟨_,_,hrun,I,s,Facts.le_refl _,Hand.le_refl _,?_,by simp only [repV,List.length_nil]⟩
              refine h.kill id |>.zk1 (s' := s) id (.row a (ys.take 0 ++ ([] : List (El a)).drop ys.length) 0) none (fun c0 h0 => by simp at h0; subst h0; rfl) (Hand.le_refl _) (fun i v hv => .inr hv) (fun b' hb' => by cases base <;> simp [blk,k1] at hb') ⟨Nat.le_refl _,fun _ _ _ => rfl,rfl,rfl,rfl⟩
                (Facts.le_refl _) (fun _ _ _ => rfl) (fun b' o v e hv => by cases e) (fun b' e => by cases e) (fun b' e => by cases e) ?_ |> fun q => by rwa [zeO] at q
              simp only [repC]
              exact ⟨base,0,by simpa using k1,by simp,.inl rfl⟩
            · rcases k3 with hc0 | ⟨b,rfl,arr,e',fr,q1,q2,q3,q4,q5,q6,q7⟩
              · omega
              · have hal : arr.toList.length = arr.size := Array.length_toList
                have hmul : xs.length * size a ≤ cap * size a := Nat.mul_le_mul_right _ k2
                have hmin : (min ys.length xs.length) * size a ≤ xs.length * size a := Nat.mul_le_mul_right _ (Nat.min_le_right _ _)
                have hmin2 : (min ys.length xs.length) * size a ≤ ys.length * size a := Nat.mul_le_mul_right _ (Nat.min_le_left _ _)
                have lt : (cs.take (min ys.length xs.length * size a)).length = min ys.length xs.length * size a := by rw [List.length_take]; omega
                rw [← hsz] at lt
                have hst := z6I P b 0 e' fr (cs.take (min ys.length xs.length * i.size)) 0 arr w q1 q2.1 (by rw [hsz] at lt ⊢; omega) (fun v hv => zl1 _ _ r1 v (List.mem_of_mem_take hv))
                have hput : (arr.toList.take (0 + 0) ++ cs.take (min ys.length xs.length * i.size) ++ arr.toList.drop (0 + 0 + (cs.take (min ys.length xs.length * i.size)).length)) =
                    cs.take (min ys.length xs.length * size a) ++ arr.toList.drop (min ys.length xs.length * size a) := by
                  rw [hsz] at lt ⊢
                  rw [lt]
                  simp
                rw [hput] at hst
                have hrun := zx2 (P := P) (u := u) (cap := cap) ht hi r2 hf (base := some ⟨b,0,none⟩) (fun a ha => by cases ha; exact hst) (fun hh => by cases hh) ty
                refine ⟨_,_,hrun,I,s,Facts.le_refl _,Hand.le_refl _,?_,by simp only [repV]⟩
                obtain ⟨c',rfl⟩ : ∃ c',cap = c' + 1 := ⟨cap - 1,by omega⟩
                have hblk : blk s id (.row a xs 0) = some b := by simp [blk,k1]
                rw [hsz] at lt
                have hlp : (cs.take (min ys.length xs.length * size a) ++ arr.toList.drop (min ys.length xs.length * size a)).length = arr.size := by
                  rw [List.length_append,lt,List.length_drop,hal]; omega
                refine h.rewrite (hsub _ _ hid) (b := b) hblk (zcK _ _ _) (fun b' hb' => by simp [blk,k1] at hb'; exact hb'.symm) (fun o v hI => by rw [q6 rfl] at hI; cases hI) ?_
                simp only [repC]
                refine ⟨_,c' + 1,by rw [k1,hlen],by rw [hlen]; exact k2,.inr ⟨b,rfl,_,e',fr,zeL q1,?_,?_,?_,?_,fun _ => q6 rfl,fun h2 => by cases h2⟩⟩
                · rw [List.size_toArray,hlp]; exact q2
                · rw [List.size_toArray,hlp]; exact q3
                · rw [hlen]
                  have e1 : (cs.take (min ys.length xs.length * size a) ++ arr.toList.drop (min ys.length xs.length * size a)).toArray.toList.take (xs.length * size a) =
                      cs.take (min ys.length xs.length * size a) ++ (arr.toList.take (xs.length * size a)).drop (min ys.length xs.length * size a) := by
                    show (cs.take (min ys.length xs.length * size a) ++ arr.toList.drop (min ys.length xs.length * size a)).take (xs.length * size a) = _
                    rw [List.take_append,List.take_of_length_le (by omega),lt,List.drop_take]
                  rw [e1,z6J]
                  have t1 := zyb r1 (min ys.length xs.length)
                  have t2 := zyd q4 (min ys.length xs.length)
                  have e2 : ys.take (min ys.length xs.length) = ys.take xs.length := by
                    by_cases hh : ys.length ≤ xs.length
                    · rw [Nat.min_eq_left hh,List.take_length,List.take_of_length_le hh]
                    · rw [Nat.min_eq_right (by omega)]
                  have e3 : xs.drop (min ys.length xs.length) = xs.drop ys.length := by
                    by_cases hh : ys.length ≤ xs.length
                    · rw [Nat.min_eq_left hh]
                    · rw [Nat.min_eq_right (by omega),List.drop_length,List.drop_of_length_le (by omega)]
                  rw [e2] at t1
                  rw [e3] at t2
                  exact z4O _ _ _ _ t1 t2
                · intro o v hI; rw [q6 rfl] at hI; cases hI
          · cases he
      · cases he
    · cases he
  · cases he
end
end Go.PE
namespace Go.PE
section
variable [Univ] [z2U] {cx : Cx} {I I' : Facts} {s : Hand} {hp hpr : Nat → Option C} {w w' : World} {P : Program}
theorem zzH (j : IntKind) (x y : Int) : Instr.sameNow (.int j) (.int j x) (.int j y) = some (x == y) := by simp [Instr.sameNow]
theorem zyj (x y : Bool) : Instr.sameNow .bool (.bool x) (.bool y) = some (x == y) := by simp [Instr.sameNow]
theorem zzJ (x y : List UInt8) : Instr.sameNow .string (.string ⟨x.toArray⟩) (.string ⟨y.toArray⟩) = some (x == y) := by
  have : ((⟨x.toArray⟩ : ByteArray) == ⟨y.toArray⟩) = (x == y) := by
    show (x.toArray == y.toArray) = _
    simp
  simp only [Instr.sameNow,this]
theorem zC3 (x y : Int) (h : (x == y) = true) : x = y := by simpa using h
theorem zzP (x y : Bool) (h : (x == y) = true) : x = y := by simpa using h
theorem zB8 (x y : List UInt8) (h : (x == y) = true) : x = y := by simpa using h
theorem zvR {t : TypeId} {k : Shape} (h : zrL P t k = true) : ∃ d,P.underlying t = some d ∧ (∀ x : El k,MapKept.IsKey d (z5Z k x)) ∧ (∀ x y : El k,Instr.sameNow d (z5Z k x) (z5Z k y) = some (elEq k x y)) ∧
    (∀ x y : El k,elEq k x y = true → x = y) := by
  cases k <;> simp only [zrL] at h <;> try (cases h; done)
  · rename_i j
    split at h
    · rename_i j' hd
      have := ziH h
      subst this
      exact ⟨_,z0t hd (by simp),fun x => rfl,zzH _,zC3⟩
    · cases h
  · split at h
    · rename_i hd
      exact ⟨_,z0t hd (by simp),fun x => trivial,zyj,zzP⟩
    · cases h
  · split at h
    · rename_i hd
      exact ⟨_,z0t hd (by simp),fun x => trivial,zzJ,zB8⟩
    · cases h
theorem ztq {k v : Shape} {d : TypeDesc} (hd : ∀ x y : El k,Instr.sameNow d (z5Z k x) (z5Z k y) = some (elEq k x y)) (kk : El k) : ∀ (es : List (El k × El v)) (ens : List MapEntry) (i : Nat),ziY I s k v es ens →
    (alk (elEq k kk) es = none ∧ Instr.findNow d (z5Z k kk) ens i = some none ∧ ∀ y,ast (elEq k kk) kk y es = es ++ [(kk,y)]) ∨
    (∃ j x e,alk (elEq k kk) es = some x ∧ Instr.findNow d (z5Z k kk) ens i = some (some (i + j,e.val)) ∧ ens[j]? = some e ∧ repV I s (elV v x) e.val ∧ (∃ z,elEq k kk z = true ∧ e.key = z5Z k z) ∧
      ∀ y u,repV I s (elV v y) u → ziY I s k v (ast (elEq k kk) kk y es) (ens.modify j fun e => { e with val := u }))
  | [],[],i,_ => .inl ⟨rfl,rfl,fun _ => rfl⟩
  | p :: r,e :: q,i,h => by
    obtain ⟨h1,h2,h3⟩ := h
    obtain ⟨a,b⟩ := p
    cases hk : elEq k kk a with
    | true =>
      refine .inr ⟨0,b,e,by simp [alk,hk],?_,rfl,h2,⟨a,hk,h1⟩,fun y u hu => ?_⟩
      · simp only [Instr.findNow,h1,hd,hk]; rfl
      · simp only [ast,hk,cond_true,List.modify_zero_cons]
        exact ⟨h1,hu,h3⟩
    | false =>
      have hf : Instr.findNow d (z5Z k kk) (e :: q) i = Instr.findNow d (z5Z k kk) q (i + 1) := by simp only [Instr.findNow,h1,hd,hk]
      rcases ztq hd kk r q (i + 1) h3 with ⟨g1,g2,g3⟩ | ⟨j,x,e',g1,g2,g3,g4,g5,g6⟩
      · exact .inl ⟨by simp only [alk,hk,cond_false]; exact g1,by rw [hf,g2],fun y => by simp only [ast,hk,cond_false,g3,List.cons_append]⟩
      · refine .inr ⟨j + 1,x,e',by simp only [alk,hk,cond_false]; exact g1,by rw [hf,g2]; congr 3; omega,by simpa using g3,g4,g5,fun y u hu => ?_⟩
        simp only [ast,hk,cond_false,List.modify_succ_cons]
        exact ⟨h1,h2,g6 y u hu⟩
  | [],_ :: _,_,h => h.elim
  | _ :: _,[],_,h => h.elim
theorem zo0 {k v : Shape} : ∀ (es : List (El k × El v)) (ens : List MapEntry),ziY I s k v es ens → es.length = ens.length
  | [],[],_ => rfl
  | _ :: r,_ :: q,h => by simp [zo0 r q h.2.2]
  | [],_ :: _,h => h.elim
  | _ :: _,[],h => h.elim
theorem zsp (h : WInv cx I s hp w) (hsub : ∀ id c,hpr id = some c → hp id = some c) {k : Shape} {kt : TypeId} (hk : zrL P kt k = true) {x : V} {kk : El k} (hl : zc0 hpr k x = some kk) {vx : Value} (hx : repV I s x vx) : vx = z5Z k kk := by
  have := ziL h hsub hl hx
  cases k <;> simp only [zrL] at hk <;> try (cases hk; done)
  all_goals
    obtain ⟨d,e,hd⟩ := this
    simp only [toD,List.cons.injEq,and_true] at e
    subst e
    simp only [repD] at hd
    exact hd
theorem zAw {t : Shape} {x : El t} {v : Value} {d : D} (h : toD t x = [d]) (hv : repD I d v) : z1t I (toD t x) [v] := by rw [h]; exact ⟨hv,trivial⟩
theorem zrJ (h : WInv cx I s hp w) (hsub : ∀ id c,hpr id = some c → hp id = some c) {t : TypeId} {m k : V} {ok : Bool} {ef : Eff} (he : zt5 P hpr t m k ok = some ef) {vm vk : Value} (hm : repV I s m vm) (hk : repV I s k vk) :
    ef.upd = [] ∧ ∃ y,(Instr.lookup t vm vk ok).run P w = .ok y w ∧ repV I s ef.v y := by
  unfold zt5 at he
  split at he
  · rename_i kt et id hd
    have ht := z0t hd (by simp)
    split at he
    · rename_i ks vs es hid
      cases hz : (zrL P kt ks && zl7 P et vs) with
      | false => simp [hz] at he
      | true =>
        simp only [hz,cond_true] at he
        simp only [Bool.and_eq_true] at hz
        obtain ⟨d,hu,hik,hsame,hkeq⟩ := zvR hz.1
        obtain ⟨i,z,hi,hzz,hsz,hr,hel⟩ := zmT (I := I) hz.2
        split at he
        · rename_i kk hkk
          have hkv := zsp h hsub hz.1 hkk hk
          subst hkv
          simp only [repV] at hm
          obtain ⟨b,hb,rfl⟩ := hm
          have hc := h.cont id _ (hsub _ _ hid)
          simp only [repC] at hc
          obtain ⟨b',ens,clock,c1,c2,c3⟩ := hc
          rw [hb] at c1
          cases c1
          have hck := MapKept.run_checkKey (P := P) (w := w) hu (hik kk) ens.isEmpty 9999
          rcases ztq hsame kk es ens.toList 0 c3.1 with ⟨g1,g2,g3⟩ | ⟨j,x,e,g1,g2,g3,g4,g5,g6⟩
          · have hf := MapKept.run_findKey (w := w) hu g2
            have hrun : (Instr.lookup t (.map (some b)) (z5Z ks kk) ok).run P w = .ok (if ok then .tuple #[z,.bool false] else z) w := by
              simp only [Instr.lookup,Sem.run_bind,run_underlying ht,Result.andThen_ok,MapKept.run_getObj_map c2,Sem.run_pure,hck,hf,z4A hi hzz]
            have ha : zyk ks vs kk es = none := g1
            rw [ha] at he
            simp only [Option.getD_none,Option.isSome_none] at he
            have hv : repV I s (elV vs (dflt vs)) z := zmV hel
            cases ok with
            | true =>
              simp only [cond_true,ok1,Option.some.injEq] at he
              subst he
              exact ⟨rfl,_,hrun,by simp only [repV]; exact ⟨_,rfl,by simp only [z0v,repV]; exact ⟨hv,trivial,trivial⟩⟩⟩
            | false =>
              simp only [cond_false,ok1,Option.some.injEq] at he
              subst he
              exact ⟨rfl,_,hrun,hv⟩
          · have hf := MapKept.run_findKey (w := w) hu g2
            have hrun : (Instr.lookup t (.map (some b)) (z5Z ks kk) ok).run P w = .ok (if ok then .tuple #[e.val,.bool true] else e.val) w := by
              simp only [Instr.lookup,Sem.run_bind,run_underlying ht,Result.andThen_ok,MapKept.run_getObj_map c2,Sem.run_pure,hck,hf]
            have ha : zyk ks vs kk es = some x := g1
            rw [ha] at he
            simp only [Option.getD_some,Option.isSome_some] at he
            cases ok with
            | true =>
              simp only [cond_true,ok1,Option.some.injEq] at he
              subst he
              exact ⟨rfl,_,hrun,by simp only [repV]; exact ⟨_,rfl,by simp only [z0v,repV]; exact ⟨g4,trivial,trivial⟩⟩⟩
            | false =>
              simp only [cond_false,ok1,Option.some.injEq] at he
              subst he
              exact ⟨rfl,_,hrun,g4⟩
        · cases he
    · cases he
  · cases he
theorem zv2 {k : Shape} {kt : TypeId} (hk : zrL P kt k = true) (x : El k) : Instr.sameBits 10000 (z5Z k x) (z5Z k x) = true := by
  have bi : ∀ (k : IntKind) (x : Int),Instr.sameBits 10000 (.int k x) (.int k x) = true := fun k x => by simp [Instr.sameBits]
  have bb : ∀ (x : Bool),Instr.sameBits 10000 (.bool x) (.bool x) = true := fun x => by simp [Instr.sameBits]
  have bs : ∀ (x : ByteArray),Instr.sameBits 10000 (.string x) (.string x) = true := fun x => by
    have : (x == x) = true := by show (x.data == x.data) = true; simp
    simp [Instr.sameBits,this]
  cases k <;> simp only [zrL] at hk <;> try (cases hk; done)
  · exact bi _ _
  · exact bb _
  · exact bs _
theorem zoj {k v : Shape} : ∀ (es : List (El k × El v)) (ens : List MapEntry) (p : El k × El v) (e : MapEntry),ziY I s k v es ens → e.key = z5Z k p.1 → repV I s (elV v p.2) e.val → ziY I s k v (es ++ [p]) (ens ++ [e])
  | [],[],p,e,_,h1,h2 => ⟨h1,h2,trivial⟩
  | _ :: r,_ :: q,p,e,h,h1,h2 => ⟨h.1,h.2.1,zoj r q p e h.2.2 h1 h2⟩
  | [],_ :: _,_,_,h,_,_ => h.elim
  | _ :: _,[],_,_,h,_,_ => h.elim
theorem zsU (h : WInv cx I s hp w) (hsub : ∀ id c,hpr id = some c → hp id = some c) {v : Shape} {x : V} (hw : zfY v x = true) {y : El v} (hi : zbK hpr v (PE.cellsOf x) = some y) {vx : Value} (hx : repV I s x vx) : isEl I v y vx := by
  have hsol : zru x = true := by
    cases x <;> simp only [zfY,Bool.and_eq_true] at hw <;> first
      | rfl
      | exact hw.1
  have hD := zdb h hsub hi (zgs hx hsol)
  unfold isEl
  cases hu : z3k v with
  | true =>
    cases x <;> simp only [zfY,hu,Bool.not_true,Bool.and_false] at hw <;> try (cases hw; done)
    simp only [repV] at hx
    obtain ⟨cs,rfl,_⟩ := hx
    exact ⟨cs,rfl,hD⟩
  | false =>
    have hs : scal x = true := by
      cases x <;> simp only [zfY,hu,Bool.not_false,Bool.and_true] at hw <;> first
        | exact hw
        | cases hw
    have h1 := zp1 hx hs
    have : vx.cells = #[vx] := by cases vx <;> first | rfl | simp [Value.oneCell'] at h1
    rw [this] at hD
    exact hD
theorem zmz (w : World) (b : Nat) (o : Obj) : But (some b) w { w with heap := w.heap.setIfInBounds b o } where
  size := by simp
  heap k hk _ := by
    simp only [Array.getElem?_setIfInBounds]
    rw [if_neg (fun e => hk (by rw [e]))]
  os := rfl
  tape := rfl
  out := rfl
theorem zeX {w : World} {b : Nat} {o0 : Obj} (o : Obj) (h : w.heap[b]? = some o0) : ({ w with heap := w.heap.setIfInBounds b o } : World).heap[b]? = some o := by
  have := z1s? h
  simp [this]
theorem zjw (h : WInv cx I s hp w) (hsub : ∀ id c,hpr id = some c → hp id = some c) {t : TypeId} {m k x : V} {ef : Eff} (he : zp5 P hpr t m k x = some ef) {vm vk vx : Value} (hm : repV I s m vm) (hk : repV I s k vk) (hx : repV I s x vx) :
    ∃ w',(Instr.mapUpdate t vm vk vx).run P w = .ok () w' ∧ Res cx I s hp ef.upd ef.v Go.undef w' := by
  unfold zp5 at he
  split at he
  · rename_i kt et id hd
    have ht := z0t hd (by simp)
    split at he
    · rename_i ks vs es hid
      cases hz : (zrL P kt ks && zfY vs x) with
      | false => simp [hz] at he
      | true =>
        simp only [hz,cond_true] at he
        simp only [Bool.and_eq_true] at hz
        obtain ⟨d,hu,hik,hsame,hkeq⟩ := zvR hz.1
        split at he
        · rename_i kk y hkk hy
          simp only [Option.some.injEq] at he
          subst he
          have hkv := zsp h hsub hz.1 hkk hk
          subst hkv
          have hel := zsU h hsub hz.2 hy hx
          have hev : repV I s (elV vs y) vx := zmV hel
          simp only [repV] at hm
          obtain ⟨b,hb,rfl⟩ := hm
          have hc := h.cont id _ (hsub _ _ hid)
          simp only [repC] at hc
          obtain ⟨b',ens,clock,c1,c2,c3⟩ := hc
          rw [hb] at c1
          cases c1
          have hck := MapKept.run_checkKey (P := P) (w := w) hu (hik kk) false 9999
          obtain ⟨c3,c4,c5⟩ := c3
          have fin : ∀ ens' clock',ziY I s ks vs (aset ks vs kk y es) (Array.toList ens') → (ens'.toList.map (·.born)).Nodup → (∀ e ∈ ens'.toList,e.born < clock') → (Instr.mapUpdate t (.map (some b)) (z5Z ks kk) vx).run P w = .ok () { w with heap := w.heap.setIfInBounds b (.map ens' clock') } →
              ∃ w',(Instr.mapUpdate t (.map (some b)) (z5Z ks kk) vx).run P w = .ok () w' ∧ Res cx I s hp [(id,.tmap ks vs (aset ks vs kk y es))] V.undef Go.undef w' := by
            intro ens' clock' hes hnd hlt hrun
            refine ⟨_,hrun,I,s,Facts.le_refl _,Hand.le_refl _,?_,by simp only [repV]⟩
            refine h.rewrite (hsub _ _ hid) (b := b) (by simp [blk,hb]) (zmz _ _ _) (fun b' hb' => by simp [blk,hb] at hb'; exact hb'.symm) (fun o v hI => ?_) ?_
            · have := h.agree b o v hI
              simp [World.cell?,c2] at this
            · simp only [repC]
              exact ⟨b,ens',clock',hb,zeX _ c2,hes,hnd,hlt⟩
          rcases ztq hsame kk es ens.toList 0 c3 with ⟨g1,g2,g3⟩ | ⟨j,x',e,g1,g2,g3,g4,g5,g6⟩
          · have hf := MapKept.run_findKey (w := w) hu g2
            refine fin (ens.push { key := z5Z ks kk,val := vx,born := clock }) (clock + 1) ?_ ?_ ?_ ?_
            · have : aset ks vs kk y es = es ++ [(kk,y)] := g3 y
              rw [this,Array.toList_push]
              exact zoj _ _ _ _ c3 rfl hev
            · rw [Array.toList_push,List.map_append]
              refine List.nodup_append.2 ⟨c4,by simp,fun a ha b hb e => ?_⟩
              subst e
              obtain ⟨x,hx,rfl⟩ := List.mem_map.1 ha
              have := c5 x hx
              simp at hb
              omega
            · intro e he
              rw [Array.toList_push,List.mem_append] at he
              rcases he with he | he
              · have := c5 e he; omega
              · simp at he; subst he; simp
            · simp only [Instr.mapUpdate,Sem.run_bind,run_underlying ht,Result.andThen_ok,MapKept.run_getObj_map c2,hck,hf,MapKept.run_setObj_map _ c2]
          · have hf := MapKept.run_findKey (w := w) hu g2
            obtain ⟨zk,hzk,hek⟩ := g5
            have hkey : e.key = z5Z ks kk := by rw [hek,← hkeq _ _ hzk]
            have hge : ens[j]? = some e := by simpa using g3
            have e2 : ens.toList.modify j (fun e => { e with key := z5Z ks kk,val := vx }) = ens.toList.modify j (fun e => { e with val := vx }) := by
              apply List.ext_getElem?
              intro n
              simp only [List.getElem?_modify]
              by_cases hn : j = n
              · subst hn; rw [g3]; simp [hkey]
              · simp [hn]
            have hborn : (ens.toList.modify j (fun e => { e with val := vx })).map (·.born) = ens.toList.map (·.born) := by
              apply List.ext_getElem?
              intro n
              simp only [List.getElem?_map,List.getElem?_modify]
              by_cases hn : j = n
              · subst hn; rw [g3]; simp
              · simp [hn]
            refine fin (ens.modify j fun e => { e with key := z5Z ks kk,val := vx }) clock ?_ ?_ ?_ ?_
            · have := g6 y vx hev
              rw [Array.toList_modify,e2]
              exact this
            · rw [Array.toList_modify,e2,hborn]; exact c4
            · intro x hx
              rw [Array.toList_modify,e2] at hx
              have hx' : x.born ∈ (ens.toList.modify j (fun e => { e with val := vx })).map (·.born) := List.mem_map.2 ⟨x,hx,rfl⟩
              rw [hborn] at hx'
              obtain ⟨z,hz,ez⟩ := List.mem_map.1 hx'
              rw [← ez]; exact c5 z hz
            · have hstay : (Instr.keyThatStays (((ens[j]?).map (·.key)).getD (z5Z ks kk)) (z5Z ks kk)).run P w = .ok (z5Z ks kk) w := by
                rw [hge]
                simp only [Option.map_some,Option.getD_some,hkey,Instr.keyThatStays,zv2 hz.1,if_true,Sem.run_pure]
              rw [Nat.zero_add] at hf
              simp only [Instr.mapUpdate,Sem.run_bind,run_underlying ht,Result.andThen_ok,MapKept.run_getObj_map c2,hck,hf,hstay,MapKept.run_setObj_map _ c2]
        · cases he
    · cases he
  · cases he
theorem zqm (h : WInv cx I s hp w) {nid : Nat} (hn : hp nid = none) {t : TypeId} {r : Option V} {ef : Eff} (he : zl6 P nid t r = some ef) {vr : Option Value} (hr : r = none → vr = none) :
    ∃ y w',(Instr.makeMap t vr).run P w = .ok y w' ∧ Res cx I s hp ef.upd ef.v y w' := by
  unfold zl6 at he
  split at he
  · rename_i kt et hd
    rw [hr rfl]
    split at he
    · rename_i ks vs _ _
      simp only [Option.some.injEq] at he
      subst he
      refine ⟨.map (some w.heap.size),w.alloc (.map #[] 0),rfl,?_⟩
      refine ⟨I,setF s nid (.map (some w.heap.size)),Facts.le_refl _,z8T (h.unknown hn),?_,?_⟩
      · refine h.create hn _ _ (z7D _ _) (Facts.le_refl _) (fun _ _ _ => rfl) (fun o u hu => by rw [h.z5j] at hu; cases hu) (fun b hb => by simp [blk] at hb; exact hb.symm) ?_
        simp only [repC]
        exact ⟨_,#[],0,by simp,alloc_at _ _,trivial,List.nodup_nil,fun e he => by simp at he⟩
      · simp only [repV]
        exact ⟨_,by simp,rfl⟩
    · cases he
  · cases he
end
end Go.PE
