/-
  PE, regions: a step that is told is a step that is run, in whatever order.
-/
import Derived.Test.YtchpeafokjmmeaaGreatDoorQEd
import Derived.Scope
set_option linter.unusedVariables false
set_option linter.unusedSectionVars false
set_option linter.unusedSimpArgs false
namespace Go.PE
section
variable [Univ] [z2U] [Ground] {cx : Cx} {I I' : Facts} {s s' : Hand} {hp hpr hpL : Nat → Option C} {w w' : World} {P : Program}
theorem zgr {hp : List (Nat × C)} {lo : Nat} : ∀ (l : List Nat),zjR hp lo l = true → ∀ id ∈ l,(lo ≤ id → id < lo + 100 → get hp id = none) ∧ (¬ (lo ≤ id ∧ id < lo + 100) → (get hp id).isSome = true)
  | [],_,id,h => by simp at h
  | i :: r,h,id,hid => by
    simp only [zjR,Bool.and_eq_true] at h
    rcases List.mem_cons.1 hid with rfl | hid
    · have h1 := h.1
      cases hb : (Nat.ble lo id && Nat.blt id (lo + 100)) with
      | true =>
        rw [hb,cond_true] at h1
        refine ⟨fun _ _ => by simpa using h1,fun hn => ?_⟩
        simp only [Bool.and_eq_true] at hb
        exact absurd ⟨Nat.le_of_ble_eq_true hb.1,by simpa [Nat.blt_eq] using hb.2⟩ hn
      | false =>
        rw [hb,cond_false] at h1
        refine ⟨fun q1 q2 => ?_,fun _ => h1⟩
        have : (Nat.ble lo id && Nat.blt id (lo + 100)) = true := by
          simp only [Bool.and_eq_true]
          exact ⟨Nat.ble_eq_true_of_le q1,by simpa [Nat.blt_eq] using q2⟩
        rw [this] at hb; cases hb
    · exact zgr r h.2 id hid
theorem zx9 {acc : List Nat} {hp : Nat → Option C} {hpL : Nat → Option C} (h : ∀ id ∈ acc,hpL id = hp id) : ∀ id c,only acc hp id = some c → hpL id = some c := by
  intro id c hc
  unfold only at hc
  cases ha : acc.any (Nat.beq id) with
  | false => rw [ha] at hc; cases hc
  | true =>
    rw [ha,cond_true] at hc
    rw [h id (ztt.1 ha)]; exact hc
def zEa (cx : Cx) (I : Facts) (s : Hand) (hpL : Nat → Option C) (o : Oper) (r : SR) (a : Act) (K : Act → World → Prop) : Prop :=
  ∀ v w' I' s',I.le I' → s.le s' → WInv cx I' s' (addF r.upd hpL) w' → repV I' s' r.v v → K (a.put o.dst v) w'
theorem zmU (hG : Ground.G.le cx.I0) (h : WInv cx I s hpL w) {nt rid i : Nat} {ops : Array Oper} {d : RD} {o : Oper} {st : St} {r : SR} (hok : zld P (Spec P) nt rid ops.toList d o i st r) (hi : ops[i]? = some o)
    (hc : ∀ p ∈ r.conds,p) {a : Act} (htm : ∀ t ∈ slotsOf ops.toList o,z1M I s st.tm a.tmps t) (hacc : ∀ id ∈ r.foot.acc,hpL id = get st.hp id) {K : Act → World → Prop} {Q : Exit → Act → World → Prop} (hl : True)
    (hK : zEa cx I s hpL o r a K) : wpOp P ops Q i K a w := by
  have hop : ∀ t,Operand.tmp t ∈ o.op.operands.toList → z1M I s st.tm a.tmps t := fun t ht => htm t (zuM ht)
  have wanted : Region.wanted o (yielded ops a.tmps) = true → (o.wp P a w K Q ∨ (o.asks P a w ∧ LetsOut Q)) → wpOp P ops Q i K a w := by
    intro h1 h2
    unfold wpOp
    simp only [hi,h1,if_true]
    exact h2
  have unwanted : Region.wanted o (yielded ops a.tmps) = false → K (a.put o.dst Go.undef) w → wpOp P ops Q i K a w := by
    intro h1 h2
    unfold wpOp
    simp only [hi,h1,Bool.false_eq_true,if_false]
    exact h2
  have touch : ∀ {e0 : Eff} {v : V} {upd : List (Nat × C)} {conds : List Prop},finish (zqT rid i) i d e0 = some ⟨v,upd,conds⟩ → (∀ p ∈ conds,p) → (∀ id ∈ keys upd,hpL id = get st.hp id) → zjR st.hp (zqT rid i) (keys upd) = true →
      (∀ p ∈ e0.conds,p) ∧ (∀ id ∈ keys e0.upd,id ∈ keys upd) ∧ ∀ u w',Res cx I s hpL e0.upd e0.v u w' → Res cx I s hpL upd v u w' := by
    intro e0 v upd conds hf hcs hup hnew
    rcases zo6 hf with ⟨c,q1,rfl,rfl,rfl,q2⟩ | ⟨rfl,q1,q2⟩
    · refine ⟨hcs,fun id hid => by simp [keys] at hid ⊢; exact .inr hid,fun u w' hr => ?_⟩
      obtain ⟨I',s',r1,r2,r3,r4⟩ := hr
      have hnone : addF e0.upd hpL (zqT rid i + 50) = none := by
        rw [zve _ _ _ q2,hup _ (by simp [keys])]
        exact (zgr _ hnew (zqT rid i + 50) (by simp [keys])).1 (by omega) (by omega)
      obtain ⟨n1,n2⟩ := r3.name hnone (.bool c)
      refine ⟨I',_,r1,Hand.le_trans r2 n2,n1,?_⟩
      rw [q1] at r4
      simp only [repV] at r4 ⊢
      exact ⟨by simp,r4⟩
    · refine ⟨fun p hp => hcs p (q1 p hp),fun id hid => hid,fun u w' hr => ?_⟩
      obtain ⟨I',s',r1,r2,r3,r4⟩ := hr
      exact ⟨I',s',r1,r2,r3,q2 hcs I' s' u r4⟩
  cases hok with
  | no hd hr =>
    refine unwanted (zkl hr htm) (hK _ w I s (Facts.le_refl _) (Hand.le_refl _) h ?_)
    simp only [repV]
    exact ⟨#[],rfl,by simp only [z0v]⟩
  | run hd hr he hf hn =>
    rename_i e0 v upd conds
    obtain ⟨t1,t2,t3⟩ := touch hf hc (fun id hid => hacc id (by simp [hid])) hn
    have hout := zvf (P := P) (a := a) (o := o) hG h (zx9 fun id hid => hacc id (by simp at hid ⊢; rcases hid with q | q <;> simp [q])) he t1
      (fun id hid q1 q2 => by
        rw [hacc id (by simp [t2 id hid])]
        exact (zgr _ hn id (t2 id hid)).1 q1 q2)
      (fun x hx => zqj fun t e => hop t (e ▸ hx))
    refine wanted (zkl hr htm) (hout K Q hl fun u w' hu => ?_)
    obtain ⟨I',s',r1,r2,r3,r4⟩ := t3 u w' hu
    exact hK u w' I' s' r1 r2 r3 r4
  | soft hd hg hs hf hn =>
    rename_i fl g v0 v upd conds
    obtain ⟨t1,t2,t3⟩ := touch hf hc (fun id hid => hacc id (by simp [hid])) hn
    have hsub := zx9 (acc := zlN (zlQ st.tm o)) (hp := get st.hp) (hpL := hpL) fun id hid => hacc id (by simp [hid])
    have key : (Region.wanted o (yielded ops a.tmps) = holds g) ∧ (holds g = true → ∀ q ∈ g,s q.1 = some (.bool q.2.1)) ∧
        ∀ (I' : Facts) (s' : Hand) (v : V) (y : Value),I.le I' → s.le s' → (holds g = true → repV I' s' v y) → (holds g = false → y = Go.undef) → repV I' s' (under g v) y := by
      rcases hg with ⟨rfl,hg⟩ | ⟨rfl,hr⟩
      · unfold tests at hg
        cases hgu : o.guard with
        | none =>
          rw [hgu] at hg
          cases hg
          exact ⟨by simp [Region.wanted,hgu,holds],fun _ q hq => by simp at hq,fun I' s' v y _ _ h1 _ => h1 rfl⟩
        | some gw =>
          obtain ⟨j,want⟩ := gw
          rw [hgu] at hg
          simp only at hg
          split at hg
          · rename_i o' hj
            split at hg
            · rename_i dd hdd
              split at hg
              · rename_i t c hcore
                cases hg
                have hsr := htm dd (zsw hgu hj hdd)
                unfold z1M at hsr
                obtain ⟨c1,c2,_⟩ := zkG _ _ hsr hcore
                have hh : holds (chain (getV st.tm dd) ++ [(t,c,want)]) = (holds (chain (getV st.tm dd)) && (c == want)) := by simp [holds]
                refine ⟨?_,?_,?_⟩
                · rw [hh]
                  unfold Region.wanted
                  rw [hgu]
                  simp only
                  rw [zsB hj hdd]
                  cases hb : holds (chain (getV st.tm dd)) with
                  | true =>
                    rw [(c1 hb).1]
                    cases c <;> cases want <;> rfl
                  | false =>
                    rw [c2 hb]
                    rfl
                · intro hy q hq
                  rw [hh,Bool.and_eq_true] at hy
                  obtain ⟨_,k2,k3⟩ := c1 hy.1
                  simp only [List.mem_append,List.mem_singleton] at hq
                  rcases hq with hq | rfl
                  · exact k3 q hq
                  · exact k2
                · intro I' s' v y hI hs' h1 h2
                  obtain ⟨_,_,c3⟩ := zkG _ _ (z4o hI hs' _ _ hsr) hcore
                  exact c3 want v y (fun q => h1 (by rw [hh]; exact q)) (fun q => h2 (by rw [hh]; exact q))
              · cases hg
            · cases hg
          · cases hg
      · exact ⟨by rw [zkl hr htm]; rfl,fun _ q hq => by simp at hq,fun I' s' v y _ _ h1 _ => h1 rfl⟩
    obtain ⟨k1,k2,k3⟩ := key
    cases hh : holds g with
    | true =>
      have hout := zu1 (P := P) (a := a) (o := o) hG h hsub hs hh (k2 hh) hop
      refine wanted (by rw [k1,hh]) (hout K Q hl fun u w' hu => ?_)
      obtain ⟨I',s',r1,r2,r3,r4⟩ := t3 u w' hu
      exact hK u w' I' s' r1 r2 r3 (k3 I' s' v u r1 r2 (fun _ => r4) (fun q => by rw [hh] at q; cases q))
    | false =>
      have hnames : ∃ s',s.le s' ∧ WInv cx I s' (addF upd hpL) w := by
        rcases zo6 hf with ⟨c,q1,_,rfl,_,q2⟩ | ⟨rfl,_,_⟩
        · have hnone : hpL (zqT rid i + 50) = none := by
            rw [hacc _ (by simp [keys])]
            exact (zgr _ hn (zqT rid i + 50) (by simp [keys])).1 (by omega) (by omega)
          obtain ⟨n1,n2⟩ := h.name hnone (.bool c)
          exact ⟨_,n2,n1⟩
        · exact ⟨s,Hand.le_refl _,h⟩
      obtain ⟨s',n1,n2⟩ := hnames
      refine unwanted (by rw [k1,hh]) (hK _ w I s' (Facts.le_refl _) n1 n2 ?_)
      exact k3 I s' v _ (Facts.le_refl _) n1 (fun q => by rw [hh] at q; cases q) (fun _ => rfl)
end
end Go.PE
namespace Go.PE
theorem zcL [Univ] : ∀ (l h : List (Nat × C)),get (zqa l h) = addF l (get h)
  | [],h => rfl
  | (i,c) :: r,h => by
    funext j
    simp only [zqa,get,addF,setF]
    by_cases e : i = j
    · subst e; rw [z3F]; simp
    · rw [z2X e,cond_false,if_neg (Ne.symm e),zcL r h]
theorem zsO [Univ] : ∀ (l : List (Nat × C)) (f g : Nat → Option C) (id : Nat),f id = g id → addF l f id = addF l g id
  | [],f,g,id,h => h
  | (i,c) :: r,f,g,id,h => by
    simp only [addF,setF]
    split
    · rfl
    · exact zsO r f g id h
theorem ztX [Univ] : ∀ (l : List (Nat × C)) (f g : Nat → Option C) (id : Nat),id ∈ keys l → addF l f id = addF l g id
  | [],f,g,id,h => by simp [keys] at h
  | (i,c) :: r,f,g,id,h => by
    simp only [addF,setF]
    split
    · rfl
    · rename_i hne
      simp only [keys,List.map_cons,List.mem_cons] at h
      exact ztX r f g id (h.resolve_left hne)
theorem zri [Univ] : ∀ (l : List (Nat × C)) (hp : Nat → Option C) (id : Nat),id ∉ keys l → addF l hp id = hp id
  | [],hp,id,_ => rfl
  | (i,c) :: r,hp,id,h => by
    simp only [keys,List.map_cons,List.mem_cons,not_or] at h
    simp only [addF]
    rw [z0O _ _ h.1]
    exact zri r hp id h.2
theorem zii [Univ] (tm : List (Nat × V)) (d : Option Nat) (v : V) (t : Nat) : getV (setD tm d v) t = if d = some t then v else getV tm t := by
  cases d with
  | none => rfl
  | some e =>
    simp only [setD,getV,get]
    by_cases h : e = t
    · subst h; rw [z3F]; simp
    · rw [z2X h,cond_false,if_neg (fun q => h (Option.some.inj q))]
section
variable [Univ]
def z5d (L : Nat → Bool) : List Oper → List SR → Nat → St → St
  | o :: os,r :: rs,i,st => z5d L os rs (i + 1) (bif L i then r.app o st else st)
  | _,_,_,st => st
theorem zp2 {L M : Nat → Bool} {id : Nat} : ∀ (os : List Oper) (rs : List SR) (i : Nat) (st st' : St),(∀ (j : Nat) (r : SR),rs[j]? = some r → id ∈ keys r.upd → L (i + j) = M (i + j)) → get st.hp id = get st'.hp id →
    get (z5d L os rs i st).hp id = get (z5d M os rs i st').hp id
  | o :: os,r :: rs,i,st,st',h,he => by
    simp only [z5d]
    refine zp2 os rs (i + 1) _ _ (fun j r' hj hk => by have := h (j + 1) r' (by simpa using hj) hk; rwa [show i + (j + 1) = i + 1 + j by omega] at this) ?_
    by_cases hk : id ∈ keys r.upd
    · have e := h 0 r rfl hk
      rw [Nat.add_zero] at e
      rw [e]
      cases M i with
      | false => exact he
      | true =>
        simp only [cond_true,SR.app,zcL]
        exact zsO _ _ _ _ he
    · have q : ∀ (b : Bool) (s : St),get (bif b then r.app o s else s).hp id = get s.hp id := by
        intro b s
        cases b with
        | false => rfl
        | true => simp only [cond_true,SR.app,zcL]; exact zri _ _ _ hk
      rw [q,q,he]
  | [],_,i,st,st',h,he => by simpa [z5d] using he
  | _ :: _,[],i,st,st',h,he => by simpa [z5d] using he
theorem zp7 {L M : Nat → Bool} {t : Nat} : ∀ (os : List Oper) (rs : List SR) (i : Nat) (st st' : St),(∀ (j : Nat) (o : Oper),os[j]? = some o → o.dst = some t → L (i + j) = M (i + j)) → getV st.tm t = getV st'.tm t →
    getV (z5d L os rs i st).tm t = getV (z5d M os rs i st').tm t
  | o :: os,r :: rs,i,st,st',h,he => by
    simp only [z5d]
    refine zp7 os rs (i + 1) _ _ (fun j r' hj hk => by have := h (j + 1) r' (by simpa using hj) hk; rwa [show i + (j + 1) = i + 1 + j by omega] at this) ?_
    by_cases hk : o.dst = some t
    · have e := h 0 o rfl hk
      rw [Nat.add_zero] at e
      rw [e]
      cases M i with
      | false => exact he
      | true =>
        simp only [cond_true,SR.app,zii,if_pos hk]
    · have q : ∀ (b : Bool) (s : St),getV (bif b then r.app o s else s).tm t = getV s.tm t := by
        intro b s
        cases b with
        | false => rfl
        | true => simp only [cond_true,SR.app,zii,if_neg hk]
      rw [q,q,he]
  | [],_,i,st,st',h,he => by simpa [z5d] using he
  | _ :: _,[],i,st,st',h,he => by simpa [z5d] using he
theorem zeV {L : Nat → Bool} : ∀ (os : List Oper) (rs : List SR) (i : Nat) (st : St),(∀ j,L (i + j) = false) → z5d L os rs i st = st
  | o :: os,r :: rs,i,st,h => by
    simp only [z5d]
    have := h 0
    rw [Nat.add_zero] at this
    rw [this,cond_false]
    exact zeV os rs (i + 1) st fun j => by have := h (j + 1); rwa [show i + (j + 1) = i + 1 + j by omega] at this
  | [],_,_,_,_ => by simp [z5d]
  | _ :: _,[],_,_,_ => by simp [z5d]
theorem zpY {L M : Nat → Bool} : ∀ (os : List Oper) (rs : List SR) (i : Nat) (st : St),(∀ j,j < os.length → L (i + j) = M (i + j)) → z5d L os rs i st = z5d M os rs i st
  | o :: os,r :: rs,i,st,h => by
    simp only [z5d]
    have := h 0 (by simp)
    rw [Nat.add_zero] at this
    rw [this]
    exact zpY os rs (i + 1) _ fun j hj => by have := h (j + 1) (by simpa using hj); rwa [show i + (j + 1) = i + 1 + j by omega] at this
  | [],_,_,_,_ => by simp [z5d]
  | _ :: _,[],_,_,_ => by simp [z5d]
theorem zm7 {L : Nat → Bool} {id : Nat} : ∀ (os : List Oper) (rs : List SR) (k n : Nat) (st : St) (o : Oper) (r : SR),os[n]? = some o → rs[n]? = some r → L (k + n) = true → id ∈ keys r.upd →
    (∀ (m : Nat) (r' : SR),n < m → rs[m]? = some r' → id ∈ keys r'.upd → L (k + m) = false) → get (z5d L os rs k st).hp id = addF r.upd (fun _ => none) id
  | o' :: os,r' :: rs,k,0,st,o,r,ho,hr,hL,hid,h => by
    simp at ho hr
    subst ho; subst hr
    rw [Nat.add_zero] at hL
    simp only [z5d,hL,cond_true]
    have : get (z5d L os rs (k + 1) (r'.app o' st)).hp id = get (z5d (fun _ => false) os rs (k + 1) (r'.app o' st)).hp id :=
      zp2 os rs (k + 1) _ _ (fun j q hj hk => by have := h (j + 1) q (by omega) (by simpa using hj) hk; rwa [show k + (j + 1) = k + 1 + j by omega] at this) rfl
    rw [this,zeV _ _ _ _ (fun _ => rfl)]
    simp only [SR.app,zcL]
    exact ztX _ _ _ _ hid
  | o' :: os,r' :: rs,k,n + 1,st,o,r,ho,hr,hL,hid,h => by
    simp only [z5d]
    refine zm7 os rs (k + 1) n _ o r (by simpa using ho) (by simpa using hr) (by rwa [show k + 1 + n = k + (n + 1) by omega]) hid (fun m q hm hq hk => ?_)
    have := h (m + 1) q (by omega) (by simpa using hq) hk
    rwa [show k + (m + 1) = k + 1 + m by omega] at this
  | [],_,_,_,_,_,_,ho,_,_,_,_ => by simp at ho
  | _ :: _,[],_,_,_,_,_,_,hr,_,_,_ => by simp at hr
theorem zkQ {L : Nat → Bool} {t : Nat} : ∀ (os : List Oper) (rs : List SR) (k n : Nat) (st : St) (o : Oper) (r : SR),os[n]? = some o → rs[n]? = some r → L (k + n) = true → o.dst = some t →
    (∀ (m : Nat) (o' : Oper),n < m → os[m]? = some o' → o'.dst = some t → L (k + m) = false) → getV (z5d L os rs k st).tm t = r.v
  | o' :: os,r' :: rs,k,0,st,o,r,ho,hr,hL,hid,h => by
    simp at ho hr
    subst ho; subst hr
    rw [Nat.add_zero] at hL
    simp only [z5d,hL,cond_true]
    have : getV (z5d L os rs (k + 1) (r'.app o' st)).tm t = getV (z5d (fun _ => false) os rs (k + 1) (r'.app o' st)).tm t :=
      zp7 os rs (k + 1) _ _ (fun j q hj hk => by have := h (j + 1) q (by omega) (by simpa using hj) hk; rwa [show k + (j + 1) = k + 1 + j by omega] at this) rfl
    rw [this,zeV _ _ _ _ (fun _ => rfl)]
    simp only [SR.app,zii,if_pos hid]
  | o' :: os,r' :: rs,k,n + 1,st,o,r,ho,hr,hL,hid,h => by
    simp only [z5d]
    refine zkQ os rs (k + 1) n _ o r (by simpa using ho) (by simpa using hr) (by rwa [show k + 1 + n = k + (n + 1) by omega]) hid (fun m q hm hq hk => ?_)
    have := h (m + 1) q (by omega) (by simpa using hq) hk
    rwa [show k + (m + 1) = k + 1 + m by omega] at this
  | [],_,_,_,_,_,_,ho,_,_,_,_ => by simp at ho
  | _ :: _,[],_,_,_,_,_,_,hr,_,_,_ => by simp at hr
theorem zsI {P : Program} {SP : Nat → List V → List C → V → List C → List C → Prop} {nt rid : Nat} {ops : List Oper} {d : RD} : ∀ (rest : List Oper) (i : Nat) (st : St) (rs : List SR) (st' : St),zlm P SP nt rid ops d rest i st rs st' →
    rs.length = rest.length ∧ z5d (fun _ => true) rest rs i st = st' ∧ ∀ (j : Nat) (o : Oper) (r : SR),rest[j]? = some o → rs[j]? = some r → zld P SP nt rid ops d o (i + j) (z5d (fun k => decide (k < i + j)) rest rs i st) r
  | [],i,st,[],st',h => ⟨rfl,by simp only [zlm] at h; simpa [z5d] using h,fun j o r ho => by simp at ho⟩
  | o :: rest,i,st,r :: rs,st',h => by
    obtain ⟨h1,h2⟩ := h
    obtain ⟨k1,k2,k3⟩ := zsI rest (i + 1) _ rs st' h2
    refine ⟨by simp [k1],by simpa [z5d] using k2,fun j o' r' ho hr => ?_⟩
    cases j with
    | zero =>
      simp at ho hr
      subst ho; subst hr
      rw [zeV _ _ _ _ (fun j => by simp)]
      exact h1
    | succ j =>
      have := k3 j o' r' (by simpa using ho) (by simpa using hr)
      rw [show i + 1 + j = i + (j + 1) by omega] at this
      simp only [z5d]
      have hlt : decide (i < i + (j + 1)) = true := by simp
      rw [hlt,cond_true]
      exact this
  | [],_,_,_ :: _,_,h => h.elim
  | _ :: _,_,_,[],_,h => h.elim
theorem zld.feet {P : Program} {SP : Nat → List V → List C → V → List C → List C → Prop} {nt rid : Nat} {ops : List Oper} {d : RD} {o : Oper} {i : Nat} {st : St} {r : SR} (h : zld P SP nt rid ops d o i st r) :
    r.foot.i = i ∧ r.foot.wr = keys r.upd ∧ (∀ id ∈ keys r.upd,id ∈ r.foot.acc) ∧ r.foot.rd = slotsOf ops o ∧ r.foot.wt = o.dst.toList ∧ zuq nt o.dst = true := by
  cases h with
  | soft hd _ _ _ _ => exact ⟨rfl,rfl,fun id hid => by simp [hid],rfl,rfl,hd⟩
  | run hd _ _ _ _ => exact ⟨rfl,rfl,fun id hid => by simp [hid],rfl,rfl,hd⟩
  | no hd _ => exact ⟨rfl,rfl,fun id hid => by simp [keys] at hid,rfl,rfl,hd⟩
def conflict (f g : Foot) : Bool := meets f.wr g.acc || meets g.wr f.acc || meets f.wt g.rd || meets g.wt f.rd
theorem zpx : ∀ (a b : List Nat),meets a b = true ↔ ∃ x,x ∈ a ∧ x ∈ b
  | [],b => by simp [meets]
  | x :: r,b => by
    simp only [meets,Bool.or_eq_true,ztt,zpx r b]
    constructor
    · rintro (h | ⟨y,h1,h2⟩)
      · exact ⟨x,by simp,h⟩
      · exact ⟨y,by simp [h1],h2⟩
    · rintro ⟨y,h1,h2⟩
      rcases List.mem_cons.1 h1 with rfl | h1
      · exact .inl h2
      · exact .inr ⟨y,h1,h2⟩
theorem zgZ {bf : List Nat} {g : Foot} : ∀ (l : List Foot),zfZ bf g l = true → ∀ f ∈ l,conflict f g = true → Nat.testBit (bf.getD g.i 0) f.i = true
  | [],_,f,hf,_ => by simp at hf
  | x :: r,h,f,hf,hc => by
    simp only [zfZ,Bool.and_eq_true] at h
    rcases List.mem_cons.1 hf with rfl | hf
    · have h1 := h.1
      unfold conflict at hc
      rw [hc] at h1
      simpa using h1
    · exact zgZ r h.2 f hf hc
theorem znX {bf : List Nat} : ∀ (l : List Foot),ordered bf l = true → l.Pairwise fun g f => conflict f g = true → Nat.testBit (bf.getD g.i 0) f.i = true
  | [],_ => List.Pairwise.nil
  | g :: r,h => by
    simp only [ordered,Bool.and_eq_true] at h
    exact List.Pairwise.cons (fun f hf => zgZ r h.1 f hf) (znX r h.2)
theorem zlw {acc : List Nat} {i : Nat} : ∀ (es : List Edge),(z8k acc es).testBit i = true → ∃ e ∈ es,Region.binds .any e = true ∧ (i = e.on ∨ (acc.getD e.on 0).testBit i = true)
  | [],h => by simp [z8k] at h
  | e :: r,h => by
    have rest : (z8k acc r).testBit i = true → ∃ e' ∈ e :: r,Region.binds .any e' = true ∧ (i = e'.on ∨ (acc.getD e'.on 0).testBit i = true) := by
      intro hr
      obtain ⟨e',h1,h2⟩ := zlw r hr
      exact ⟨e',by simp [h1],h2⟩
    have main : Region.binds .any e = true → (Nat.lor (Nat.lor (2 ^ e.on) (acc.getD e.on 0)) (z8k acc r)).testBit i = true → ∃ e' ∈ e :: r,Region.binds .any e' = true ∧ (i = e'.on ∨ (acc.getD e'.on 0).testBit i = true) := by
      intro hb hh
      have hh' : ((2 ^ e.on ||| acc.getD e.on 0) ||| z8k acc r).testBit i = true := hh
      rw [Nat.testBit_or,Nat.testBit_or,Bool.or_eq_true,Bool.or_eq_true] at hh'
      rcases hh' with (q | q) | q
      · rw [Nat.testBit_two_pow] at q
        exact ⟨e,by simp,hb,.inl (by have := of_decide_eq_true q; exact this.symm)⟩
      · exact ⟨e,by simp,hb,.inr q⟩
      · exact rest q
    unfold z8k at h
    split at h
    · exact rest h
    · exact rest h
    · rename_i h1 h2
      refine main ?_ h
      unfold Region.binds
      split
      · rename_i row hg; exact absurd hg (h1 row)
      · rename_i row hg; exact absurd hg (h2 row)
      · rfl
theorem znA : ∀ (r : List Oper) (acc : List Nat),(∃ t,z7o r acc = acc ++ t) ∧ ∀ (j : Nat) (o : Oper),r[j]? = some o → (z7o r acc).getD (acc.length + j) 0 = z8k ((z7o r acc).take (acc.length + j)) o.after.toList
  | [],acc => ⟨⟨[],by simp [z7o]⟩,fun j o h => by simp at h⟩
  | x :: r,acc => by
    obtain ⟨⟨t,h1⟩,h2⟩ := znA r (acc ++ [z8k acc x.after.toList])
    refine ⟨⟨z8k acc x.after.toList :: t,by simp only [z7o]; rw [h1]; simp⟩,fun j o h => ?_⟩
    simp only [z7o]
    cases j with
    | zero =>
      simp at h
      subst h
      rw [h1]
      simp
    | succ j =>
      have := h2 j o (by simpa using h)
      rw [List.length_append,List.length_singleton] at this
      rw [show acc.length + (j + 1) = acc.length + 1 + j by omega]
      exact this
theorem zgf : ∀ (os : List Oper) (i : Nat),zgm os i = true → ∀ (j : Nat) (o : Oper),os[j]? = some o → ∀ e ∈ o.after.toList,Region.binds .any e = true → e.on < i + j
  | [],i,_,j,o,h,_,_,_ => by simp at h
  | x :: r,i,hl,j,o,h,e,he,hb => by
    simp only [zgm,Bool.and_eq_true,List.all_eq_true] at hl
    cases j with
    | zero =>
      simp at h
      subst h
      have := hl.1 e he
      unfold Region.binds at hb
      split at this
      · rename_i row hg; rw [hg] at hb; cases hb
      · rename_i row hg; rw [hg] at hb; cases hb
      · have := by simpa [Nat.blt_eq] using this
        omega
    | succ j =>
      have := zgf r (i + 1) hl.2 j o (by simpa using h) e he hb
      omega
def closed (os : List Oper) (L : Nat → Bool) : Prop := ∀ (j : Nat) (o : Oper),L j = true → os[j]? = some o → ∀ e ∈ o.after.toList,Region.binds .any e = true → L e.on = true
theorem zlX {os : List Oper} {L : Nat → Bool} (hlow : zgm os 0 = true) (hcl : closed os L) : ∀ (j i : Nat),((z7o os []).getD j 0).testBit i = true →
    (∀ (o : Oper),os[j]? = some o → ∀ e ∈ o.after.toList,Region.binds .any e = true → L e.on = true) → L i = true := by
  intro j
  induction j using Nat.strongRecOn with
  | ind j ih =>
    intro i hb hL
    obtain ⟨⟨t,ht⟩,hs⟩ := znA os []
    cases ho : os[j]? with
    | none =>
      have hlen : ∀ (r : List Oper) (acc : List Nat),(z7o r acc).length = acc.length + r.length := by
        intro r
        induction r with
        | nil => intro acc; simp [z7o]
        | cons x r ih => intro acc; simp only [z7o]; rw [ih]; simp; omega
      have hle := List.getElem?_eq_none_iff.1 ho
      have : (z7o os []).getD j 0 = 0 := by
        rw [List.getD_eq_getElem?_getD,List.getElem?_eq_none (by rw [hlen]; simpa using hle)]; rfl
      rw [this] at hb
      simp at hb
    | some o =>
      have := hs j o ho
      simp only [List.length_nil,Nat.zero_add] at this
      rw [this] at hb
      obtain ⟨e,he,hbind,hcase⟩ := zlw _ hb
      have hon := hL o ho e he hbind
      have hlt := zgf os 0 hlow j o ho e he hbind
      rw [Nat.zero_add] at hlt
      rcases hcase with rfl | hcase
      · exact hon
      · refine ih e.on hlt i ?_ (fun o' ho' => hcl e.on o' hon ho')
        have e1 : ((z7o os []).take j).getD e.on 0 = (z7o os []).getD e.on 0 := by
          rw [List.getD_eq_getElem?_getD,List.getD_eq_getElem?_getD,List.getElem?_take,if_pos hlt]
        rwa [e1] at hcase
end
end Go.PE
namespace Go.PE
section
variable [Univ] [z2U] [Ground] {cx : Cx} {I I' Iin : Facts} {s s' sin : Hand} {hp hpr hpL : Nat → Option C} {w w' : World} {P : Program}
structure At (cx : Cx) (Iin : Facts) (sin : Hand) (nt : Nat) (st : St) (a : Act) (w : World) : Prop where
  ex : ∃ I s,Iin.le I ∧ sin.le s ∧ WInv cx I s (get st.hp) w ∧ ∀ t,z1M I s st.tm a.tmps t
  size : nt ≤ a.tmps.size
  defers : a.defers = []
theorem zlt (a : Act) (d : Option Nat) (v : Value) : (a.put d v).tmps.size = a.tmps.size := by
  cases d <;> simp [Act.put]
theorem put_defers (a : Act) (d : Option Nat) (v : Value) : (a.put d v).defers = a.defers := by
  cases d <;> rfl
theorem zq7 (a : Act) {nt : Nat} {d : Option Nat} (hd : zuq nt d = true) (hs : nt ≤ a.tmps.size) (v : Value) (t : Nat) : (a.put d v).tmps.getD t Go.undef = if d = some t then v else a.tmps.getD t Go.undef := by
  cases d with
  | none => simp [Act.put]
  | some e =>
    have : e < nt := by simpa [zuq,Nat.blt_eq] using hd
    by_cases h : e = t
    · subst h
      rw [if_pos rfl]
      simp only [Act.put,Array.getD_eq_getD_getElem?]
      rw [Array.getElem?_setIfInBounds_self_of_lt (by omega)]
      rfl
    · rw [if_neg (fun q => h (Option.some.inj q))]
      simp only [Act.put,Array.getD_eq_getD_getElem?]
      rw [Array.getElem?_setIfInBounds_ne h]
theorem zmL (hG : Ground.G.le cx.I0) {nt rid : Nat} {ops : Array Oper} {d : RD} {Q : Exit → Act → World → Prop} (hl : True) : ∀ (rest : List Oper) (i : Nat) (st : St) (rs : List SR) (st' : St),
    zlm P (Spec P) nt rid ops.toList d rest i st rs st' → (∀ (j : Nat) (o : Oper),rest[j]? = some o → ops[i + j]? = some o) → (∀ r ∈ rs,∀ p ∈ r.conds,p) → (∀ a w,At cx Iin sin nt st' a w → Q .normal a w) →
    ∀ a w,At cx Iin sin nt st a w → wpOps P ops Q (List.range' i rest.length) a w
  | [],i,st,[],st',h,_,_,hQ,a,w,hat => by
    simp only [zlm] at h
    subst h
    exact hQ a w hat
  | o :: rest,i,st,r :: rs,st',h,ho,hc,hQ,a,w,hat => by
    obtain ⟨h1,h2⟩ := h
    obtain ⟨⟨I,s,e1,e2,e3,e4⟩,a1,a2⟩ := hat
    rw [List.length_cons,List.range'_succ,wpOps_cons]
    have hd := h1.feet.2.2.2.2.2
    refine zmU hG e3 h1 (by simpa using ho 0 o rfl) (hc r (by simp)) (fun t _ => e4 t) (fun _ _ => rfl) hl ?_
    intro v w' I' s' g1 g2 g3 g4
    refine zmL hG hl rest (i + 1) _ rs st' h2 (fun j o' hj => by rw [show i + 1 + j = i + (j + 1) by omega]; exact ho (j + 1) o' (by simpa using hj)) (fun r' hr' => hc r' (by simp [hr'])) hQ _ _ ⟨⟨I',s',Facts.le_trans e1 g1,Hand.le_trans e2 g2,?_,?_⟩,by rw [zlt]; exact a1,by rw [put_defers]; exact a2⟩
    · simp only [SR.app]
      rw [zcL]; exact g3
    · intro t
      unfold z1M
      rw [zq7 a hd a1]
      simp only [SR.app,zii]
      split
      · exact g4
      · exact z4o g1 g2 _ _ (e4 t)
  | [],_,_,_ :: _,_,h,_,_,_,_,_,_ => h.elim
  | _ :: _,_,_,[],_,h,_,_,_,_,_,_ => h.elim
def unl (l : List Bool) : Nat := l.countP (fun b => !b)
theorem zwJ : ∀ (l : List Bool) (i : Nat),l[i]? = some false → unl (l.set i true) + 1 = unl l
  | [],i,h => by simp at h
  | b :: r,0,h => by simp at h; subst h; simp [unl]
  | b :: r,i + 1,h => by
    have := zwJ r i (by simpa using h)
    unfold unl at this ⊢
    cases b
    · simp only [List.set_cons_succ,List.countP_cons,Bool.not_false,if_true]; omega
    · simp only [List.set_cons_succ,List.countP_cons,Bool.not_true]; simpa using this
theorem zBo : ∀ (l : List Bool) (i : Nat),l[i]? = some false → 0 < unl l := fun l i h => by have := zwJ l i h; omega
def lst (listed : Array Bool) : Nat → Bool := fun i => listed.getD i false
theorem zBE (listed : Array Bool) {i : Nat} (hi : i < listed.size) (j : Nat) : lst (listed.setIfInBounds i true) j = (if j = i then true else lst listed j) := by
  unfold lst
  by_cases h : j = i
  · subst h; simp [hi]
  · rw [if_neg h]; simp only [Array.getD_eq_getD_getElem?]; rw [Array.getElem?_setIfInBounds_ne (Ne.symm h)]
theorem zlA (n j : Nat) : lst (Array.replicate n false) j = false := by
  unfold lst
  rw [Array.getD_eq_getD_getElem?,Array.getElem?_replicate]
  split <;> rfl
theorem zz0 (hG : Ground.G.le cx.I0) {nt rid : Nat} {ops : Array Oper} {d : RD} {Q : Exit → Act → World → Prop} (hl : True) {st0 st' : St} {rs : List SR}
    (hrun : zlm P (Spec P) nt rid ops.toList d ops.toList 0 st0 rs st') (hord : ordered (z7o ops.toList []) (rs.map SR.foot).reverse = true) (hlow : zgm ops.toList 0 = true) (hc : ∀ r ∈ rs,∀ p ∈ r.conds,p)
    (hQ : ∀ a w,At cx Iin sin nt st' a w → Q .normal a w) : ∀ (fuel : Nat) (listed : Array Bool) (a : Act) (w : World),listed.size = ops.size → closed ops.toList (lst listed) → unl listed.toList ≤ fuel →
    At cx Iin sin nt (z5d (lst listed) ops.toList rs 0 st0) a w → wpAny P .any ops Q fuel listed a w := by
  obtain ⟨hlen,hall,hstep⟩ := zsI _ _ _ _ _ hrun
  have hlt : ∀ (j : Nat) (o : Oper),ops.toList[j]? = some o → j < ops.size := fun j o h => by have := (List.getElem?_eq_some_iff.1 h).1; simpa using this
  have hfeet : ∀ (i j : Nat) (f g : SR),i < j → rs[i]? = some f → rs[j]? = some g → conflict f.foot g.foot = true → ((z7o ops.toList []).getD j 0).testBit i = true := by
    intro i j f g hij hf hg hconf
    have hp := List.pairwise_reverse.1 (znX _ hord)
    have hli : i < rs.length := (List.getElem?_eq_some_iff.1 hf).1
    have hlj : j < rs.length := (List.getElem?_eq_some_iff.1 hg).1
    have := List.pairwise_iff_getElem.1 hp i j (by simpa using hli) (by simpa using hlj) hij
    have ef : (rs.map SR.foot)[i]'(by simpa using hli) = f.foot := by
      rw [List.getElem_map]; congr 1; exact (List.getElem?_eq_some_iff.1 hf).2
    have eg : (rs.map SR.foot)[j]'(by simpa using hlj) = g.foot := by
      rw [List.getElem_map]; congr 1; exact (List.getElem?_eq_some_iff.1 hg).2
    rw [ef,eg] at this
    have h1 := this hconf
    have hoi : ∃ o,ops.toList[i]? = some o := ⟨_,List.getElem?_eq_getElem (by omega)⟩
    have hoj : ∃ o,ops.toList[j]? = some o := ⟨_,List.getElem?_eq_getElem (by omega)⟩
    obtain ⟨oi,hoi⟩ := hoi
    obtain ⟨oj,hoj⟩ := hoj
    rw [(hstep i oi f hoi hf).feet.1,(hstep j oj g hoj hg).feet.1] at h1
    simpa using h1
  have agree : ∀ (listed : Array Bool) (i : Nat) (oi : Oper) (ri : SR),closed ops.toList (lst listed) → lst listed i = false → ops.toList[i]? = some oi → rs[i]? = some ri → (∀ e ∈ oi.after.toList,Region.binds .any e = true → lst listed e.on = true) →
      ∀ (j : Nat) (rj : SR),rs[j]? = some rj → conflict ri.foot rj.foot = true → conflict rj.foot ri.foot = true → lst listed j = decide (j < i) := by
    intro listed i oi ri hcl hni hoi hri hedge j rj hrj hc1 hc2
    rcases Nat.lt_trichotomy j i with h | h | h
    · rw [decide_eq_true h]
      refine zlX hlow hcl i j (hfeet j i rj ri h hrj hri hc2) (fun o ho => ?_)
      rw [hoi] at ho
      cases ho
      exact hedge
    · subst h; rw [hni]; simp
    · rw [decide_eq_false (by omega)]
      cases hj : lst listed j with
      | false => rfl
      | true =>
        have := zlX hlow hcl j i (hfeet i j ri rj h hri hrj hc1) (fun o ho => hcl j o hj ho)
        rw [hni] at this; cases this
  intro fuel
  have done : ∀ (listed : Array Bool) (a : Act) (w : World),listed.size = ops.size → At cx Iin sin nt (z5d (lst listed) ops.toList rs 0 st0) a w → Region.ready .any ops listed = [] → Q .normal a w := by
    intro listed a w hsz hat hnil
    have alll : ∀ j,j < ops.size → lst listed j = true := by
      intro j
      induction j using Nat.strongRecOn with
      | ind j ih =>
        intro hj
        cases hlj : lst listed j with
        | true => rfl
        | false =>
          have hoj : ops[j]? = some ops[j] := Array.getElem?_eq_getElem hj
          have hm : j ∈ Region.ready .any ops listed := by
            rw [mem_ready]
            refine ⟨?_,_,hoj,fun e he hb => ?_⟩
            · unfold lst at hlj
              rw [Array.getD_eq_getD_getElem?,Array.getElem?_eq_getElem (by omega)] at hlj ⊢
              simpa using hlj
            · have hlow' := zgf _ 0 hlow j ops[j] (by rw [Array.getElem?_toList]; exact hoj) e (by simpa using he) hb
              rw [Nat.zero_add] at hlow'
              exact ih e.on hlow' (by omega)
          rw [hnil] at hm
          simp at hm
    have := zpY (L := lst listed) (M := fun _ => true) ops.toList rs 0 st0 (fun j hj => by rw [Nat.zero_add]; exact alll j (by simpa using hj))
    rw [this,hall] at hat
    exact hQ a w hat
  induction fuel with
  | zero =>
    intro listed a w hsz hcl hun hat
    have hnil : Region.ready .any ops listed = [] := by
      rw [List.eq_nil_iff_forall_not_mem]
      intro j hj
      rw [mem_ready] at hj
      obtain ⟨h0,o,ho,_⟩ := hj
      have hjl : j < listed.size := by rw [hsz]; exact hlt j o (by simpa using ho)
      have : listed.toList[j]? = some false := by
        rw [Array.getD_eq_getD_getElem?,Array.getElem?_eq_getElem hjl] at h0
        rw [Array.getElem?_toList,Array.getElem?_eq_getElem hjl]
        simpa using h0
      have := zBo _ _ this
      omega
    exact ⟨hnil,done listed a w hsz hat hnil⟩
  | succ fuel ih =>
    intro listed a w hsz hcl hun hat
    refine ⟨fun hnil => done listed a w hsz hat hnil,fun i hi => ?_⟩
    rw [mem_ready] at hi
    obtain ⟨h0,oi,hoi,hedge⟩ := hi
    have hoi' : ops.toList[i]? = some oi := by simpa using hoi
    have hil : i < listed.size := by rw [hsz]; exact hlt i oi hoi'
    have hni : lst listed i = false := by
      unfold lst
      rw [Array.getD_eq_getD_getElem?,Array.getElem?_eq_getElem hil] at h0 ⊢
      simpa using h0
    have hget : listed.toList[i]? = some false := by
      rw [Array.getD_eq_getD_getElem?,Array.getElem?_eq_getElem hil] at h0
      rw [Array.getElem?_toList,Array.getElem?_eq_getElem hil]
      simpa using h0
    have hedge' : ∀ e ∈ oi.after.toList,Region.binds .any e = true → lst listed e.on = true := fun e he hb => hedge e (by simpa using he) hb
    have hri : ∃ ri,rs[i]? = some ri := ⟨_,List.getElem?_eq_getElem (by rw [hlen]; have := hlt i oi hoi'; simpa using this)⟩
    obtain ⟨ri,hri⟩ := hri
    have hag := agree listed i oi ri hcl hni hoi' hri hedge'
    have hstepi := hstep i oi ri hoi' hri
    rw [Nat.zero_add] at hstepi
    obtain ⟨ft1,ft2,ft3,ft4,ft5,ft6⟩ := hstepi.feet
    have confHp : ∀ (j : Nat) (rj : SR) (id : Nat),rs[j]? = some rj → id ∈ keys rj.upd → id ∈ ri.foot.acc → conflict ri.foot rj.foot = true ∧ conflict rj.foot ri.foot = true := by
      intro j rj id hrj hk hid
      have hoj : ∃ o,ops.toList[j]? = some o := ⟨_,List.getElem?_eq_getElem (by have := (List.getElem?_eq_some_iff.1 hrj).1; omega)⟩
      obtain ⟨oj,hoj⟩ := hoj
      have fj := (hstep j oj rj hoj hrj).feet
      have : meets rj.foot.wr ri.foot.acc = true := (zpx _ _).2 ⟨id,by rw [fj.2.1]; exact hk,hid⟩
      unfold conflict
      simp [this]
    have confTm : ∀ (j : Nat) (oj : Oper) (t : Nat),ops.toList[j]? = some oj → oj.dst = some t → t ∈ ri.foot.rd → ∃ rj,rs[j]? = some rj ∧ conflict ri.foot rj.foot = true ∧ conflict rj.foot ri.foot = true := by
      intro j oj t hoj hd ht
      have hrj : ∃ r,rs[j]? = some r := ⟨_,List.getElem?_eq_getElem (by have := (List.getElem?_eq_some_iff.1 hoj).1; omega)⟩
      obtain ⟨rj,hrj⟩ := hrj
      have fj := (hstep j oj rj hoj hrj).feet
      have : meets rj.foot.wt ri.foot.rd = true := (zpx _ _).2 ⟨t,by rw [fj.2.2.2.2.1,hd]; simp,ht⟩
      refine ⟨rj,hrj,?_⟩
      unfold conflict
      simp [this]
    have hhp : ∀ id ∈ ri.foot.acc,get (z5d (lst listed) ops.toList rs 0 st0).hp id = get (z5d (fun k => decide (k < i)) ops.toList rs 0 st0).hp id := by
      intro id hid
      refine zp2 _ _ _ _ _ (fun j rj hrj hk => ?_) rfl
      rw [Nat.zero_add]
      obtain ⟨c1,c2⟩ := confHp j rj id hrj hk hid
      exact hag j rj hrj c1 c2
    have htm : ∀ t ∈ slotsOf ops.toList oi,getV (z5d (lst listed) ops.toList rs 0 st0).tm t = getV (z5d (fun k => decide (k < i)) ops.toList rs 0 st0).tm t := by
      intro t ht
      refine zp7 _ _ _ _ _ (fun j oj hoj hd => ?_) rfl
      rw [Nat.zero_add]
      obtain ⟨rj,hrj,c1,c2⟩ := confTm j oj t hoj hd (by rw [ft4]; exact ht)
      exact hag j rj hrj c1 c2
    obtain ⟨⟨I,s,e1,e2,e3,e4⟩,a1,a2⟩ := hat
    refine zmU hG e3 hstepi hoi (hc ri (List.mem_of_getElem? hri)) (fun t ht => by unfold z1M; rw [← htm t ht]; exact e4 t) hhp hl ?_
    intro v w' I' s' g1 g2 g3 g4
    have hlst := zBE listed hil
    have hcl' : closed ops.toList (lst (listed.setIfInBounds i true)) := by
      intro j o hj ho e he hb
      rw [hlst] at hj ⊢
      split
      · rfl
      · split at hj
        · rename_i hji
          subst hji
          rw [hoi'] at ho
          cases ho
          exact hedge' e he hb
        · exact hcl j o hj ho e he hb
    refine ih _ _ _ (by simpa using hsz) hcl' ?_ ⟨⟨I',s',Facts.le_trans e1 g1,Hand.le_trans e2 g2,?_,?_⟩,by rw [zlt]; exact a1,by rw [put_defers]; exact a2⟩
    · rw [Array.toList_setIfInBounds]
      have := zwJ _ _ hget
      omega
    · have : get (z5d (lst (listed.setIfInBounds i true)) ops.toList rs 0 st0).hp = addF ri.upd (get (z5d (lst listed) ops.toList rs 0 st0).hp) := by
        funext id
        by_cases hk : id ∈ keys ri.upd
        · rw [zm7 ops.toList rs 0 i st0 oi ri hoi' hri (by rw [Nat.zero_add,hlst,if_pos rfl]) hk (fun m r' hm hr' hk' => ?_)]
          · exact ztX _ _ _ _ hk
          · rw [Nat.zero_add,hlst,if_neg (by omega)]
            obtain ⟨c1,c2⟩ := confHp m r' id hr' hk' (ft3 id hk)
            rw [hag m r' hr' c1 c2]
            exact decide_eq_false (by omega)
        · rw [zri _ _ _ hk]
          refine zp2 _ _ _ _ _ (fun j rj hrj hk' => ?_) rfl
          rw [Nat.zero_add,hlst]
          split
          · rename_i hji
            subst hji
            rw [hri] at hrj
            cases hrj
            exact absurd hk' hk
          · rfl
      rw [this]
      exact g3
    · intro t
      unfold z1M
      rw [zq7 a ft6 a1]
      by_cases hd : oi.dst = some t
      · rw [if_pos hd,zkQ ops.toList rs 0 i st0 oi ri hoi' hri (by rw [Nat.zero_add,hlst,if_pos rfl]) hd (fun m o' hm ho' hd' => ?_)]
        · exact g4
        · rw [Nat.zero_add,hlst,if_neg (by omega)]
          obtain ⟨rj,hrj,c1,c2⟩ := confTm m o' t ho' hd' (by rw [ft4]; exact zzE hd)
          rw [hag m rj hrj c1 c2]
          exact decide_eq_false (by omega)
      · rw [if_neg hd]
        have : getV (z5d (lst (listed.setIfInBounds i true)) ops.toList rs 0 st0).tm t = getV (z5d (lst listed) ops.toList rs 0 st0).tm t := by
          refine zp7 _ _ _ _ _ (fun j oj hoj hd' => ?_) rfl
          rw [Nat.zero_add,hlst]
          split
          · rename_i hji
            subst hji
            rw [hoi'] at hoj
            cases hoj
            exact absurd hd' hd
          · rfl
        rw [this]
        exact z4o g1 g2 _ _ (e4 t)
theorem zuX (hm : P.follows .mixedOrders = true) (hG : Ground.G.le cx.I0) {nt rid : Nat} {ops : Array Oper} {draw : Bool} {d : RD} {st st' : St} {cs : List Prop} (he : zr6 P (Spec P) nt rid ops draw d st = some (st',cs)) (hc : ∀ p ∈ cs,p)
    {Q : Exit → Act → World → Prop} (hl : True) (hQ : ∀ a w,At cx Iin sin nt st' a w → Q .normal a w) {a : Act} {w : World} (hat : At cx Iin sin nt st a w) : (Code.region rid ops draw).wp P Q a w := by
  unfold zr6 at he
  split at he
  · rename_i st1 cs1 fs hr
    obtain ⟨rs,h1,h2,h3⟩ := zlK _ _ _ _ _ _ _ _ hr
    rw [List.nil_append] at h2
    rw [List.append_nil] at h3
    subst h2; subst h3
    have hconds : cs = rs.flatMap SR.conds → ∀ r ∈ rs,∀ p ∈ r.conds,p := fun e r hr p hp => hc p (by rw [e]; exact List.mem_flatMap.2 ⟨r,hr,hp⟩)
    cases draw with
    | false =>
      simp only [cond_false,Option.some.injEq,Prod.mk.injEq] at he
      obtain ⟨rfl,rfl⟩ := he
      have := zmL (Iin := Iin) (sin := sin) hG hl ops.toList 0 st rs st1 h1 (fun j o hj => by simpa using hj) (hconds rfl) hQ a w hat
      rw [Array.length_toList,← List.range_eq_range'] at this
      exact wp_region this
    | true =>
      rw [cond_true] at he
      cases hz : (ordered (z7o ops.toList []) (rs.map SR.foot).reverse && zgm ops.toList 0) with
      | false => rw [hz] at he; cases he
      | true =>
        rw [hz,cond_true] at he
        simp only [Option.some.injEq,Prod.mk.injEq] at he
        obtain ⟨rfl,rfl⟩ := he
        simp only [Bool.and_eq_true] at hz
        refine wp_region_any hm ?_
        refine zz0 (Iin := Iin) (sin := sin) hG hl h1 hz.1 hz.2 (hconds rfl) hQ ops.size _ a _ (by simp) ?_ ?_ ?_
        · intro j o hj
          rw [zlA] at hj; cases hj
        · unfold unl
          have := List.countP_le_length (p := fun b => !b) (l := (Array.replicate ops.size false).toList)
          simpa using this
        · have : z5d (lst (Array.replicate ops.size false)) ops.toList rs 0 st = st := zeV _ _ _ _ (fun j => zlA _ _)
          rw [this]
          obtain ⟨⟨I,s,e1,e2,e3,e4⟩,a1,a2⟩ := hat
          exact ⟨⟨I,s,e1,e2,e3.of_heap rfl rfl rfl rfl,e4⟩,a1,a2⟩
  · cases he
end
end Go.PE
namespace Go.PE
def z0l (f : Func) : Code := match f.body with
  | some c => c
  | none => .skip
def zxF (P : Program) (f : Nat) : List ResultVar := match P.funcs[f]? with
  | some fn => fn.results.toList
  | none => []
def ntOf (P : Program) (f : Nat) : Nat := match P.funcs[f]? with
  | some fn => fn.ntmps
  | none => 0
theorem zmn : ∀ (l : List Prop) (q : Prop),conj l q → (∀ p ∈ l,p) ∧ q
  | [],q,h => ⟨fun p hp => by simp at hp,h⟩
  | p :: r,q,h => by
    obtain ⟨h1,h2⟩ := zmn r q h.2
    refine ⟨fun x hx => ?_,h2⟩
    rcases List.mem_cons.1 hx with rfl | hx
    · exact h.1
    · exact h1 x hx
section
variable [Univ] [z2U] [Ground] {cx : Cx} {I I' J Iin : Facts} {s s' t sin : Hand} {hp hpr hpL : Nat → Option C} {w w' : World} {P : Program}
theorem WInv.freeze (h : WInv cx I s hp w) {id : Nat} {t : Shape} {xs : List (El t)} {fz : Nat} (hid : hp id = some (.row t xs fz)) : ∃ I',I.le I' ∧ WInv cx I' s (setF hp id (.row t xs 2)) w := by
  have hr := h.cont id _ hid
  simp only [repC] at hr
  obtain ⟨base,cap,k1,k2,k3⟩ := hr
  rcases Nat.eq_zero_or_pos cap with hc0 | hcp
  · subst hc0
    refine ⟨I,Facts.le_refl _,?_⟩
    have := (h.kill id).zk1 (s' := s) (I' := I) (w' := w) id (.row t xs 2) none (fun c0 h0 => by simp at h0; subst h0; rfl) (Hand.le_refl _) (fun i v hv => .inr hv) (fun b hb => by cases base <;> simp [blk,k1] at hb) ⟨Nat.le_refl _,fun _ _ _ => rfl,rfl,rfl,rfl⟩
      (Facts.le_refl _) (fun _ _ _ => rfl) (fun b' o v e hv => by cases e) (fun b' e => by cases e) (fun b' e => by cases e) (by simp only [repC]; exact ⟨base,0,k1,k2,.inl rfl⟩)
    rwa [zeO] at this
  · rcases k3 with hc0 | ⟨b,rfl,arr,e,fr,q1,q2,q3,q4,q5,q6,q7⟩
    · omega
    · have hblk : blk s id (.row t xs fz) = some b := by
        obtain ⟨c',rfl⟩ : ∃ c',cap = c' + 1 := ⟨cap - 1,by omega⟩
        simp [blk,k1]
      have hle : I.le (z1k I b (arr.toList.take (xs.length * PE.size t))) := by
        intro b' o v hv
        simp only [z1k]
        split
        · rename_i hb
          subst hb
          have := h.agree _ _ _ hv
          simp only [World.cell?,q1] at this
          rw [List.getElem?_take,if_pos (q5 o v hv)]
          simpa using this
        · exact hv
      refine ⟨z1k I b (arr.toList.take (xs.length * PE.size t)),hle,?_⟩
      have := (h.kill id).zk1 (s' := s) (I' := z1k I b (arr.toList.take (xs.length * PE.size t))) (w' := w) id (.row t xs 2) (some b) (fun c0 h0 => by simp at h0; subst h0; rfl) (Hand.le_refl _) (fun i v hv => .inr hv)
        (fun b' hb => by
          obtain ⟨c',rfl⟩ : ∃ c',cap = c' + 1 := ⟨cap - 1,by omega⟩
          simp [blk,k1] at hb; rw [hb]) ⟨Nat.le_refl _,fun _ _ _ => rfl,rfl,rfl,rfl⟩ hle
        (fun b' hb o => by simp only [z1k]; rw [if_neg (fun e => hb (by rw [e]))])
        (fun b' o v e hv => by
          cases e
          simp only [z1k,if_true] at hv
          rw [List.getElem?_take] at hv
          split at hv
          · simp only [World.cell?,q1]; simpa using hv
          · cases hv)
        (fun b' e i c0 h0 hb => by
          cases e
          by_cases hi : i = id
          · subst hi; simp at h0; subst h0; simp [blk] at hb
          · rw [z0O _ _ hi] at h0
            exact hi (h.apart i id c0 _ b h0 hid hb hblk))
        (fun b' e => by cases e; exact h.own id _ b hid hblk)
        (by
          simp only [repC]
          refine ⟨_,cap,k1,k2,.inr ⟨b,rfl,arr,e,fr,q1,q2,q3,z8g hle _ _ q4,fun o v hv => ?_,fun hz => (by cases hz),fun _ j v hj => ?_⟩⟩
          · simp only [z1k,if_true] at hv
            have := (List.getElem?_eq_some_iff.1 hv).1
            rw [List.length_take] at this
            omega
          · simp only [z1k,if_true,Nat.zero_add]
            exact hj)
      rwa [zeO] at this
theorem ze6 {id : Nat} {c : C} {hp : List (Nat × C)} : get ((id,c) :: hp) = setF (get hp) id c := by
  funext j
  simp only [get,setF]
  by_cases e : id = j
  · subst e; rw [z3F]; simp
  · rw [z2X e,cond_false,if_neg (Ne.symm e)]
theorem zpS : ∀ (l : List Nat) (hp hp' : List (Nat × C)) (I : Facts),WInv cx I s (get hp) w → fzs hp l = some hp' → ∃ I',I.le I' ∧ WInv cx I' s (get hp') w
  | [],hp,hp',I,h,e => by simp only [fzs,Option.some.injEq] at e; subst e; exact ⟨I,Facts.le_refl _,h⟩
  | id :: r,hp,hp',I,h,e => by
    simp only [fzs] at e
    split at e
    · rename_i u xs fz hid
      obtain ⟨I',h1,h2⟩ := h.freeze hid
      rw [← ze6] at h2
      obtain ⟨I'',h3,h4⟩ := zpS r _ hp' I' h2 e
      exact ⟨I'',Facts.le_trans h1 h3,h4⟩
    · cases e
def Told (cx : Cx) (I : Facts) (s : Hand) (st : St) (tmps : Array Value) (w : World) : Prop :=
  ∃ I' s',I.le I' ∧ s.le s' ∧ WInv cx I' s' (get st.hp) w ∧ ∀ t,z1M I' s' st.tm tmps t
theorem zmf (tm : List (Nat × V)) (d : Nat) (v : V) (t : Nat) : getV ((d,v) :: tm) t = if d = t then v else getV tm t := by
  simp only [getV,get]
  by_cases h : d = t
  · subst h; rw [z3F]; simp
  · rw [z2X h,cond_false,if_neg h]
theorem zwK {I : Facts} {s : Hand} : ∀ (cs : List V) (vs : List Value) (i : Nat) (x : V),z0v I s cs vs → (∀ v,vs[i]? = some v → repV I s x v) → z0v I s (cs.set i x) vs
  | [],[],i,x,h,_ => by simpa using h
  | c :: r,v :: q,0,x,h,hx => by
    simp only [z0v] at h
    simp only [List.set_cons_zero,z0v]
    exact ⟨hx v rfl,h.2⟩
  | c :: r,v :: q,i + 1,x,h,hx => by
    simp only [z0v] at h
    simp only [List.set_cons_succ,z0v]
    exact ⟨h.1,zwK r q i x h.2 fun u hu => hx u (by simpa using hu)⟩
  | [],_ :: _,_,_,h,_ => by simp only [z0v] at h
  | _ :: _,[],_,_,h,_ => by simp only [z0v] at h
theorem WInv.zzc (h : WInv cx I s hp w) {id : Nat} {cs cs' : List V} (hid : hp id = some (.box cs)) (hr : ∀ vs,z0v I s cs vs → z0v I s cs' vs) : WInv cx I s (setF hp id (.box cs')) w := by
  have hc := h.cont id _ hid
  simp only [repC] at hc
  obtain ⟨b,arr,e,fr,k1,k2,k3,k4,k5⟩ := hc
  refine h.rewrite hid (b := b) (by simp [blk,k1]) ⟨Nat.le_refl _,fun _ _ _ => rfl,rfl,rfl,rfl⟩ (fun b' hb' => by simp [blk,k1] at hb'; exact hb'.symm) (fun o v hI => by rw [k4] at hI; cases hI) ?_
  simp only [repC]
  exact ⟨b,arr,e,fr,k1,k2,k3,k4,hr _ k5⟩
theorem zvu (h : WInv cx I s hp w) {u : Shape} {v v' : V} (hn : zxT hp u v = some v') {x : Value} (hx : repV I s v x) : repV I s v' x := by
  unfold zxT at hn
  cases hw : zfY u v with
  | false => rw [hw] at hn; cases hn
  | true =>
    rw [hw,cond_true] at hn
    split at hn
    · rename_i e he
      cases hn
      exact zmV (zsU h (fun _ _ q => q) hw he hx)
    · cases hn
theorem zya {st st' : St} {c : Co} (he : coSt st c = some st') {tmps : Array Value} (h : WInv cx I s (get st.hp) w) (hs : ∀ t,z1M I s st.tm tmps t) : Told cx I s st' tmps w := by
  have slots : ∀ {I' s'} (I1 : I.le I') (s1 : s.le s') (d : Nat) (v : V),(∀ x,z1M I s st.tm tmps d → x = tmps.getD d Go.undef → repV I' s' v x) → ∀ t,z1M I' s' ((d,v) :: st.tm) tmps t := by
    intro I' s' I1 s1 d v hv t
    unfold z1M
    rw [zmf]
    split
    · rename_i e
      subst e
      exact hv _ (hs d) rfl
    · exact z4o I1 s1 _ _ (hs t)
  cases c with
  | fz id =>
    simp only [coSt] at he
    split at he
    · rename_i hp' hf
      cases he
      obtain ⟨I',h1,h2⟩ := zpS [id] _ _ _ h hf
      exact ⟨I',s,h1,Hand.le_refl _,h2,fun t => z4o h1 (Hand.le_refl _) _ _ (hs t)⟩
    · cases he
  | nilRow t u id =>
    simp only [coSt] at he
    split at he
    · rename_i hv hid
      cases he
      obtain ⟨I',s',r1,r2,r3,r4⟩ := (zp6 h (t := u) (fz := 0) hid none).1
      refine ⟨I',s',r1,r2,?_,slots r1 r2 t _ fun x hx e => ?_⟩
      · rw [ze6]; exact r3
      · unfold z1M at hx
        rw [hv] at hx
        simp only [repV] at hx
        rw [e,hx]
        exact r4
    · cases he
  | mvRow t id =>
    simp only [coSt] at he
    split at he
    · rename_i old hv
      split at he
      · rename_i c hold hid
        cases he
        have hx := hs t
        unfold z1M at hx
        rw [hv] at hx
        simp only [repV] at hx
        obtain ⟨hx1,hx2⟩ := hx
        have hne : id ≠ old := by rintro rfl; rw [hid] at hold; cases hold
        have hk := h.kill old
        have hc := h.cont old c hold
        let m : List (Nat × Nat) := [(old,id)]
        have hm : get m old = some id := by simp only [m,get,z3F,cond_true]
        let s' := setF s id (tmps.getD t Go.undef)
        have hss : s.le s' := z8T (h.unknown hid)
        have hso : s' id = s old := by simp only [s',setF_same]; rw [hx1]
        have hblk : blk s' id c = blk s old c := by
          cases c <;> simp only [blk,hso]
        have hkeep : repC I s' w old c := zi8 hc (Facts.le_refl _) hss fun b _ => ⟨rfl,fun _ => rfl⟩
        have hcc : repC I s' w id c := by
          have hso' : s' old = s old := hss old _ hx1 |> fun q => by rw [q,hx1]
          cases c <;> simp only [repC] at hkeep ⊢
          all_goals (rw [hso',← hso] at hkeep; exact hkeep)
        refine ⟨I,s',Facts.le_refl _,hss,?_,slots (Facts.le_refl _) hss t _ fun x _ e => ?_⟩
        · rw [ze6,ze6]
          refine hk.zk1 id c (blk s' id c) (fun c0 h0 => by rw [z0O _ _ hne,hid] at h0; cases h0) hss (fun i v hi => by
              by_cases hh : i = id
              · exact .inl hh
              · simp only [s'] at hi; rw [z0O _ _ hh] at hi; exact .inr hi) (fun b hb => hb) ⟨Nat.le_refl _,fun _ _ _ => rfl,rfl,rfl,rfl⟩ (Facts.le_refl _) (fun _ _ _ => rfl)
            (fun b o v _ hv => h.agree b o v hv) (fun b hb i c0 h0 hb0 => ?_) (fun b hb => ?_) hcc
          · by_cases hi : i = old
            · subst hi; simp at h0; subst h0; simp [blk] at hb0
            · rw [z0O _ _ hi] at h0
              rw [hblk] at hb
              exact hi (h.apart i old c0 c b h0 hold hb0 hb)
          · rw [hblk] at hb
            exact h.own old c b hold hb
        · simp only [repV,s',setF_same]
          exact ⟨by rw [e],by rw [e]; exact hx2⟩
      · cases he
    · cases he
  | norm t u =>
    simp only [coSt] at he
    split at he
    · rename_i v hv
      cases he
      refine ⟨I,s,Facts.le_refl _,Hand.le_refl _,h,slots (Facts.le_refl _) (Hand.le_refl _) t v fun x hx e => ?_⟩
      rw [e]
      exact zvu h hv hx
    · cases he
  | bNilRow b i u id =>
    simp only [coSt] at he
    split at he
    · rename_i cs hb hid
      split at he
      · rename_i hi
        cases he
        obtain ⟨I',s',r1,r2,r3,r4⟩ := (zp6 h (t := u) (fz := 0) hid none).1
        have hne : b ≠ id := by rintro rfl; rw [hid] at hb; cases hb
        have r3' : WInv cx I' s' (setF (get st.hp) id (.row u [] 0)) w := r3
        refine ⟨I',s',r1,r2,?_,fun t => z4o r1 r2 _ _ (hs t)⟩
        have := r3'.zzc (id := b) (cs := cs) (cs' := cs.set i (.row id)) (by rw [z0O _ _ hne]; exact hb) (fun vs hvs => zwK cs vs i _ hvs fun v hv => by
          obtain ⟨y,k1,k2⟩ := zcZ _ _ hvs i _ hi
          rw [hv] at k1
          cases k1
          simp only [repV] at k2
          rw [k2]
          exact r4)
        rw [ze6,ze6]
        have e : setF (setF (get st.hp) b (C.box (cs.set i (.row id)))) id (.row u [] 0) = setF (setF (get st.hp) id (.row u [] 0)) b (C.box (cs.set i (.row id))) := by
          funext j
          simp only [setF]
          by_cases h1 : j = id
          · subst h1; rw [if_pos rfl,if_neg (Ne.symm hne),if_pos rfl]
          · rw [if_neg h1,if_neg h1]
        rw [e]
        exact this
      · cases he
    · cases he
  | bNorm b n =>
    simp only [coSt] at he
    split at he
    · rename_i cs hb
      split at he
      · rename_i x hx
        cases he
        refine ⟨I,s,Facts.le_refl _,Hand.le_refl _,?_,hs⟩
        rw [ze6]
        exact h.zzc hb fun vs hvs => z5M (zdb h (fun _ _ q => q) hx hvs)
      · cases he
    · cases he
  | bNormC b i u =>
    simp only [coSt] at he
    split at he
    · rename_i cs hb
      split at he
      · rename_i v hv
        cases hu : z3k u with
        | true => rw [hu] at he; cases he
        | false =>
          rw [hu,cond_false] at he
          split at he
          · rename_i x hx
            cases he
            refine ⟨I,s,Facts.le_refl _,Hand.le_refl _,?_,hs⟩
            rw [ze6]
            refine h.zzc hb fun vs hvs => zwK cs vs i _ hvs fun y hy => ?_
            obtain ⟨y',k1,k2⟩ := zcZ _ _ hvs i _ hv
            rw [hy] at k1
            cases k1
            have hD := zdb h (fun _ _ q => q) hx (ys := [y]) (by simp only [z0v]; exact ⟨k2,trivial⟩)
            exact zmV (by unfold isEl; rw [hu]; exact hD)
          · cases he
      · cases he
    · cases he
theorem zkY : ∀ (l : List Co) (st st' : St) (I : Facts) (s : Hand),cos st l = some st' → ∀ {tmps : Array Value},WInv cx I s (get st.hp) w → (∀ t,z1M I s st.tm tmps t) → Told cx I s st' tmps w
  | [],st,st',I,s,e,tmps,h,hs => by
    simp only [cos,Option.some.injEq] at e
    subst e
    exact ⟨I,s,Facts.le_refl _,Hand.le_refl _,h,hs⟩
  | c :: r,st,st',I,s,e,tmps,h,hs => by
    simp only [cos] at e
    split at e
    · rename_i st1 h1
      obtain ⟨I1,s1,a1,a2,a3,a4⟩ := zya h1 h hs
      obtain ⟨I2,s2,b1,b2,b3,b4⟩ := zkY r st1 st' I1 s1 e a3 a4
      exact ⟨I2,s2,Facts.le_trans a1 b1,Hand.le_trans a2 b2,b3,b4⟩
    · cases e
def zbk (s : Hand) (ids : List Nat) : Hand := fun j => match ids[j]? with
  | some i => s i
  | none => none
theorem zcM {s : Hand} {ids : List Nat} {i j : Nat} (h : get (numbered 0 ids) i = some j) : zbk s ids j = s i := by
  have := (z5y ids 0 i j h).2
  rw [Nat.sub_zero] at this
  simp only [zbk,this]
theorem zsK {m : List (Nat × Nat)} {tm : List (Nat × V)} : ∀ (slots : List Nat) (tm' : List (Nat × V)),zvL m tm slots = some tm' → ∀ t,getV tm' t = .undef ∨ ren m (getV tm t) = some (getV tm' t)
  | [],tm',h,t => by simp only [zvL,Option.some.injEq] at h; subst h; exact .inl rfl
  | u :: r,tm',h,t => by
    simp only [zvL] at h
    split at h
    · rename_i v q hv hq
      cases h
      rw [zmf]
      split
      · rename_i e; subst e; exact .inr hv
      · exact zsK r q hq t
    · cases h
theorem zst {m : List (Nat × Nat)} {hp : List (Nat × C)} : ∀ (ids : List Nat) (k : Nat) (hp' : List (Nat × C)),zv8 m hp k ids = some hp' →
    (∀ j c',get hp' j = some c' → ∃ i c,k ≤ j ∧ ids[j - k]? = some i ∧ get hp i = some c ∧ renC m c = some c') ∧ ∀ j,k ≤ j → j < k + ids.length → (get hp' j).isSome = true
  | [],k,hp',h => by
    simp only [zv8,Option.some.injEq] at h
    subst h
    exact ⟨fun j c' hj => by simp [get] at hj,fun j h1 h2 => by simp at h2; omega⟩
  | id :: r,k,hp',h => by
    simp only [zv8] at h
    split at h
    · rename_i c hc
      split at h
      · rename_i c' q hc' hq
        cases h
        obtain ⟨h1,h2⟩ := zst r (k + 1) q hq
        refine ⟨fun j c'' hj => ?_,fun j hj1 hj2 => ?_⟩
        · simp only [get] at hj
          by_cases e : k = j
          · subst e
            rw [z3F,cond_true] at hj
            cases hj
            exact ⟨id,c,Nat.le_refl _,by simp,hc,hc'⟩
          · rw [z2X e,cond_false] at hj
            obtain ⟨i,c0,q1,q2,q3,q4⟩ := h1 j c'' hj
            refine ⟨i,c0,by omega,?_,q3,q4⟩
            rw [show j - k = (j - (k + 1)) + 1 by omega,List.getElem?_cons_succ]
            exact q2
        · simp only [get]
          by_cases e : k = j
          · subst e; rw [z3F]; rfl
          · rw [z2X e,cond_false]
            exact h2 j (by omega) (by simp at hj2; omega)
      · cases h
    · cases h
theorem zpn : ∀ (n k : Nat) (ids : List Nat),starts k n ids = true → ∀ j,j < n → ids[j]? = some (k + j)
  | 0,k,ids,_,j,h => by omega
  | n + 1,k,[],h,j,_ => by simp [starts] at h
  | n + 1,k,id :: r,h,j,hj => by
    simp only [starts,Bool.and_eq_true] at h
    cases j with
    | zero => rw [Nat.eq_of_beq_eq_true h.1]; rfl
    | succ j =>
      have := zpn n (k + 1) r h.2 j (by omega)
      rw [List.getElem?_cons_succ,this]
      congr 1; omega
theorem zur {ids : List Nat} : ∀ i i' j,get (numbered 0 ids) i = some j → get (numbered 0 ids) i' = some j → i = i' := by
  intro i i' j h1 h2
  have q1 := (z5y ids 0 i j h1).2
  have q2 := (z5y ids 0 i' j h2).2
  rw [q1] at q2
  exact Option.some.inj q2
theorem zpt {nin : Nat} {st st' : St} {slots ids : List Nat} (he : prune nin st slots ids = some st') {tmps : Array Value} (h : WInv cx I s (get st.hp) w) (hs : ∀ t,z1M I s st.tm tmps t) :
    ∃ s',(∀ i,i < nin → ∀ u,s i = some u → s' i = some u) ∧ WInv cx I s' (get st'.hp) w ∧ ∀ t,z1M I s' st'.tm tmps t := by
  unfold prune at he
  cases hz : (starts 0 nin ids && nodup ids) with
  | false => rw [hz] at he; cases he
  | true =>
    rw [hz] at he
    simp only [Bool.not_true,cond_false] at he
    simp only [Bool.and_eq_true] at hz
    have hnd := nodup_iff _ hz.2
    split at he
    · rename_i tm hp' ht hh
      cases he
      obtain ⟨p1,p2⟩ := zst ids 0 hp' hh
      refine ⟨zbk s ids,fun i hi u hu => ?_,?_,fun t => ?_⟩
      · have := zpn nin 0 ids hz.1 i hi
        rw [Nat.zero_add] at this
        simp only [zbk,this]; exact hu
      · refine h.rename (m := numbered 0 ids) zur (fun i j hij => zcM hij) (fun j c' hj => ?_) (fun j v hv => ?_)
        · obtain ⟨i,c,_,q2,q3,q4⟩ := p1 j c' hj
          rw [Nat.sub_zero] at q2
          have := z6g ids 0 i j hnd q2
          rw [Nat.zero_add] at this
          exact ⟨i,c,this,q3,q4⟩
        · refine p2 j (Nat.zero_le _) ?_
          rw [Nat.zero_add]
          rcases Nat.lt_or_ge j ids.length with q | q
          · exact q
          · simp only [zbk,List.getElem?_eq_none q] at hv; cases hv
      · unfold z1M
        rcases zsK slots tm ht t with q | q
        · show repV _ _ (getV tm t) _
          rw [q]; simp only [repV]
        · exact zqw (fun i j hij => zcM hij) _ _ q _ (hs t)
    · cases he
end
end Go.PE
