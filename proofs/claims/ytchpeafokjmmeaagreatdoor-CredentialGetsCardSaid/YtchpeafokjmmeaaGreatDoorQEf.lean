/-
  PE, the soundness of the evaluator: what is executed on paper is what a call comes to.
-/
import Derived.Test.YtchpeafokjmmeaaGreatDoorQEe
import GoSem.ClaimChange
import Derived.Maps.RangeRun
import Derived.Lib.LaidTab
import Derived.Lib.ItoaNum
import Derived.Deep.Slices
import Derived.WideKeyArgs
import Derived.MakeChecks
set_option linter.unusedVariables false
set_option linter.unusedSectionVars false
set_option linter.unusedSimpArgs false
namespace Go.PE
section
variable [Univ] [z2U] [Ground] {cx : Cx} {I I' J Iin : Facts} {s s' t sin : Hand} {hp hpr hpL : Nat → Option C} {w w' : World} {P : Program}
def zvl (tmps : Array Value) : ResultVar → Sem Value
  | .tmp t => pure (tmps.getD t Go.undef)
  | .cell a t => do loadVar t (← asAddr (tmps.getD a Go.undef))
theorem zmu {hp : List (Nat × C)} (h : WInv cx I s (get hp) w) {tm : List (Nat × V)} {tmps : Array Value} (hs : ∀ t,z1M I s tm tmps t) : ∀ (rs : List ResultVar) (vs : List V) (ps : List Prop),resV P tm hp rs = some (vs,ps) → (∀ p ∈ ps,p) →
    ∃ xs,(rs.mapM (zvl tmps)).run P w = .ok xs w ∧ z0v I s vs xs
  | [],vs,ps,e,_ => by
    simp only [resV,Option.some.injEq,Prod.mk.injEq] at e
    obtain ⟨rfl,rfl⟩ := e
    exact ⟨[],rfl,by simp only [z0v]⟩
  | .tmp t :: r,vs,ps,e,hp' => by
    simp only [resV] at e
    split at e
    · rename_i q cs hq
      cases e
      obtain ⟨xs,h1,h2⟩ := zmu h hs r q ps hq hp'
      refine ⟨tmps.getD t Go.undef :: xs,?_,by simp only [z0v]; exact ⟨zqo (hs t),h2⟩⟩
      simp only [List.mapM_cons,zvl,Sem.run_bind,Sem.run_pure,Result.andThen_ok,h1]
    · cases e
  | .cell a t :: r,vs,ps,e,hp' => by
    simp only [resV] at e
    split at e
    · rename_i v u ds q cs hv hq
      cases e
      obtain ⟨xs,h1,h2⟩ := zmu h hs r q cs hq (fun p hp => hp' p (by simp [hp]))
      obtain ⟨_,b,o,y,k1,k2,k3⟩ := zo2 (w := w) h (fun _ _ q => q) hv (fun p hp => hp' p (by simp at hp ⊢; exact .inl hp)) (hs a)
      refine ⟨y :: xs,?_,by simp only [z0v]; exact ⟨k3,h2⟩⟩
      have ha : (asAddr (tmps.getD a Go.undef)).run P w = .ok ⟨b,o,none⟩ w := by rw [k1]; rfl
      simp only [List.mapM_cons,zvl,Sem.run_bind,ha,Result.andThen_ok,k2,h1,Sem.run_pure]
    · cases e
theorem zw7 {fn : Func} {tmps : Array Value} {vs : List V} {xs : List Value} (h : (fn.results.toList.mapM (zvl tmps)).run P w = .ok xs w) (hr : z0v I s vs xs) : ∃ v,(results fn tmps).run P w = .ok v w ∧ repV I s (tup vs) v := by
  have hrun : (results fn tmps).run P w = .ok (if h : xs.toArray.size = 1 then xs.toArray[0] else .tuple xs.toArray) w := by
    have e : results fn tmps = (do
      let vs ← fn.results.mapM (zvl tmps)
      pure (if h : vs.size = 1 then vs[0] else .tuple vs)) := by
      unfold results
      congr 1
    rw [e,Array.mapM_eq_mapM_toList]
    simp only [Sem.run_bind,Sem.run_map,h,Result.andThen_ok,Sem.run_pure]
  refine ⟨_,hrun,?_⟩
  cases vs with
  | nil =>
    cases xs with
    | nil => simp only [tup,repV]; exact ⟨#[],by simp,by simp only [z0v]⟩
    | cons a b => simp only [z0v] at hr
  | cons v vs =>
    cases xs with
    | nil => simp only [z0v] at hr
    | cons x xs =>
      cases vs with
      | nil =>
        cases xs with
        | nil => simp only [z0v] at hr; simpa [tup] using hr.1
        | cons a b => simp only [z0v,and_false] at hr
      | cons v' vs =>
        cases xs with
        | nil => simp only [z0v,and_false] at hr
        | cons x' xs =>
          simp only [tup,repV]
          exact ⟨(x :: x' :: xs).toArray,by simp,hr⟩
def Back (cx : Cx) (nin : Nat) (goal : V → List C → List C → Prop) (I : Facts) (s : Hand) (v : Value) (w' : World) : Prop :=
  ∃ res outs news,goal res outs news ∧ ∃ I' s',I.le I' ∧ (∀ i,i < nin → ∀ u,s i = some u → s' i = some u) ∧ WInv cx I' s' (get (z7b 0 (outs ++ news))) w' ∧ repV I' s' res v
theorem zw6 {nin : Nat} {rs : List ResultVar} {st : St} {co : List Co} {news : List Nat} {v : V} {outs nws : List C} {ps : List Prop} (he : zyU P nin rs st co news = some (v,outs,nws,ps)) (hps : ∀ p ∈ ps,p)
    {goal : V → List C → List C → Prop} (hg : goal v outs nws) {tmps : Array Value} (h : WInv cx I s (get st.hp) w) (hs : ∀ t,z1M I s st.tm tmps t) {fn : Func} (hrs : rs = fn.results.toList) :
    ∃ x,(results fn tmps).run P w = .ok x w ∧ Back cx nin goal I s x w := by
  unfold zyU at he
  let ids := upto 0 nin ++ news
  cases hz : nodup (upto 0 nin ++ news) with
  | false => rw [hz] at he; cases he
  | true =>
    rw [hz] at he
    simp only [Bool.not_true,cond_false] at he
    have hnd := nodup_iff _ hz
    split at he
    · rename_i st1 hco
      obtain ⟨I1,s1,a1,a2,a3,a4⟩ := zkY co st st1 I s hco h hs
      split at he
      · rename_i vs ps' hres
        split at he
        · rename_i cs hcs
          split at he
          · rename_i vs' cs' hv hc
            cases he
            subst hrs
            obtain ⟨xs,k1,k2⟩ := zmu a3 a4 _ _ _ hres hps
            have k3 := ze4 (s2 := zbk s1 ids) (fun i j hij => zcM hij) _ _ hv _ k2
            obtain ⟨x,q1,q2⟩ := zw7 k1 k3
            refine ⟨x,q1,_,_,_,hg,I1,zbk s1 ids,a1,fun i hi u hu => ?_,?_,q2⟩
            · have hup : ∀ (n k j : Nat),j < n → (upto k n)[j]? = some (k + j) := by
                intro n
                induction n with
                | zero => intro k j hj; omega
                | succ n ih =>
                  intro k j hj
                  simp only [upto]
                  cases j with
                  | zero => rfl
                  | succ j =>
                    rw [List.getElem?_cons_succ,ih (k + 1) j (by omega)]
                    congr 1; omega
              have : ids[i]? = some i := by
                have := hup nin 0 i hi
                rw [Nat.zero_add] at this
                simp only [ids]
                rw [List.getElem?_append_left (List.getElem?_eq_some_iff.1 this).1]
                exact this
              simp only [zbk,this]
              exact a2 i u hu
            · rw [List.take_append_drop]
              obtain ⟨c1,c2⟩ := zhR ids cs hcs
              obtain ⟨r1,r2⟩ := zeT cs cs' hc
              refine a3.rename (m := numbered 0 ids) zur (fun i j hij => zcM hij) (fun j c' hj => ?_) (fun j v hv => ?_)
              · rw [z2B] at hj
                obtain ⟨c,d1,d2⟩ := r2 j c' hj
                have hlt : j < ids.length := by rw [← c1]; exact (List.getElem?_eq_some_iff.1 d1).1
                obtain ⟨c0,e1,e2⟩ := c2 j _ (List.getElem?_eq_getElem hlt)
                rw [d1] at e1
                cases e1
                have := z6g ids 0 _ j hnd (List.getElem?_eq_getElem hlt)
                rw [Nat.zero_add] at this
                exact ⟨_,c,this,e2,d2⟩
              · rw [z2B]
                have hlt : j < ids.length := by
                  rcases Nat.lt_or_ge j ids.length with q | q
                  · exact q
                  · simp only [zbk,List.getElem?_eq_none q] at hv; cases hv
                rw [List.getElem?_eq_getElem (by omega)]
                rfl
          · cases he
        · cases he
      · cases he
    · cases he
def Ends (cx : Cx) (P : Program) (f nin : Nat) (goal : V → List C → List C → Prop) (I : Facts) (s : Hand) (m : Machine) (cs : List Frame) : Prop :=
  ∃ e w' fr,EndR (Back cx nin goal I s) e w' ∧ Comes P m (lone fr cs w') e ∧ fr.fn = f ∧ fr.leaving P w' e
theorem Ends.mono {f nin : Nat} {goal : V → List C → List C → Prop} {m : Machine} {cs : List Frame} (h : Ends cx P f nin goal I' s' m cs) (hI : I.le I') (hs : ∀ i,i < nin → ∀ u,s i = some u → s' i = some u) : Ends cx P f nin goal I s m cs := by
  obtain ⟨e,w',fr,h1,h2⟩ := h
  refine ⟨e,w',fr,?_,h2⟩
  cases e with
  | returned v =>
    obtain ⟨res,outs,news,g,J,t,k1,k2,k3⟩ := h1
    exact ⟨res,outs,news,g,J,t,Facts.le_trans hI k1,fun i hi u hu => k2 i hi u (hs i hi u hu),k3⟩
  | panicked c => exact h1
  | outgrown => exact h1
theorem Ends.steps {f nin : Nat} {goal : V → List C → List C → Prop} {m m' : Machine} {cs : List Frame} (h : Ends cx P f nin goal I s m' cs) (hm : Steps P m m') : Ends cx P f nin goal I s m cs := by
  obtain ⟨e,w',fr,h1,h2,h3⟩ := h
  exact ⟨e,w',fr,h1,Comes.of_steps hm h2,h3⟩
def Like (k k' : List Item) : Prop := k' = k ∨ (k = [.code .ret] ∧ ∃ r,k' = .code .ret :: r)
def PtC (cx : Cx) (P : Program) (f nin : Nat) (k : List Item) (st : St) (goal : V → List C → List C → Prop) : Prop :=
  P.follows .mixedOrders = true → ∀ (fn : Func),P.funcs[f]? = some fn → ∀ (I : Facts) (s : Hand) (a : Act) (w : World),Ground.G.le cx.I0 → WInv cx I s (get st.hp) w → (∀ t,z1M I s st.tm a.tmps t) → fn.ntmps ≤ a.tmps.size → a.defers = [] →
    ∀ (b : Frame) (cs : List Frame) (k' : List Item),Like k k' → b.fn = f → b.kind = .normal → Ends cx P f nin goal I s (lone (b.at a k') cs w) cs
def PtS (P : Program) (f nin : Nat) (k : List Item) (st : St) (goal : V → List C → List C → Prop) : Prop := ∀ cx,PtC cx P f nin k st goal
theorem zpz {f nin : Nat} {k : List Item} {st : St} {goal : V → List C → List C → Prop} {PT : List Item → St → Prop} (hPT : ∀ k st,PT k st → PtC cx P f nin k st goal) (fin : Fin) (n : Nat) (ds : List RD)
    (h : exec P (Spec P) nin (ntOf P f) (zxF P f) goal PT fin n k st ds) : PtC cx P f nin k st goal := by
  intro hm fn hfn
  have hnt : ntOf P f = fn.ntmps := by unfold ntOf; rw [hfn]
  have hrs : zxF P f = fn.results.toList := by unfold zxF; rw [hfn]
  rw [hnt,hrs] at h
  induction n generalizing k st ds with
  | zero =>
    intro I s a w hG hw hs hsz hdf b cs k' hk hb hbk
    cases fin with
    | cut co slots ids =>
      simp only [exec] at h
      split at h
      · rename_i st1 h1
        obtain ⟨I1,s1,a1,a2,a3,a4⟩ := zkY co st st1 I s h1 hw hs
        split at h
        · rename_i st2 h2
          obtain ⟨s2,b1,b2,b3⟩ := zpt h2 a3 a4
          exact (hPT _ _ h hm fn hfn I1 s2 a w hG b2 b3 hsz hdf b cs k' hk hb hbk).mono a1 fun i hi u hu => b1 i hi u (a2 i u hu)
        · exact h.elim
      · exact h.elim
    | cutRet co slots ids =>
      simp only [exec] at h
      split at h
      · rename_i r
        split at h
        · rename_i st1 h1
          obtain ⟨I1,s1,a1,a2,a3,a4⟩ := zkY co st st1 I s h1 hw hs
          split at h
          · rename_i st2 h2
            obtain ⟨s2,b1,b2,b3⟩ := zpt h2 a3 a4
            refine (hPT _ _ h hm fn hfn I1 s2 a w hG b2 b3 hsz hdf b cs k' ?_ hb hbk).mono a1 fun i hi u hu => b1 i hi u (a2 i u hu)
            rcases hk with rfl | ⟨_,r',rfl⟩
            · exact .inr ⟨rfl,_,rfl⟩
            · exact .inr ⟨rfl,_,rfl⟩
          · exact h.elim
        · exact h.elim
      · exact h.elim
    | ret co news =>
      have fin : ∀ {v : V} {outs nws : List C} {ps : List Prop},zyU P nin fn.results.toList st co news = some (v,outs,nws,ps) → conj ps (goal v outs nws) → Steps P (lone (b.at a k') cs w) (lone { b.at a k' with mode := .returning } cs w) →
          Ends cx P f nin goal I s (lone (b.at a k') cs w) cs := by
        intro v outs nws ps hr hcj hst
        obtain ⟨c1,c2⟩ := zmn _ _ hcj
        obtain ⟨x,q1,q2⟩ := zw6 hr c1 c2 hw hs rfl
        exact ⟨.returned x,w,_,q2,hst,hb,rfl,hdf,hbk,fn,by rw [← hb] at hfn; exact hfn,q1⟩
      simp only [exec] at h
      split at h
      · rename_i r
        split at h
        · rename_i v outs nws ps hr
          refine fin hr h ?_
          rcases hk with rfl | ⟨_,r',rfl⟩
          · exact .one step_ret
          · exact .one step_ret
        · exact h.elim
      · split at h
        · rename_i v outs nws ps hr
          refine fin hr h ?_
          rcases hk with rfl | ⟨e,_⟩
          · exact .one step_end
          · cases e
        · exact h.elim
      · exact h.elim
  | succ n ih =>
    intro I s a w hG hw hs hsz hdf b cs k' hk hb hbk
    have hkk : k ≠ [.code .ret] → k' = k := fun hne => hk.resolve_right fun q => hne q.1
    have go : ∀ {k1 : List Item} {ds1 : List RD},exec P (Spec P) nin fn.ntmps fn.results.toList goal PT fin n k1 st ds1 → Steps P (lone (b.at a k') cs w) (lone (b.at a k1) cs w) → Ends cx P f nin goal I s (lone (b.at a k') cs w) cs := by
      intro k1 ds1 h1 hst
      exact (ih ds1 h1 I s a w hG hw hs hsz hdf b cs k1 (.inl rfl) hb hbk).steps hst
    unfold exec at h
    split at h
    · exact go h (by rw [hkk (by simp)]; exact .one step_seq)
    · exact go h (by rw [hkk (by simp)]; exact .one step_skip)
    · exact go h (by rw [hkk (by simp)]; exact .one step_label)
    · exact go h (by rw [hkk (by simp)]; exact .one step_inBlock)
    · exact go h (by rw [hkk (by simp)]; exact .one step_inScope)
    · exact go h (by rw [hkk (by simp)]; exact .one step_block)
    · exact go h (by rw [hkk (by simp)]; exact .one step_scope)
    · exact go h (by rw [hkk (by simp)]; exact .one step_loop)
    · exact go h (by rw [hkk (by simp)]; exact .one step_inLoop)
    · split at h
      · rename_i k1 he
        exact go h (by rw [hkk (by simp)]; exact .one (step_exit he))
      · exact h.elim
    · split at h
      · rename_i k1 he
        exact go h (by rw [hkk (by simp)]; exact .one (step_goto he))
      · exact h.elim
    · rename_i c x y kk
      have hc := zqj (a := a) (x := c) (fun t _ => hs t)
      split at h
      · rename_i hv
        rw [hv] at hc
        simp only [repV] at hc
        exact go h (by rw [hkk (by simp)]; exact .one (by have := step_cond (P := P) (b := b) (k := kk) (cs := cs) (w := w) (x := x) (y := y) hc; simpa using this))
      · rename_i hv
        rw [hv] at hc
        simp only [repV] at hc
        exact go h (by rw [hkk (by simp)]; exact .one (by have := step_cond (P := P) (b := b) (k := kk) (cs := cs) (w := w) (x := x) (y := y) hc; simpa using this))
      · exact h.elim
    · rename_i rid ops draw kk
      split at h
      · rename_i d ds'
        split at h
        · rename_i hp' hfz
          obtain ⟨I1,a1,a2⟩ := zpS _ _ _ _ hw hfz
          split at h
          · rename_i st1 cs1 hre
            obtain ⟨c1,c2⟩ := zmn _ _ h
            let Q : Exit → Act → World → Prop := fun e a' w' => match e with
              | .normal => At cx I1 s fn.ntmps st1 a' w'
              | _ => False
            have hwp := zuX (Iin := I1) (sin := s) (cx := cx) hm hG hre c1 (Q := Q) trivial (fun _ _ q => q) (a := a) (w := w) ⟨⟨I1,s,Facts.le_refl _,Hand.le_refl _,a2,fun t => z4o a1 (Hand.le_refl _) _ _ (hs t)⟩,hsz,hdf⟩
            obtain ⟨e,a',w',q,arr⟩ := hwp b kk cs
            rw [hkk (by simp)]
            cases e with
            | normal =>
              obtain ⟨⟨I2,s2,e1,e2,e3,e4⟩,z1,z2⟩ := q
              exact ((ih ds' c2 I2 s2 a' w' hG e3 e4 z1 z2 b cs kk (.inl rfl) hb hbk).steps arr).mono (Facts.le_trans a1 e1) fun i _ u hu => e2 i u hu
            | outgrown => exact q.elim
            | exit id => exact q.elim
            | goto l => exact q.elim
            | ret => exact q.elim
            | panic c => exact q.elim
          · exact h.elim
        · exact h.elim
      · exact h.elim
    · exact h.elim
theorem zwr {f nin : Nat} {k : List Item} {st : St} {goal : V → List C → List C → Prop} (fin : Fin) (n : Nat) (ds : List RD)
    (h : exec P (Spec P) nin (ntOf P f) (zxF P f) goal (fun k st => PtS P f nin k st goal) fin n k st ds) : PtS P f nin k st goal :=
  fun cx => zpz (fun _ _ q => q cx) fin n ds h
theorem z01 {f nin : Nat} {k : List Item} {st : St} {goal : V → List C → List C → Prop} (fin : Fin) (n : Nat) (ds : List RD) {α : Prop} (a : α)
    (h : α = exec P (Spec P) nin (ntOf P f) (zxF P f) goal (fun k st => PtS P f nin k st goal) fin n k st ds) : PtS P f nin k st goal := zwr fin n ds (h ▸ a)
theorem zvq : ∀ (args : List V) (vs : List Value) (k n : Nat),z0v I s args vs → ∀ t,repV I s (getV (entry k args) t) (if k ≤ t then (vs ++ List.replicate n Go.undef).getD (t - k) Go.undef else Go.undef)
  | [],vs,k,n,h,t => by simp only [entry,getV,get,repV]
  | x :: r,[],k,n,h,t => by simp only [z0v] at h
  | x :: r,v :: q,k,n,h,t => by
    simp only [z0v] at h
    have ih := zvq r q (k + 1) n h.2 t
    simp only [entry]
    rw [zmf]
    by_cases e : k = t
    · subst e
      simp only [if_true,Nat.le_refl,Nat.sub_self,List.cons_append,List.getD_cons_zero]
      exact h.1
    · rw [if_neg e]
      by_cases hle : k ≤ t
      · rw [if_pos (by omega)] at ih
        rw [if_pos hle,show t - k = (t - (k + 1)) + 1 by omega,List.cons_append,List.getD_cons_succ]
        exact ih
      · rw [if_neg (by omega)] at ih
        rw [if_neg hle]
        exact ih
theorem z0m {f : Nat} {fn : Func} {args : List V} {ins : List C} {res : V} {outs news : List C} (hm : P.follows .mixedOrders = true) (hf : P.funcs[f]? = some fn)
    (hn : (fn.body.isSome && !(fn.name == "runtime.NumGoroutine")) = true) (H : PtS P f ins.length [.code (sub (z0l fn) [])] ⟨entry 0 args,z7b 0 ins⟩ (fun v o n => v = res ∧ o = outs ∧ n = news)) : Spec P f args ins res outs news := by
  intro cx I s w vs hG hw hargs
  simp only [Bool.and_eq_true,Bool.not_eq_true'] at hn
  obtain ⟨hb,hname⟩ := hn
  obtain ⟨c,hbody⟩ := Option.isSome_iff_exists.1 hb
  left
  refine ⟨f,vs.toArray,?_,?_⟩
  · have hnone : fn.body.isNone = false := by rw [hbody]; rfl
    have hpr : (program).run P w = .ok P w := rfl
    simp only [callFunc,Sem.run_bind,hpr,Result.andThen_ok,hf,hname,hnone,Bool.false_eq_true,if_false,Sem.run_pure]
  · intro cs
    let b : Frame := { (default : Frame) with fn := f,kind := .normal }
    let a : Act := { tmps := vs.toArray ++ Array.replicate (fn.ntmps - vs.toArray.size) Go.undef,defers := [] }
    have henter : Frame.enter P f vs.toArray .normal = b.at a [.code c] := by
      simp [Frame.enter,Frame.at,hf,hbody,b,a]
    have hcode : sub (z0l fn) [] = c := by simp only [z0l,hbody]; cases c <;> rfl
    rw [hcode] at H
    obtain ⟨e,w',fr,h1,h2,h3,h4⟩ := H cx hm fn hf I s a w hG hw (fun t => by
      have := zvq args vs 0 (fn.ntmps - vs.length) hargs t
      rw [if_pos (Nat.zero_le _),Nat.sub_zero] at this
      unfold z1M
      have e : a.tmps.getD t Go.undef = (vs ++ List.replicate (fn.ntmps - vs.length) Go.undef).getD t Go.undef := by
        simp only [a,Array.getD_eq_getD_getElem?,List.getD_eq_getElem?_getD]
        congr 1
        rw [← Array.getElem?_toList]
        simp
      rw [e]
      exact this) (by simp only [a,Array.size_append,List.size_toArray,Array.size_replicate]; omega) rfl b cs [.code c] (.inl rfl) rfl rfl
    refine ⟨e,w',fr,?_,by rw [henter]; exact h2,h3,h4⟩
    cases e with
    | returned v =>
      obtain ⟨r,o,n,⟨rfl,rfl,rfl⟩,I',s',k1,k2,k3,k4⟩ := h1
      refine ⟨I',s',k1,fun i u hu => ?_,k3,k4⟩
      refine k2 i ?_ u hu
      have := hw.dom i u hu
      rw [z2B] at this
      rcases Nat.lt_or_ge i ins.length with q | q
      · exact q
      · rw [List.getElem?_eq_none q] at this; cases this
    | panicked ch => exact h1
    | outgrown => exact h1
def frz : List C → List C
  | [] => []
  | .row s xs _ :: r => .row s xs 2 :: frz r
  | c :: r => c :: frz r
theorem zsD : ∀ l : List C,(frz l).length = l.length
  | [] => rfl
  | c :: r => by cases c <;> simp [frz,zsD r]
theorem zmY : ∀ (l : List C) (i : Nat),(frz l)[i]? = (l[i]?).map fun c => match c with
    | .row s xs _ => .row s xs 2
    | c => c
  | [],i => by simp [frz]
  | c :: r,0 => by cases c <;> simp [frz]
  | c :: r,i + 1 => by
    have := zmY r i
    cases c <;> simpa [frz] using this
theorem zz9 (n : Nat) (l : List C) : ∀ (m : Nat) (I : Facts),m ≤ l.length → WInv cx I s (get (z7b 0 l)) w → ∃ I',I.le I' ∧ WInv cx I' s (fun i => if n ≤ i ∧ i < n + m then (frz l)[i]? else l[i]?) w := by
  intro m
  induction m with
  | zero =>
    intro I _ h
    refine ⟨I,Facts.le_refl _,?_⟩
    have : (fun i => if n ≤ i ∧ i < n + 0 then (frz l)[i]? else l[i]?) = get (z7b 0 l) := by
      funext i
      rw [if_neg (by omega),z2B]
    rw [this]; exact h
  | succ m ih =>
    intro I hm h
    obtain ⟨I',h1,h2⟩ := ih I (by omega) h
    have step : ∀ hp' : Nat → Option C,hp' = (fun i => if n ≤ i ∧ i < n + (m + 1) then (frz l)[i]? else l[i]?) → WInv cx I' s hp' w → ∃ I',I.le I' ∧ WInv cx I' s (fun i => if n ≤ i ∧ i < n + (m + 1) then (frz l)[i]? else l[i]?) w := by
      rintro hp' rfl q
      exact ⟨I',h1,q⟩
    cases hc : l[n + m]? with
    | none =>
      refine step _ ?_ h2
      funext i
      by_cases hi : i = n + m
      · subst hi
        rw [if_neg (by omega),if_pos (by omega),zmY,hc]; rfl
      · by_cases h3 : n ≤ i ∧ i < n + m
        · rw [if_pos h3,if_pos (by omega)]
        · rw [if_neg h3,if_neg (by omega)]
    | some c =>
      by_cases hrow : ∃ t xs fz,c = .row t xs fz
      · obtain ⟨t,xs,fz,rfl⟩ := hrow
        obtain ⟨I'',g1,g2⟩ := h2.freeze (id := n + m) (t := t) (xs := xs) (fz := fz) (by rw [if_neg (by omega)]; exact hc)
        refine ⟨I'',Facts.le_trans h1 g1,?_⟩
        have : setF (fun i => if n ≤ i ∧ i < n + m then (frz l)[i]? else l[i]?) (n + m) (.row t xs 2) = (fun i => if n ≤ i ∧ i < n + (m + 1) then (frz l)[i]? else l[i]?) := by
          funext i
          simp only [setF]
          by_cases hi : i = n + m
          · subst hi
            rw [if_pos rfl,if_pos (by omega),zmY,hc]; rfl
          · rw [if_neg hi]
            by_cases h3 : n ≤ i ∧ i < n + m
            · rw [if_pos h3,if_pos (by omega)]
            · rw [if_neg h3,if_neg (by omega)]
        rw [← this]
        exact g2
      · refine step _ ?_ h2
        funext i
        by_cases hi : i = n + m
        · subst hi
          rw [if_neg (by omega),if_pos (by omega),zmY,hc]
          cases c <;> first
            | rfl
            | exact absurd ⟨_,_,_,rfl⟩ hrow
        · by_cases h3 : n ≤ i ∧ i < n + m
          · rw [if_pos h3,if_pos (by omega)]
          · rw [if_neg h3,if_neg (by omega)]
def zAq (ins outs news : List C) (u : Shape) (res : V) : Option (V × List C) :=
  bif Nat.beq ins.length outs.length then (match zxT (get (z7b 0 (outs ++ frz news))) u res,zus (numbered 0 (upto 0 outs.length)) outs with
    | some v,some o => some (v,o)
    | _,_ => none) else none
theorem zA5 {u : Shape} {x : El u} {v : Value} (h : repV I s (elV u x) v) : repV I s' (elV u x) v := by
  have leaf : ∀ (u : Shape) (x : El u) (y : Value),z3k u = false → repV I s (zun u x) y → repV I s' (zun u x) y := by
    intro u x y hu hx
    cases u <;> simp only [zun,repV] at hx ⊢ <;> first | exact hx | simp [z3k] at hu
  have leaves : ∀ (us : List Shape) (x : Els us) (ys : List Value),(∀ u ∈ us,z3k u = false) → z0v I s (z8w us x) ys → z0v I s' (z8w us x) ys := by
    intro us
    induction us with
    | nil => intro x ys _ hx; cases ys <;> simp only [z8w,z0v] at hx ⊢
    | cons u us ih =>
      intro x ys hu hx
      cases ys with
      | nil => simp only [z8w,z0v] at hx
      | cons y ys =>
        simp only [z8w,z0v] at hx ⊢
        exact ⟨leaf u x.1 y (hu u (by simp)) hx.1,ih x.2 ys (fun u' h' => hu u' (by simp [h'])) hx.2⟩
  cases u with
  | user n =>
    simp only [elV,repV] at h ⊢
    obtain ⟨cs,h1,h2⟩ := h
    exact ⟨cs,h1,leaves _ _ _ (z2U.plain n) h2⟩
  | int k => exact leaf (.int k) x v rfl h
  | bool => exact leaf .bool x v rfl h
  | str => exact leaf .str x v rfl h
  | list u => exact leaf (.list u) x v rfl h
theorem zt0 : ∀ (n k j : Nat),j < n → (upto k n)[j]? = some (k + j) := by
  intro n
  induction n with
  | zero => intro k j hj; omega
  | succ n ih =>
    intro k j hj
    simp only [upto]
    cases j with
    | zero => rfl
    | succ j =>
      rw [List.getElem?_cons_succ,ih (k + 1) j (by omega)]
      congr 1; omega
theorem upto_length : ∀ (n k : Nat),(upto k n).length = n
  | 0,_ => rfl
  | n + 1,k => by simp [upto,upto_length n (k + 1)]
theorem zsq : ∀ (n k : Nat),(upto k n).Nodup
  | 0,_ => List.nodup_nil
  | n + 1,k => by
    simp only [upto]
    refine List.nodup_cons.2 ⟨fun hm => ?_,zsq n (k + 1)⟩
    obtain ⟨j,hj⟩ := List.getElem?_of_mem hm
    have hlt := (List.getElem?_eq_some_iff.1 hj).1
    rw [upto_length] at hlt
    rw [zt0 n (k + 1) j hlt] at hj
    have := Option.some.inj hj
    omega
theorem z6S {f : Nat} {args : List V} {ins : List C} {res : V} {outs news : List C} (u : Shape) (x : El u)
    (h : zAq ins outs news u res = some (elV u x,outs)) (H : Spec P f args ins res outs news) : Spec P f args ins (elV u x) outs [] := by
  intro cx I s w vs hG hw hargs
  refine (H cx I s w vs hG hw hargs).mono fun v w' hv => ?_
  obtain ⟨I1,s1,a1,a2,a3,a4⟩ := hv
  unfold zAq at h
  cases hz : Nat.beq ins.length outs.length with
  | false => rw [hz] at h; cases h
  | true =>
    rw [hz,cond_true] at h
    have hlen := Nat.eq_of_beq_eq_true hz
    split at h
    · rename_i v' o' hn hr
      simp only [Option.some.injEq,Prod.mk.injEq] at h
      obtain ⟨rfl,rfl⟩ := h
      obtain ⟨I2,b1,b2⟩ := zz9 o'.length (o' ++ news) news.length I1 (by simp) a3
      have e : (fun i => if o'.length ≤ i ∧ i < o'.length + news.length then (frz (o' ++ news))[i]? else (o' ++ news)[i]?) = get (z7b 0 (o' ++ frz news)) := by
        funext i
        rw [z2B]
        by_cases h1 : i < o'.length
        · rw [if_neg (by omega),List.getElem?_append_left h1,List.getElem?_append_left h1]
        · by_cases h2 : i < o'.length + news.length
          · rw [if_pos (by omega),zmY,List.getElem?_append_right (by omega),List.getElem?_append_right (by omega),zmY]
          · rw [if_neg (by omega),List.getElem?_append_right (by omega),List.getElem?_append_right (by omega),List.getElem?_eq_none (by omega),List.getElem?_eq_none (by rw [zsD]; omega)]
      rw [e] at b2
      have hrep := zvu b2 hn (z4o b1 (Hand.le_refl _) _ _ a4)
      obtain ⟨r1,r2⟩ := zeT o' o' hr
      refine ⟨I2,zbk s1 (upto 0 o'.length),Facts.le_trans a1 b1,fun i q hq => ?_,?_,zA5 hrep⟩
      · have hd := hw.dom i q hq
        rw [z2B] at hd
        have hlt : i < ins.length := by
          rcases Nat.lt_or_ge i ins.length with q | q
          · exact q
          · rw [List.getElem?_eq_none q] at hd; cases hd
        have := zt0 o'.length 0 i (by omega)
        rw [Nat.zero_add] at this
        simp only [zbk,this]
        exact a2 i q hq
      · rw [List.append_nil]
        refine b2.rename (m := numbered 0 (upto 0 o'.length)) zur (fun i j hij => zcM hij) (fun j c' hj => ?_) (fun j q hq => ?_)
        · rw [z2B] at hj
          obtain ⟨c,d1,d2⟩ := r2 j c' hj
          have hlt := (List.getElem?_eq_some_iff.1 d1).1
          have hu := zt0 o'.length 0 j hlt
          have := z6g _ 0 _ j (zsq _ _) hu
          rw [Nat.zero_add] at this
          refine ⟨_,c,this,?_,d2⟩
          rw [z2B,List.getElem?_append_left hlt]
          exact d1
        · rw [z2B]
          have hlt : j < (upto 0 o'.length).length := by
            rcases Nat.lt_or_ge j (upto 0 o'.length).length with q | q
            · exact q
            · simp only [zbk,List.getElem?_eq_none q] at hq; cases hq
          rw [upto_length] at hlt
          rw [List.getElem?_eq_getElem hlt]
          rfl
    · cases h
end
def Le {α : Type} (a b : Option α) : Prop := ∀ r,a = some r → b = some r
theorem zEg {α : Type} (a : Option α) : Le a a := fun _ h => h
theorem zEh {α : Type} (a : Option α) : Le none a := fun _ h => by cases h
theorem zEn {α : Type} {c : Prop} [Decidable c] {a b a' b' : Option α} (h : Le a a') (g : Le b b') : Le (if c then a else b) (if c then a' else b') := by
  by_cases hc : c
  · simpa [hc] using h
  · simpa [hc] using g
theorem zEf {α β : Type} {a a' : Option α} {f f' : α → Option β} (h : Le a a') (g : ∀ x,Le (f x) (f' x)) : Le (a >>= f) (a' >>= f') := by
  intro r hr
  cases ha : a with
  | none => rw [ha] at hr; cases hr
  | some x =>
    rw [ha] at hr
    rw [h x ha]
    exact g x r hr
theorem z14 {R : Type} {r : R} {G : Prop} (h : (none : Option R) = some r) : G := by cases h
theorem z0h {b : Bool} {R : Type} {x y : Option R} {r : R} {G : Prop} (h : (if b = true then x else y) = some r) (t : b = true → x = some r → G) (f : b = false → y = some r → G) : G := by
  cases b
  · exact f rfl (by simpa using h)
  · exact t rfl (by simpa using h)
theorem iteE {c : Prop} [Decidable c] {R : Type} {x y : Option R} {r : R} {G : Prop} (h : (if c then x else y) = some r) (t : c → x = some r → G) (f : ¬ c → y = some r → G) : G := by
  by_cases hc : c
  · exact t hc (by simpa [hc] using h)
  · exact f hc (by simpa [hc] using h)
theorem z0a {c : Prop} [Decidable c] {R : Type} {x : Option R} {r : R} {G : Prop} (h : (if c then x else none) = some r) (t : c → x = some r → G) : G := by
  by_cases hc : c
  · exact t hc (by simpa [hc] using h)
  · simp [hc] at h
theorem z0c {A R : Type} {o : Option A} {f : A → Option R} {r : R} {G : Prop} (h : (o >>= f) = some r) (t : ∀ a,o = some a → f a = some r → G) : G := by
  cases o with
  | none => simp at h
  | some a => exact t a rfl h
theorem z0b {R : Type} {x r : R} {Φ : R → Prop} (h : some x = some r) (q : Φ r) : Φ x := by
  injection h with h
  rwa [h]
theorem sumE {A B R : Type} (v : Sum A B) {F : Sum A B → Option R} {r : R} {Φ : Sum A B → Prop} (h : F v = some r) (l : ∀ a,F (.inl a) = some r → Φ (.inl a)) (q : ∀ b,F (.inr b) = some r → Φ (.inr b)) : Φ v := by
  cases v with
  | inl a => exact l a h
  | inr b => exact q b h
end Go.PE
namespace Go.PE
theorem zqW {w w' : World} {may : MemPlace → Prop} (ho : w'.os = w.os) (hu : w'.output = w.output) (hs : ∀ b,b < w.heap.size → w'.heap[b]? = w.heap[b]?) : w.keptBut w' may := by
  refine ⟨ho,hu,fun i hi => ?_⟩
  rw [hs i hi]
  cases h : w.heap[i]? with
  | none => rfl
  | some o => cases o <;> first
    | exact ⟨rfl,rfl,rfl,fun _ _ => rfl⟩
    | exact .inr ⟨rfl,rfl⟩
    | rfl
section
variable [Univ] [z2U] [Ground] {P : Program}
theorem zxL {f : Nat} {fn : Func} {args : List V} {vs : List Value} {res : V} (hf : P.funcs[f]? = some fn) (hn : (fn.body.isSome && !(fn.name == "runtime.NumGoroutine")) = true) (H : Spec P f args [] res [] [])
    {I : Facts} {W : World} (hG : Ground.G.le I) (hI : ∀ b o v,I b o = some v → W.cell? ⟨b,o,none⟩ = some v) (hargs : z0v I (fun _ => none) args vs) :
    Calls P f vs.toArray W fun e W' => ∃ v,e = .returned v ∧ (∃ I' s',I.le I' ∧ (∀ b o v,I' b o = some v → W'.cell? ⟨b,o,none⟩ = some v) ∧ repV I' s' res v) ∧
      W'.os = W.os ∧ W'.tape = W.tape ∧ W'.output = W.output ∧ ∀ b,b < W.heap.size → W'.heap[b]? = W.heap[b]? := by
  have hw : WInv ⟨W,I,fun _ => False⟩ I (fun _ => none) (get (z7b 0 [])) W := by
    have hnone : ∀ i,get (z7b 0 ([] : List C)) i = none := fun i => rfl
    constructor
    case agree => exact hI
    case cont => intro id c h; rw [hnone] at h; cases h
    case apart => intro i j c d b h; rw [hnone] at h; cases h
    case dom => intro i v h; cases h
    case own => intro i c b h; rw [hnone] at h; cases h
    case size => exact Nat.le_refl _
    case same => exact fun b _ _ => ⟨rfl,fun _ => rfl⟩
    case le => exact Facts.le_refl _
    case os => rfl
    case tape => rfl
    case out => rfl
  have h := H ⟨W,I,fun _ => False⟩ I (fun _ => none) W vs hG hw hargs
  simp only [Bool.and_eq_true,Bool.not_eq_true'] at hn
  obtain ⟨hb,hname⟩ := hn
  obtain ⟨c,hbody⟩ := Option.isSome_iff_exists.1 hb
  have hrun : (callFunc f vs.toArray).run P W = .ok (.enter f vs.toArray) W := by
    have hnone : fn.body.isNone = false := by rw [hbody]; rfl
    have hpr : (program).run P W = .ok P W := rfl
    simp only [callFunc,Sem.run_bind,hpr,Result.andThen_ok,hf,hname,hnone,Bool.false_eq_true,if_false,Sem.run_pure]
  rcases h with ⟨g,as,h1,h2⟩ | ⟨v,w',h1,_⟩
  · rw [hrun] at h1
    cases h1
    refine h2.mono fun e W' he => ?_
    cases e with
    | returned v =>
      obtain ⟨I',s',k1,k2,k3,k4⟩ := he
      refine ⟨v,rfl,⟨I',s',k1,k3.agree,k4⟩,k3.os,k3.tape,k3.out,fun b hb => (k3.same b hb (fun q => q)).1⟩
    | panicked ch => exact he.elim
    | outgrown => exact he.elim
  · rw [hrun] at h1; cases h1
end
end Go.PE
namespace Go.PE
def zAJ (c : Code) : Array Oper := match c with
  | .region _ ops _ => ops
  | _ => #[]
section
variable [Univ] [z2U] [Ground] {cx : Cx} {I I' : Facts} {s s' : Hand} {hp : Nat → Option C} {w w' : World} {P : Program}
theorem zdf {f nin : Nat} {k : List Item} {st : St} {goal : V → List C → List C → Prop} {PT : List Item → St → Prop} (hPT : ∀ k st,PT k st → PtC cx P f nin k st goal) (fin : Fin) (n : Nat) (ds : List RD) {α : Prop} (a : α)
    (h : α = exec P (Spec P) nin (ntOf P f) (zxF P f) goal PT fin n k st ds) : PtC cx P f nin k st goal := zpz hPT fin n ds (h ▸ a)
theorem zk2 {f nin : Nat} {goal : V → List C → List C → Prop} {b : Frame} {cs : List Frame} {rid : Nat} {ops : Array Oper} {k : List Item} {a : Act} {S : Act → World → Prop} (hbk : b.kind = .normal)
    (hw : wpOps P ops (fun e a' w' => match e with | .normal => S a' w' | _ => False) (List.range ops.size) a w)
    (hn : ∀ a' w',S a' w' → Ends cx P f nin goal I s (lone (b.at a' k) cs w') cs) : Ends cx P f nin goal I s (lone (b.at a (.code (.region rid ops false) :: k)) cs w) cs := by
  obtain ⟨e,a',w',q,arr⟩ := wp_region (id := rid) hw b k cs
  cases e with
  | normal => exact (hn a' w' q).steps arr
  | exit id => exact q.elim
  | goto l => exact q.elim
  | ret => exact q.elim
  | panic c => exact q.elim
  | outgrown => exact q.elim
theorem ziR {ops : Array Oper} {Q : Exit → Act → World → Prop} {i : Nat} {o : Oper} {a : Act} {v : Value} {K : Act → World → Prop} (hi : ops[i]? = some o) (hg : o.guard = none) (hr : (execOp a.eval o).run P w = .ok (.value v) w') (hK : K (a.put o.dst v) w') : wpOp P ops Q i K a w := by
  have hw : Region.wanted o (yielded ops a.tmps) = true := by simp [Region.wanted,hg]
  unfold wpOp
  simp only [hi,hw,if_true]
  left
  unfold Oper.wp
  rw [hr]
  exact hK
theorem zDR {ops : Array Oper} {Q : Exit → Act → World → Prop} {i : Nat} {o : Oper} {a : Act} {R : Value → World → Prop} {K : Act → World → Prop} (hi : ops[i]? = some o) (hg : o.guard = none) (hr : Out P o a w R) (hK : ∀ v w',R v w' → K (a.put o.dst v) w') : wpOp P ops Q i K a w := by
  have hw : Region.wanted o (yielded ops a.tmps) = true := by simp [Region.wanted,hg]
  unfold wpOp
  simp only [hi,hw,if_true]
  exact hr K Q trivial hK
def zxc (P : Program) (nt rid : Nat) (ops : Array Oper) (d : RD) (rest : List Oper) (i : Nat) (st : St) : Option (St × List Prop) :=
  (zhN P (Spec P) nt rid ops.toList d rest i st [] []).map fun x => (x.1,x.2.1)
theorem zn3 {Iin : Facts} {sin : Hand} (hG : Ground.G.le cx.I0) {nt rid : Nat} {ops : Array Oper} {d : RD} {Q : Exit → Act → World → Prop} {rest : List Oper} {i : Nat} {st st' : St} {ps : List Prop} (hr : zxc P nt rid ops d rest i st = some (st',ps)) (hps : ∀ p ∈ ps,p)
    (ho : ∀ (j : Nat) (o : Oper),rest[j]? = some o → ops[i + j]? = some o) (hQ : ∀ a w,At cx Iin sin nt st' a w → Q .normal a w) {a : Act} {w : World} (hat : At cx Iin sin nt st a w) : wpOps P ops Q (List.range' i rest.length) a w := by
  unfold zxc at hr
  cases hrun : zhN P (Spec P) nt rid ops.toList d rest i st [] [] with
  | none => rw [hrun] at hr; cases hr
  | some x =>
    obtain ⟨st1,cs,fs⟩ := x
    rw [hrun] at hr
    simp only [Option.map_some,Option.some.injEq,Prod.mk.injEq] at hr
    obtain ⟨rfl,rfl⟩ := hr
    obtain ⟨rs,h1,h2,_⟩ := zlK _ _ _ _ _ _ _ _ hrun
    rw [List.nil_append] at h2
    exact zmL hG trivial rest i st rs st1 h1 ho (fun r hr p hp => hps p (by rw [h2]; exact List.mem_flatMap.2 ⟨r,hr,hp⟩)) hQ a w hat
theorem zzn {Iin : Facts} {sin : Hand} (hG : Ground.G.le cx.I0) {nt rid : Nat} {ops : Array Oper} {d : RD} {Q : Exit → Act → World → Prop} {o : Oper} {i : Nat} {st st' : St} {ps : List Prop} (hr : zxc P nt rid ops d [o] i st = some (st',ps)) (hps : ∀ p ∈ ps,p)
    (ho : ops[i]? = some o) {K : Act → World → Prop} (hK : ∀ a w,At cx Iin sin nt st' a w → K a w) {a : Act} {w : World} (hat : At cx Iin sin nt st a w) : wpOp P ops Q i K a w := by
  unfold zxc at hr
  cases hrun : zhN P (Spec P) nt rid ops.toList d [o] i st [] [] with
  | none => rw [hrun] at hr; cases hr
  | some x =>
    obtain ⟨st1,cs,fs⟩ := x
    rw [hrun] at hr
    simp only [Option.map_some,Option.some.injEq,Prod.mk.injEq] at hr
    obtain ⟨rfl,rfl⟩ := hr
    obtain ⟨rs,h1,h2,_⟩ := zlK _ _ _ _ _ _ _ _ hrun
    rw [List.nil_append] at h2
    cases rs with
    | nil => exact h1.elim
    | cons r rs =>
      obtain ⟨h3,h4⟩ := h1
      cases rs with
      | cons _ _ => exact h4.elim
      | nil =>
        simp only [zlm] at h4
        subst h4
        obtain ⟨⟨I,s,e1,e2,e3,e4⟩,a1,a2⟩ := hat
        refine zmU hG e3 h3 ho (fun p hp => hps p (by rw [h2]; simp [hp])) (fun t _ => e4 t) (fun _ _ => rfl) trivial ?_
        intro v w' I' s' g1 g2 g3 g4
        refine hK _ _ ⟨⟨I',s',Facts.le_trans e1 g1,Hand.le_trans e2 g2,?_,?_⟩,by rw [zlt]; exact a1,by rw [put_defers]; exact a2⟩
        · simp only [SR.app]
          rw [zcL]; exact g3
        · intro t
          unfold z1M
          rw [zq7 a h3.feet.2.2.2.2.2 a1]
          simp only [SR.app,zii]
          split
          · exact g4
          · exact z4o g1 g2 _ _ (e4 t)
theorem WInv.zyX {I' : Facts} {s' : Hand} {hp' : Nat → Option C} (h : WInv cx I s hp w) (h' : WInv ⟨w,I,zn0 s hp⟩ I' s' hp' w') : WInv cx I' s' hp' w' where
  agree := h'.agree
  cont := h'.cont
  apart := h'.apart
  dom := h'.dom
  own i c b h1 h2 := by
    rcases h'.own i c b h1 h2 with q | ⟨j,d,q1,q2⟩
    · exact .inl (Nat.le_trans h.size q)
    · exact h.own j d b q1 q2
  size := Nat.le_trans h.size h'.size
  same b hb hn := by
    have nh : ¬ zn0 s hp b := by
      rintro ⟨j,d,q1,q2⟩
      rcases h.own j d b q1 q2 with q | q
      · omega
      · exact hn q
    obtain ⟨r1,r2⟩ := h'.same b (Nat.lt_of_lt_of_le hb h.size) nh
    obtain ⟨t1,t2⟩ := h.same b hb hn
    exact ⟨r1.trans t1,fun o => (r2 o).trans (t2 o)⟩
  le := Facts.le_trans h.le h'.le
  os := h'.os.trans h.os
  tape := h'.tape.trans h.tape
  out := h'.out.trans h.out
theorem Ends.zyX {f nin : Nat} {goal : V → List C → List C → Prop} {m : Machine} {cs : List Frame} (h : WInv cx I s hp w) (he : Ends ⟨w,I,zn0 s hp⟩ P f nin goal I' s' m cs) : Ends cx P f nin goal I' s' m cs := by
  obtain ⟨e,w',fr,h1,h2⟩ := he
  refine ⟨e,w',fr,?_,h2⟩
  cases e with
  | returned v =>
    obtain ⟨res,outs,news,g,J,t,k1,k2,k3,k4⟩ := h1
    exact ⟨res,outs,news,g,J,t,k1,k2,h.zyX k3,k4⟩
  | panicked c => exact h1
  | outgrown => exact h1
theorem zuR {k v : Shape} : ∀ (es : List (El k × El v)) (ens : List MapEntry),ziY I s k v es ens → ∀ e ∈ ens,∃ p ∈ es,e.key = z5Z k p.1 ∧ repV I s (elV v p.2) e.val
  | [],[],_,e,he => by simp at he
  | p :: r,x :: q,h,e,he => by
    rcases List.mem_cons.1 he with rfl | he
    · exact ⟨p,by simp,h.1,h.2.1⟩
    · obtain ⟨p',h1,h2⟩ := zuR r q h.2.2 e he
      exact ⟨p',by simp [h1],h2⟩
  | [],_ :: _,h,_,_ => h.elim
  | _ :: _,[],h,_,_ => h.elim
theorem zsj {k v : Shape} : ∀ (es : List (El k × El v)) (ens : List MapEntry),ziY I s k v es ens → ∀ p ∈ es,∃ e ∈ ens,e.key = z5Z k p.1 ∧ repV I s (elV v p.2) e.val
  | [],[],_,e,he => by simp at he
  | p :: r,x :: q,h,e,he => by
    rcases List.mem_cons.1 he with rfl | he
    · exact ⟨x,by simp,h.1,h.2.1⟩
    · obtain ⟨p',h1,h2⟩ := zsj r q h.2.2 e he
      exact ⟨p',by simp [h1],h2⟩
  | [],_ :: _,h,_,_ => h.elim
  | _ :: _,[],h,_,_ => h.elim
theorem WInv.stepped (h : WInv cx I s hp w) {id m since last last' : Nat} {seen seen' : Array Nat} (hid : hp id = some (.miter m since seen last)) {b : Nat} (hb : s id = some (.pointer (some ⟨b,0,none⟩))) {w1 : World} (h1 : w1 = w ∨ w1 = w.drew) :
    WInv cx I s (setF hp id (.miter m since seen' last')) (ChangeMaps.setBlock w1 b (.mapIter (some m) since seen' last')) := by
  have hw1 : WInv cx I s hp w1 := by
    rcases h1 with rfl | rfl
    · exact h
    · exact h.of_heap rfl rfl rfl rfl
  have hc := hw1.cont id _ hid
  simp only [repC] at hc
  obtain ⟨b',k1,k2⟩ := hc
  rw [hb] at k1
  cases k1
  refine hw1.rewrite hid (b := b) (by simp [blk,hb]) (zmz w1 b _) (fun b' hb' => by simp [blk,hb] at hb'; exact hb'.symm) (fun o v hI => ?_) ?_
  · have := hw1.agree b o v hI
    simp [World.cell?,k2] at this
  · simp only [repC]
    exact ⟨b,hb,zeX _ k2⟩
end
end Go.PE
namespace Go.PE
structure Kept (w w' : World) : Prop where
  os : w'.os = w.os
  tape : w'.tape = w.tape
  out : w'.output = w.output
  size : w.heap.size ≤ w'.heap.size
  heap : ∀ b,b < w.heap.size → w'.heap[b]? = w.heap[b]?
section
variable [Univ] [z2U] [Ground] {cx : Cx} {I I' : Facts} {s s' : Hand} {hp : Nat → Option C} {w w' : World} {P : Program}
theorem WInv.kept (h : WInv cx I s hp w) (hk : Kept w w') : WInv cx I s hp w' where
  agree b o v hv := by rw [cell?_of_heap (w := w) (hk.heap b (h.zmC hv))]; exact h.agree b o v hv
  cont id c hc := zi8 (h.cont id c hc) (Facts.le_refl _) (Hand.le_refl _) fun b hb => ⟨hk.heap b (h.zpC hc hb),fun _ => rfl⟩
  apart := h.apart
  dom := h.dom
  own := h.own
  size := Nat.le_trans h.size hk.size
  same b hb hn := by
    obtain ⟨q1,q2⟩ := h.same b hb hn
    exact ⟨(hk.heap b (Nat.lt_of_lt_of_le hb h.size)).trans q1,q2⟩
  le := h.le
  os := hk.os.trans h.os
  tape := hk.tape.trans h.tape
  out := hk.out.trans h.out
theorem zcA {f : Nat} {fn : Func} {args : List V} {vs : List Value} {res : V} {v : Value} (hf : P.funcs[f]? = some fn) (hn : (fn.body.isSome && !(fn.name == "runtime.NumGoroutine")) = true)
    (hv : ∀ (I : Facts) (s : Hand) (xs : List Value),z0v I s args xs → xs = vs) (hr : ∀ (I : Facts) (s : Hand),repV I s res v)
    (hc : ∀ w : World,(∀ b o u,Ground.G b o = some u → w.cell? ⟨b,o,none⟩ = some u) → Calls P f vs.toArray w fun e w' => e = .returned v ∧ Kept w w') : Spec P f args [] res [] [] := by
  intro cx I s w xs hG hw hargs
  obtain rfl := hv I s xs hargs
  simp only [Bool.and_eq_true,Bool.not_eq_true'] at hn
  obtain ⟨hb,hname⟩ := hn
  obtain ⟨c,hbody⟩ := Option.isSome_iff_exists.1 hb
  left
  refine ⟨f,xs.toArray,?_,?_⟩
  · have hnone : fn.body.isNone = false := by rw [hbody]; rfl
    have hpr : (program).run P w = .ok P w := rfl
    simp only [callFunc,Sem.run_bind,hpr,Result.andThen_ok,hf,hname,hnone,Bool.false_eq_true,if_false,Sem.run_pure]
  · refine (hc w fun b o u hu => hw.agree b o u (hw.le b o u (hG b o u hu))).mono fun e w' ⟨he,hk⟩ => ?_
    subst he
    exact ⟨I,s,Facts.le_refl _,Hand.le_refl _,hw.kept hk,hr I s⟩
theorem zfB {f : Nat} {t : Shape} {xs : List (El t)} {rest : List V} {ins : List C} {res : V} {outs news : List C} (hz : Nat.blt 0 (size t) = true) (h1 : xs = [] → Spec P f (.lst t [] 3 :: rest) ins res outs news)
    (h2 : Spec P f (.lst t xs 2 :: rest) ins res outs news) : Spec P f (.lst t xs 0 :: rest) ins res outs news := by
  intro cx I s w vs hG hw hargs
  have hz' : 0 < size t := by simpa [Nat.blt_eq] using hz
  cases vs with
  | nil => simp only [z0v] at hargs
  | cons v vs =>
    simp only [z0v] at hargs
    obtain ⟨ha,hb⟩ := hargs
    simp only [repV] at ha
    have hd := ha.1
    simp only [repD] at hd
    obtain ⟨base,cap,rfl,hle,hcells⟩ := hd
    cases base with
    | some a =>
      refine h2 cx I s w _ hG hw ?_
      simp only [z0v]
      exact ⟨by simp only [repV]; exact ⟨ha.1,by simp [flag]⟩,hb⟩
    | none =>
      have hx : xs = [] := by
        rcases hcells with q | ⟨b,o,q,_⟩
        · have := z0V t xs
          rw [q] at this
          simp only [List.length_nil] at this
          have h0 : xs.length = 0 := by
            rcases Nat.mul_eq_zero.1 this.symm with r | r
            · exact r
            · omega
          exact List.length_eq_zero_iff.1 h0
        · cases q
      subst hx
      refine h1 rfl cx I s w _ hG hw ?_
      simp only [z0v]
      exact ⟨by simp only [repV]; exact ⟨ha.1,by simp [flag]⟩,hb⟩
theorem WInv.forget {id : Nat} (h : WInv cx I s (setF hp id .dead) w) (hn : hp id = none) (hs : s id = none) : WInv cx I s hp w where
  agree := h.agree
  cont i c hc := h.cont i c (by rw [z0O _ _ (fun e => by subst e; rw [hn] at hc; cases hc)]; exact hc)
  apart i j c d b h1 h2 h3 h4 := h.apart i j c d b (by rw [z0O _ _ (fun e => by subst e; rw [hn] at h1; cases h1)]; exact h1) (by rw [z0O _ _ (fun e => by subst e; rw [hn] at h2; cases h2)]; exact h2) h3 h4
  dom i v hv := by
    have := h.dom i v hv
    rwa [z0O _ _ (fun e => by subst e; rw [hs] at hv; cases hv)] at this
  own i c b h1 h2 := h.own i c b (by rw [z0O _ _ (fun e => by subst e; rw [hn] at h1; cases h1)]; exact h1) h2
  size := h.size
  same := h.same
  le := h.le
  os := h.os
  tape := h.tape
  out := h.out
theorem WInv.learn (h : WInv cx I s hp w) (hk : Kept w w') {id b : Nat} (hn : hp id = none) (hb : w.heap.size ≤ b) {arr : Array Value} {e : TypeId} {fr : Nat × Nat} (hg : w'.heap[b]? = some (.cells arr e fr)) :
    WInv cx (z1k I b arr.toList) s hp w' ∧ I.le (z1k I b arr.toList) := by
  have h' := h.kept hk
  have hnone : ∀ o,I b o = none := fun o => by
    cases hv : I b o with
    | none => rfl
    | some v => have := h.zmC hv; omega
  have hle : I.le (z1k I b arr.toList) := by
    intro b' o v hv
    simp only [z1k]
    rw [if_neg (fun e => by subst e; rw [hnone] at hv; cases hv)]
    exact hv
  refine ⟨?_,hle⟩
  have := h'.zk1 (w' := w') (s' := s) (I' := z1k I b arr.toList) id .dead (some b) (fun c0 h0 => by rw [hn] at h0; cases h0) (Hand.le_refl _) (fun i v hv => .inr hv) (fun b' hb' => by simp [blk] at hb')
    ⟨Nat.le_refl _,fun _ _ _ => rfl,rfl,rfl,rfl⟩ hle (fun b' hb' o => by simp only [z1k]; rw [if_neg (fun e => hb' (by rw [e]))])
    (fun b' o v e' hv => by
      cases e'
      simp only [z1k,if_true] at hv
      simp only [World.cell?,hg]
      simpa using hv)
    (fun b' e' i c0 h0 hb' => by
      cases e'
      have := h.zpC h0 hb'
      omega)
    (fun b' e' => by cases e'; exact .inl (Nat.le_trans h.size hb)) trivial
  exact this.forget hn (h'.unknown hn)
theorem zla {f : Nat} {fn : Func} {args : List V} {ins : List C} {res : V} {outs news : List C} (hf : P.funcs[f]? = some fn) (hn : (fn.body.isSome && !(fn.name == "runtime.NumGoroutine")) = true)
    (hc : ∀ (cx : Cx) (I : Facts) (s : Hand) (w : World) (vs : List Value),Ground.G.le cx.I0 → WInv cx I s (get (z7b 0 ins)) w → z0v I s args vs →
      Calls P f vs.toArray w (EndR fun v w' => ∃ I' s',I.le I' ∧ s.le s' ∧ WInv cx I' s' (get (z7b 0 (outs ++ news))) w' ∧ repV I' s' res v)) : Spec P f args ins res outs news := by
  intro cx I s w xs hG hw hargs
  simp only [Bool.and_eq_true,Bool.not_eq_true'] at hn
  obtain ⟨hb,hname⟩ := hn
  obtain ⟨c,hbody⟩ := Option.isSome_iff_exists.1 hb
  left
  refine ⟨f,xs.toArray,?_,hc cx I s w xs hG hw hargs⟩
  have hnone : fn.body.isNone = false := by rw [hbody]; rfl
  have hpr : (program).run P w = .ok P w := rfl
  simp only [callFunc,Sem.run_bind,hpr,Result.andThen_ok,hf,hname,hnone,Bool.false_eq_true,if_false,Sem.run_pure]
theorem WInv.ground (h : WInv cx I s hp w) (hG : Ground.G.le cx.I0) : ∀ b o u,Ground.G b o = some u → w.cell? ⟨b,o,none⟩ = some u := fun b o u hu => h.agree b o u (h.le b o u (hG b o u hu))
end
end Go.PE
namespace Go.PE
open Go.ChangeShapes Go.WideShapes Go.Deep
theorem znF {P : Program} {W : World} {x : String × DataW Unit} {r : List (String × DataW Unit)} (h : laidMet P (x :: r) W) : laidMet P r W := by
  obtain ⟨nm,d⟩ := x
  obtain ⟨ps,⟨g,t,cs,fuel,p,q,h1,h2,h3,h4,hr,rfl⟩,hnd,hm⟩ := h
  exact ⟨q,hr,(List.nodup_append.1 hnd).2.1,fun b off hb => hm b off (by simp [hb])⟩
def zp4 (W : World) : Facts := fun b o => W.cell? ⟨b,o,none⟩
theorem zxs (I : Facts) [Univ] : ∀ l : List Int,z1t I (cellsD (.int .i64) l) (l.map fun b => Value.int .i64 b)
  | [] => trivial
  | b :: r => by
    have : repD I (.int .i64 b) (Value.int .i64 b) := by simp only [repD]
    exact ⟨this,zxs I r⟩
theorem open_ints [Univ] {H : Type} {enc : TypeId × Value → H} {P : Program} {W : World} {r : Reach} {b0 : Nat} {t e : TypeId} {v : Value} {d : DataW H} {ps : List MemPlace} (ht : P.underlying t = some (.slice e)) (he : P.underlying e = some (.int .i64)) (hc : P.cellsOf e = 1)
    (hval : Value.okWide P W r b0 t v) (hd : DataW.Trod enc P W 0 (fun _ => true) true t v d ps) : ∃ xs : List Int,repV (zp4 W) (fun _ => none) (.lst (.int .i64) xs 0) v := by
  obtain ⟨a,len,cap,rfl⟩ := okWide_slice ht hval
  obtain ⟨fuel,hf⟩ := hd
  have hf' : DataW.trod enc P W 0 (fun _ => true) true fuel t [.slice a len cap] = some (d,ps) := by simpa [Value.cells] using hf
  rcases open_slice1 ht hc hf' with ⟨h0,_⟩ | ⟨a',len',cap',m,n,V,D,Pl,h0,_,hl,_,hm,_,hx⟩
  · refine ⟨[],?_⟩
    simp only [List.cons.injEq,Value.slice.injEq,and_true] at h0
    obtain ⟨rfl,rfl,rfl⟩ := h0
    simp only [repV,repD]
    exact ⟨⟨none,0,rfl,Nat.le_refl _,.inl rfl⟩,by unfold flag; trivial⟩
  · simp only [List.cons.injEq,Value.slice.injEq,and_true] at h0
    obtain ⟨rfl,rfl,rfl⟩ := h0
    obtain rfl : m = cap := by simpa using hm
    have hz : ∀ i,∃ z : Int,i < m → V i = .int .i64 z := fun i => by
      by_cases hi : i < m
      · obtain ⟨z,hz,_⟩ := DataW.trod_int he (hx i hi).2
        simp only [List.cons.injEq,and_true] at hz
        exact ⟨z,fun _ => hz⟩
      · exact ⟨0,fun h => absurd h hi⟩
    let z : Nat → Int := fun i => Classical.choose (hz i)
    have zs : ∀ i,i < m → V i = .int .i64 (z i) := fun i => Classical.choose_spec (hz i)
    have hzl : ((List.range len).map z).length = len := by simp
    refine ⟨(List.range len).map z,?_⟩
    simp only [repV,repD]
    refine ⟨⟨some a',m,congrArg (fun k => Value.slice (some a') k m) hzl.symm,Nat.le_trans (Nat.le_of_eq hzl) hl,?_⟩,by unfold flag; trivial⟩
    by_cases h0 : len = 0
    · subst h0; left; rfl
    · right
      have hspot : a'.spot = none := by
        have h := (hx 0 (by omega)).1
        simp only [Addr.add,if_true,World.cell?] at h
        split at h
        · cases hs : a'.spot with
          | none => rfl
          | some s => rw [hs] at h; simp at h
        · cases h
      obtain ⟨b,o,sp⟩ := a'
      simp only at hspot
      subst hspot
      refine ⟨b,o,rfl,z3O _ _ o (zxs _ _) fun j v hj => ?_⟩
      rw [List.getElem?_map,List.getElem?_map] at hj
      by_cases hjl : j < len
      · rw [List.getElem?_range hjl] at hj
        obtain rfl : Value.int .i64 (z j) = v := by simpa using hj
        have h := (hx j (by omega)).1
        rw [zs j (by omega)] at h
        show W.cell? ⟨b,o + j,none⟩ = _
        by_cases hj0 : j = 0
        · subst hj0; simpa [Addr.add] using h
        · simpa [Addr.add,hj0] using h
      · rw [List.getElem?_eq_none (by simp; omega)] at hj; cases hj
end Go.PE
