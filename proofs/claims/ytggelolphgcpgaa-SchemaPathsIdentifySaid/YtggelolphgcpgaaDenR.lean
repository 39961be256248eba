/- Single operations and regions in the text's order, as the machine walks them. -/
import Derived.Test.YtggelolphgcpgaaDenQ
namespace Go.Den
open Go

section
variable {P : Program} {tab : Nat → Nat}
/-- A state of the frame. -/
structure Fst (tab : Nat → Nat) (F : Nat → Prop) (base : Nat) (w : World) (σ : St) (γ : List Gh) (env : Env) (tmps : Array Value) : Prop where
  inv : Inv tab w F σ γ
  env : EnvOk tab w F σ γ env tmps
  hb : base ≤ σ.length
  frame : FrameOk base σ
/-- From a state of the frame to a later one. -/
structure Goes (base : Nat) (w : World) (σ : St) (γ : List Gh) (w' : World) (σ' : St) (γ' : List Gh) : Prop where
  step : Step base w σ γ w' σ' γ'
  fr : Fr base σ σ'
theorem Goes.refl {base : Nat} (w : World) {σ : St} (γ : List Gh) (h : base ≤ σ.length) : Goes base w σ γ w σ γ := ⟨Step.refl w γ h, Fr.refl _ _⟩
theorem Goes.trans {base : Nat} {w w1 w2 : World} {σ σ1 σ2 : St} {γ γ1 γ2 : List Gh} (a : Goes base w σ γ w1 σ1 γ1) (b : Goes base w1 σ1 γ1 w2 σ2 γ2) : Goes base w σ γ w2 σ2 γ2 := ⟨a.step.trans b.step, a.fr.trans b.fr⟩

theorem env_put {w : World} {F : Nat → Prop} {σ : St} {γ : List Gh} {env : Env} {tmps : Array Value} (E : EnvOk tab w F σ γ env tmps) {N : Nat} (hN : tmps.size = N) {dst : Option Nat} (hd : ∀ d, dst = some d → d < N) {x : AV} {v : Value} (hx : RS tab w F σ γ x v) {defers : List Deferred} :
    EnvOk tab w F σ γ (env.put dst x) (({ tmps, defers } : Act).put dst v).tmps := by
  cases dst with
  | none => exact E
  | some d =>
    intro t
    have := hd d rfl
    simp only [Env.put, Env.get, Act.put]
    by_cases e : d = t
    · subst e
      simp only [if_true]
      have : (tmps.setIfInBounds d v).getD d undef = v := by simp [Array.getD, show d < tmps.size by omega]
      rw [this]; exact hx
    · rw [if_neg e]
      have : (tmps.setIfInBounds d v).getD t undef = tmps.getD t undef := by
        simp only [Array.getD_eq_getD_getElem?, Array.getElem?_setIfInBounds_ne e]
      rw [this]; exact E t
theorem env_step {w w1 : World} {F : Nat → Prop} {σ σ1 : St} {γ γ1 : List Gh} (st : Step σ.length w σ γ w1 σ1 γ1) {env : Env} {tmps : Array Value} (E : EnvOk tab w F σ γ env tmps) : EnvOk tab w1 F σ1 γ1 env tmps := fun t => (E t).step st (E t).under

def nameB (P : Program) (f : FuncId) : Bool := match P.funcs[f]? with
  | some fn => fn.name != "runtime.NumGoroutine" && fn.body.isSome
  | none => false
/-- A call's arguments and its function. -/
def chkOper (P : Program) (tab : Nat → Nat) (N : Nat) (o : Oper) (ao : AOper) : Bool :=
  (match o.dst, ao.dst with
   | some d, some d' => d == d' && decide (d < N)
   | none, none => true
   | _, _ => false) &&
  (match o.op, ao.op with
   | .call c, .call _ f args => (match c.callee with
     | .value (.func g) => tab f == g && nameB P g && chkOpds tab c.args.toList args
     | _ => false)
   | .call c, .callv x args => (match c.callee with
     | .value y => chkOpd tab y x && chkOpds tab c.args.toList args
     | _ => false)
   | op, .slot _ aop => slotable aop && chkOp P tab op aop
   | .move x, .movf y => chkOpd tab x y
   | .assign x, .movf y => chkOpd tab x y
   | op, aop => chkOp P tab op aop)
def chkGuard (ops : Array Oper) (o : Oper) (ao : AOper) : Bool := match o.guard, ao.guard with
  | none, none => true
  | some (j, b), some (t, b') => b == b' && ((ops[j]?).bind (·.dst)) == some t
  | _, _ => false
def chkOpers (P : Program) (tab : Nat → Nat) (N : Nat) (ops : Array Oper) : List Oper → List AOper → Bool
  | [], [] => true
  | o :: os, ao :: aos => chkOper P tab N o ao && chkGuard ops o ao && chkOpers P tab N ops os aos
  | _, _ => false
theorem args_ok {w : World} {F : Nat → Prop} {σ : St} {γ : List Gh} {env : Env} {a : Act} (E : EnvOk tab w F σ γ env a.tmps) : ∀ {xs : List Operand} {ys : List Opd}, chkOpds tab xs ys = true → ArgsOk tab w F σ γ (evs env ys) (xs.map a.eval)
  | [], [], _ => ⟨rfl, by simp [evs]⟩
  | [], _ :: _, h => by simp [chkOpds] at h
  | _ :: _, [], h => by simp [chkOpds] at h
  | x :: xs, y :: ys, h => by
    simp only [chkOpds, Bool.and_eq_true] at h
    obtain ⟨q1, q2⟩ := args_ok E h.2
    refine ⟨by simp [evs, q1], fun j z v hz hv => ?_⟩
    cases j with
    | zero => simp [evs] at hz hv; subst hz; subst hv; exact opd_ok E h.1
    | succ j => exact q2 j z v (by simpa [evs] using hz) (by simpa using hv)
/-- Every function of the table may be entered. -/
def Named (P : Program) (tab : Nat → Nat) (G : Nat → Option AFunc) : Prop := ∀ f F, G f = some F → nameB P (tab f) = true
theorem run_callFunc {f : FuncId} (h : nameB P f = true) (args : Array Value) (w : World) : (callFunc f args).run P w = .ok (.enter f args) w := by
  unfold nameB at h
  split at h
  · rename_i fn hf
    simp only [Bool.and_eq_true, bne_iff_ne, ne_eq] at h
    obtain ⟨h1, h2⟩ := h
    cases hb : fn.body with
    | none => simp [hb] at h2
    | some b => simp [callFunc, hf, h1, hb]
  · exact absurd h (by simp)

theorem fn_open2 {w : World} {F : Nat → Prop} {σ : St} {γ : List Gh} {f : Nat} {caps : List AV} {u : Value} (h : RS tab w F σ γ (.fn f caps) u) : ∃ us : List Value, u = .func (.func (tab f)) #[] us.toArray ∧ us.length = caps.length ∧ ∀ (j : Nat) (x : AV) (v : Value), caps[j]? = some x → us[j]? = some v → RS tab w F σ γ x v := by
  cases h with
  | fz _ _ h0 => cases h0 with
    | fn _ _ us hl hs hr => exact ⟨us, rfl, hl, fun j x v hx hv => .fz _ _ (hr j x v hx hv)⟩
  | fn _ _ us hl hs hr => exact ⟨us, rfl, hl, hr⟩
/-- One operation: what stands behind it must hold of every state that it may leave. -/
theorem stepC_ok {call : CallF} {G : Nat → Option AFunc} (C : CallOk P tab call) (hG : ∀ f args σ r, call f args σ = some r → ∃ F, G f = some F) (hN : Named P tab G) {o : Oper} {ao : AOper} {N : Nat} (hc : chkOper P tab N o ao = true) {F : Nat → Prop} {base : Nat} {env : Env} {σ σ' : St} {x : AV} {t : Bool}
    (h : stepC call base ao.op env σ = some (x, σ', t)) {a : Act} {w : World} {γ : List Gh} (S : Fst tab F base w σ γ env a.tmps) (hsz : a.tmps.size = N) {K : Act → World → Prop} {Q : Exit → Act → World → Prop}
    (hK : ∀ v w' γ', Goes base w σ γ w' σ' γ' → Fst tab F base w' σ' γ' (env.put ao.dst x) (a.put o.dst v).tmps → K (a.put o.dst v) w') : o.wp P a w K Q := by
  have hdst : o.dst = ao.dst ∧ ∀ d, o.dst = some d → d < N := by
    simp only [chkOper, Bool.and_eq_true] at hc
    have h1 := hc.1
    split at h1
    · rename_i d d' e1 e2
      simp at h1
      rw [e1, e2, h1.1]
      exact ⟨rfl, fun k hk => by simp at hk; subst hk; rw [← h1.1]; exact h1.2⟩
    · rename_i e1 e2
      rw [e1, e2]
      exact ⟨rfl, fun k hk => by simp at hk⟩
    · exact absurd h1 (by simp)
  obtain ⟨hd1, hd2⟩ := hdst
  have fin : ∀ v w' γ', Step σ.length w σ γ w' σ' γ' → Inv tab w' F σ' γ' → RS tab w' F σ' γ' x v → Fr base σ σ' → K (a.put o.dst v) w' := by
    intro v w' γ' st J hr fr
    refine hK v w' γ' ⟨st.mono S.hb, fr⟩ ⟨J, ?_, Nat.le_trans S.hb st.l2, fr base (Nat.le_refl _) S.frame⟩
    rw [← hd1]
    exact env_put (env_step st S.env) hsz hd2 hr
  have hcall : ∀ (mode f : Nat) (args : List AV) (vals : List Value), callX call mode f args σ = some (x, σ', t) → ArgsOk tab w F σ γ args vals → (execOp a.eval o).run P w = .ok (.enter (tab f) vals.toArray) w → o.wp P a w K Q := by
    intro mode f args vals hco A hrun
    unfold Oper.wp
    rw [hrun, Oper.upon_enter]
    refine Calls.mono (callX_ok C hco S.inv A) ?_
    rintro e w' ⟨v, γ', rfl, st, J, hr, fr⟩
    exact fin v w' γ' st J hr fun b hb => fr b (Nat.le_trans hb S.hb)
  have hGf : ∀ (mode f : Nat) (args : List AV), callOp call mode f args σ = some (x, σ', t) → nameB P (tab f) = true := by
    intro mode f args hco
    unfold callOp at hco
    split at hco
    · exact absurd hco (by simp)
    · split at hco
      · split at hco
        · exact absurd hco (by simp)
        · rename_i hq
          obtain ⟨F', hF⟩ := hG _ _ _ _ hq
          exact hN f F' hF
      · split at hco
        · exact absurd hco (by simp)
        · rename_i hq
          obtain ⟨F', hF⟩ := hG _ _ _ _ hq
          exact hN f F' hF
  simp only [chkOper, Bool.and_eq_true] at hc
  have h2 := hc.2
  obtain ⟨adst, aop, aguard⟩ := ao
  obtain ⟨dst, op, ty, pos, after, guard⟩ := o
  simp only [] at h2 h
  split at h2
  · rename_i c mode f args
    split at h2
    · rename_i g hcal
      simp only [Bool.and_eq_true, beq_iff_eq] at h2
      obtain ⟨⟨rfl, hnm⟩, hargs⟩ := h2
      have A := args_ok S.env hargs
      refine hcall mode f _ _ h A ?_
      simp only [execOp, Sem.run_bind, resolve, hcal, Act.eval, Deferred.ofValue, Sem.run_pure, Result.andThen_ok, invoke]
      rw [mapArr]
      simpa using run_callFunc hnm _ w
    · exact absurd h2 (by simp)
  · rename_i c y args
    split at h2
    · rename_i yo hcal
      simp only [Bool.and_eq_true] at h2
      obtain ⟨hy, hargs⟩ := h2
      have A := args_ok S.env hargs
      have hyv := opd_ok S.env hy
      simp only [stepC] at h
      split at h
      · rename_i f caps hev
        rw [hev] at hyv
        have hnm := hGf _ _ _ h
        have hopen : ∃ us : List Value, a.eval yo = .func (.func (tab f)) #[] us.toArray ∧ us.length = caps.length ∧ ∀ (j : Nat) (x : AV) (v : Value), caps[j]? = some x → us[j]? = some v → RS tab w F σ γ x v := by
          exact fn_open2 hyv
        obtain ⟨us, hus, hl, hr⟩ := hopen
        refine hcall 0 f _ (c.args.toList.map a.eval ++ us) h ⟨by simp [A.1, hl], fun j x v hx hv => ?_⟩ ?_
        · rcases Nat.lt_or_ge j (evs env args).length with hj | hj
          · rw [List.getElem?_append_left hj] at hx
            rw [List.getElem?_append_left (by rw [A.1]; exact hj)] at hv
            exact A.2 j x v hx hv
          · rw [List.getElem?_append_right hj] at hx
            rw [List.getElem?_append_right (by rw [A.1]; exact hj), A.1] at hv
            exact hr _ x v hx hv
        · simp only [execOp, Sem.run_bind, resolve, hcal, hus, Deferred.ofValue, Sem.run_pure, Result.andThen_ok, invoke]
          have e : (c.args.toList.map a.eval ++ us).toArray = c.args.map a.eval ++ us.toArray := by
            rw [← mapArr]; simp
          rw [e]
          simpa using run_callFunc hnm _ w
      · exact absurd h (by simp)
    · exact absurd h2 (by simp)
  · rename_i d aop
    simp only [Bool.and_eq_true] at h2
    obtain ⟨hsl, h2⟩ := h2
    simp only [stepC] at h
    cases hst : step base aop env σ with
    | none => rw [hst] at h; simp [fillAt] at h
    | some q =>
      obtain ⟨v1, σ1, t1⟩ := q
      rw [hst] at h
      have D := op_sound (o := ⟨dst, op, ty, pos, after, guard⟩) h2 hst S.inv S.env S.hb
      obtain ⟨v, w', γ', hr, st, J, hx, fr⟩ := slot_done S.inv hsl hst D h
      unfold Oper.wp
      rcases hr with hr | ⟨hr, rfl⟩
      · rw [hr]; exact fin v w' γ' st J hx fr
      · rw [hr]; exact fin undef w' γ' st J hx fr
  · rename_i xo yo
    have hy := opd_ok S.env h2
    simp only [stepC] at h
    split at h
    · rename_i fv hf
      simp at h; obtain ⟨rfl, rfl, _⟩ := h
      have hl : ∀ o ∈ oslIn (ev env yo), ∃ v sz es, σ[o]? = some (.arr v sz es) := fun o ho => frz_arr hf ho
      obtain ⟨k1, k2, k3⟩ := killL_ok S.inv hl
      rw [kill_eq] at fin
      unfold Oper.wp
      have hr : (execOp a.eval ⟨dst, .move xo, ty, pos, after, guard⟩).run P w = .ok (.value (a.eval xo)) w := by simp [execOp]
      rw [hr]
      exact fin _ w γ k1 k2 (frz_read S.inv hl hy hf (fun o ho => ho)) (k3 _)
    · exact absurd h (by simp)
  · rename_i xo yo
    have hy := opd_ok S.env h2
    simp only [stepC] at h
    split at h
    · rename_i fv hf
      simp at h; obtain ⟨rfl, rfl, _⟩ := h
      have hl : ∀ o ∈ oslIn (ev env yo), ∃ v sz es, σ[o]? = some (.arr v sz es) := fun o ho => frz_arr hf ho
      obtain ⟨k1, k2, k3⟩ := killL_ok S.inv hl
      rw [kill_eq] at fin
      unfold Oper.wp
      have hr : (execOp a.eval ⟨dst, .assign xo, ty, pos, after, guard⟩).run P w = .ok (.value (a.eval xo)) w := by simp [execOp]
      rw [hr]
      exact fin _ w γ k1 k2 (frz_read S.inv hl hy hf (fun o ho => ho)) (k3 _)
    · exact absurd h (by simp)
  · rename_i hn1 hn2 hn3 hn4 hn5
    have h' : step base aop env σ = some (x, σ', t) := by
      cases aop <;> first | exact h | (exfalso; cases op <;> simp [chkOp] at h2)
    obtain ⟨v, w', γ', hr, st, J, hx, fr⟩ := op_sound (o := ⟨dst, op, ty, pos, after, guard⟩) h2 h' S.inv S.env S.hb
    unfold Oper.wp
    rcases hr with hr | ⟨hr, rfl⟩
    · rw [hr]; exact fin v w' γ' st J hx fr
    · rw [hr]; exact fin undef w' γ' st J hx fr
end
end Go.Den
