/- Regions in the text's order. -/
import Derived.Test.YtggelolphgcpgaaDenR
namespace Go.Den
open Go

section
variable {P : Program} {tab : Nat → Nat}
theorem undef_ok {w : World} {S : Nat → Prop} {σ : St} {γ : List Gh} : RV tab w S σ γ (.tup []) undef := .fz _ _ (RF.tup [] [] rfl (by simp))
theorem undef_eq {w : World} {S : Nat → Prop} {σ : St} {γ : List Gh} {v : Value} (h : RV tab w S σ γ (.tup []) v) : v = undef := by
  have h' := h.frozen rfl
  cases h' with
  | tup cs vs hl hr =>
    cases vs with
    | nil => rfl
    | cons a r => simp at hl
theorem wanted_ok {w : World} {F : Nat → Prop} {σ : St} {γ : List Gh} {env : Env} {tmps : Array Value} (E : EnvOk tab w F σ γ env tmps) {ops : Array Oper} {o : Oper} {ao : AOper} (hg : chkGuard ops o ao = true) {b : Bool} (h : wanted env ao.guard = some b) :
    Region.wanted o (yielded ops tmps) = b := by
  unfold chkGuard at hg
  split at hg
  · rename_i e1 e2
    rw [e2] at h
    simp [wanted] at h; subst h
    simp [Region.wanted, e1]
  · rename_i j w1 t w2 e1 e2
    simp only [Bool.and_eq_true, beq_iff_eq] at hg
    obtain ⟨rfl, hj⟩ := hg
    rw [e2] at h
    simp only [wanted] at h
    split at h
    · rename_i b0 hb0
      simp at h; subst h
      have := E t
      rw [hb0] at this
      have hv := bool_eq this
      have ht : tmps[t]? = some (.bool b0) := by
        rw [Array.getD_eq_getD_getElem?] at hv
        cases hh : tmps[t]? with
        | none => rw [hh] at hv; simp [undef] at hv
        | some v => rw [hh] at hv; simp at hv; rw [hv]
      simp only [Region.wanted, e1, yielded, hj, Option.bind_some, ht]
      cases b0 <;> cases w1 <;> rfl
    · rename_i hb0
      simp at h; subst h
      have := E t
      rw [hb0] at this
      have hv := undef_eq this
      rw [Array.getD_eq_getD_getElem?] at hv
      simp only [Region.wanted, e1, yielded, hj, Option.bind_some]
      cases hh : tmps[t]? with
      | none => cases w1 <;> rfl
      | some v => rw [hh] at hv; simp at hv; rw [hv]; cases w1 <;> rfl
    · exact absurd h (by simp)
  · exact absurd hg (by simp)
theorem put_size (a : Act) (dst : Option Tmp) (v : Value) : (a.put dst v).tmps.size = a.tmps.size := by cases dst <;> simp [Act.put]
theorem put_defers (a : Act) (dst : Option Tmp) (v : Value) : (a.put dst v).defers = a.defers := by cases dst <;> rfl
theorem chkOper_dst {N : Nat} {o : Oper} {ao : AOper} (hc : chkOper P tab N o ao = true) : o.dst = ao.dst ∧ ∀ d, ao.dst = some d → d < N := by
  simp only [chkOper, Bool.and_eq_true] at hc
  have h1 := hc.1
  split at h1
  · rename_i d d' e1 e2
    simp at h1
    rw [e1, e2, h1.1]
    exact ⟨rfl, fun k hk => by simp at hk; subst hk; rw [← h1.1]; exact h1.2⟩
  · rename_i e1 e2
    rw [e1, e2]
    exact ⟨rfl, fun k hk => by simp at hk⟩
  · exact absurd h1 (by simp)
/-- One operation of a region, guarded or not: what stands behind it. -/
theorem oper_ok {call : CallF} {G : Nat → Option AFunc} (C : CallOk P tab call) (hG : ∀ f args σ r, call f args σ = some r → ∃ F, G f = some F) (hN : Named P tab G) {ops : Array Oper} {o : Oper} {ao : AOper} {N : Nat} (hc : chkOper P tab N o ao = true) (hg : chkGuard ops o ao = true)
    {F : Nat → Prop} {base : Nat} {env env' : Env} {σ σ' : St} {a : Act} {w : World} {γ : List Gh} (S : Fst tab F base w σ γ env a.tmps) (hsz : a.tmps.size = N) {Q : Exit → Act → World → Prop} {K : Act → World → Prop}
    (h : (∃ x t, wanted env ao.guard = some true ∧ stepC call base ao.op env σ = some (x, σ', t) ∧ env' = env.put ao.dst x) ∨ (wanted env ao.guard = some false ∧ env' = env.put ao.dst (.tup []) ∧ σ' = σ))
    (hK : ∀ a' w' γ', Goes base w σ γ w' σ' γ' → Fst tab F base w' σ' γ' env' a'.tmps → a'.tmps.size = N → a'.defers = a.defers → K a' w') :
    (if Region.wanted o (yielded ops a.tmps) then o.wp P a w K Q ∨ (o.asks P a w ∧ LetsOut Q) else K (a.put o.dst undef) w) := by
  rcases h with ⟨x, t, hw, hs, rfl⟩ | ⟨hw, rfl, rfl⟩
  · rw [wanted_ok S.env hg hw, if_pos rfl]
    left
    exact stepC_ok C hG hN hc hs S hsz fun v w' γ' g f => hK _ w' γ' g f (by rw [put_size]; exact hsz) (put_defers _ _ _)
  · rw [wanted_ok S.env hg hw, if_neg (by simp)]
    obtain ⟨hd1, hd2⟩ := chkOper_dst hc
    refine hK _ w γ (Goes.refl w γ S.hb) ⟨S.inv, ?_, S.hb, S.frame⟩ (by rw [put_size]; exact hsz) (put_defers _ _ _)
    rw [hd1]
    exact env_put (defers := a.defers) S.env hsz hd2 undef_ok
theorem runOps_ok {call : CallF} {G : Nat → Option AFunc} (C : CallOk P tab call) (hG : ∀ f args σ r, call f args σ = some r → ∃ F, G f = some F) (hN : Named P tab G) {ops : Array Oper} {N : Nat} {F : Nat → Prop} {base : Nat} {Q : Exit → Act → World → Prop} :
    ∀ (os : List Oper) (aos : List AOper) (i : Nat), ops.toList.drop i = os → chkOpers P tab N ops os aos = true → ∀ {env env' : Env} {σ σ' : St} {a : Act} {w : World} {γ : List Gh}, runOps call base aos env σ = some (env', σ') → Fst tab F base w σ γ env a.tmps → a.tmps.size = N →
      (∀ a' w' γ', Goes base w σ γ w' σ' γ' → Fst tab F base w' σ' γ' env' a'.tmps → a'.tmps.size = N → a'.defers = a.defers → Q .normal a' w') → wpOps P ops Q (List.range' i os.length) a w
  | [], [], i, _, _, env, env', σ, σ', a, w, γ, h, S, hsz, hQ => by
    simp [runOps] at h; obtain ⟨rfl, rfl⟩ := h
    exact hQ a w γ (Goes.refl w γ S.hb) S hsz rfl
  | [], _ :: _, _, _, h, _, _, _, _, _, _, _, _, _, _, _ => by simp [chkOpers] at h
  | _ :: _, [], _, _, h, _, _, _, _, _, _, _, _, _, _, _ => by simp [chkOpers] at h
  | o :: os, ao :: aos, i, hd, hc, env, env', σ, σ', a, w, γ, h, S, hsz, hQ => by
    simp only [chkOpers, Bool.and_eq_true] at hc
    obtain ⟨⟨h1, h2⟩, h3⟩ := hc
    have hoi : ops[i]? = some o := by
      have : (ops.toList.drop i)[0]? = some o := by rw [hd]; rfl
      rw [List.getElem?_drop] at this
      simpa using this
    have hd' : ops.toList.drop (i + 1) = os := by
      have := congrArg List.tail hd
      simpa [List.tail_drop] using this
    simp only [List.length_cons, List.range'_succ, wpOps, hoi]
    simp only [runOps] at h
    have key : ∀ {env1 : Env} {σ1 : St}, ((∃ x t, wanted env ao.guard = some true ∧ stepC call base ao.op env σ = some (x, σ1, t) ∧ env1 = env.put ao.dst x) ∨ (wanted env ao.guard = some false ∧ env1 = env.put ao.dst (.tup []) ∧ σ1 = σ)) → runOps call base aos env1 σ1 = some (env', σ') →
        (if Region.wanted o (yielded ops a.tmps) then o.wp P a w (wpOps P ops Q (List.range' (i + 1) os.length)) Q ∨ (o.asks P a w ∧ LetsOut Q) else wpOps P ops Q (List.range' (i + 1) os.length) (a.put o.dst undef) w) := by
      intro env1 σ1 hor hrun
      exact oper_ok C hG hN h1 h2 S hsz hor fun a' w' γ' g f hsz' hdf => runOps_ok C hG hN os aos (i + 1) hd' h3 hrun f hsz' fun a'' w'' γ'' g' f' hsz'' hdf' => hQ a'' w'' γ'' (g.trans g') f' hsz'' (hdf'.trans hdf)
    split at h
    · rename_i hw
      split at h
      · rename_i x σ1 t hs
        exact key (.inl ⟨x, t, hw, hs, rfl⟩) h
      · exact absurd h (by simp)
    · rename_i hw
      exact key (.inr ⟨hw, rfl, rfl⟩) h
    · exact absurd h (by simp)
theorem prune_get (live : List Nat) (env : Env) (t : Nat) : (prune live env).get t = env.get t ∨ (prune live env).get t = .dead := by
  induction live with
  | nil => exact .inr rfl
  | cons l r ih =>
    simp only [prune, Env.get]
    by_cases e : l = t
    · subst e; simp
    · rw [if_neg e]; exact ih
theorem env_prune {w : World} {F : Nat → Prop} {σ : St} {γ : List Gh} {env : Env} {tmps : Array Value} (E : EnvOk tab w F σ γ env tmps) (live : List Nat) : EnvOk tab w F σ γ (prune live env) tmps := fun t => by
  rcases prune_get live env t with h | h
  · rw [h]; exact E t
  · rw [h]; exact .dead _
end
end Go.Den
