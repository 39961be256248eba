/- Returning; the theorem on calls. -/
import Derived.Test.YtjdnmifdkkohnaaDenW
namespace Go.Den
open Go

section
variable {P : Program} {tab : Nat → Nat}
/-- One owned row is kept, in the place 'base'. -/
theorem keep_one {w : World} {F : Nat → Prop} {base o : Nat} {σ : St} {γ : List Gh} {ver sz : Nat} {es : List (List AV)} {g : Gh} (I : Inv tab w F σ γ) (hb : base ≤ σ.length) (hf : FrameOk base σ) (ho : base ≤ o) (hx : σ[o]? = some (.arr ver sz es)) (hg : γ[o]? = some g) :
    Step base w σ γ w (σ.take base ++ [.arr ver sz es]) (γ.take base ++ [g]) ∧ Inv tab w F (σ.take base ++ [.arr ver sz es]) (γ.take base ++ [g]) ∧ Fr base σ (σ.take base ++ [.arr ver sz es]) := by
  have hl := I.len
  have tl : (σ.take base).length = base := by simp; omega
  have tg : (γ.take base).length = base := by simp; omega
  have get : ∀ (k : Nat) (x : Ob) (g' : Gh), (σ.take base ++ [.arr ver sz es])[k]? = some x → (γ.take base ++ [g])[k]? = some g' → (k < base ∧ σ[k]? = some x ∧ γ[k]? = some g') ∨ (k = base ∧ x = .arr ver sz es ∧ g' = g) := by
    intro k x g' h1 h2
    rcases Nat.lt_or_ge k base with h | h
    · rw [List.getElem?_append_left (by omega), List.getElem?_take_of_lt h] at h1
      rw [List.getElem?_append_left (by omega), List.getElem?_take_of_lt h] at h2
      exact .inl ⟨h, h1, h2⟩
    · have hk := lt_of_get h1
      simp [tl] at hk
      have : k = base := by omega
      subst this
      rw [List.getElem?_append_right (by omega), tl] at h1
      rw [List.getElem?_append_right (by omega), tg] at h2
      simp at h1 h2
      exact .inr ⟨rfl, h1.symm, h2.symm⟩
  have idx : ∀ (k : Nat) (x : Ob) (g' : Gh), (σ.take base ++ [.arr ver sz es])[k]? = some x → (γ.take base ++ [g])[k]? = some g' → ∃ j, σ[j]? = some x ∧ γ[j]? = some g' ∧ ((k < base ∧ j = k) ∨ (k = base ∧ j = o)) := by
    intro k x g' h1 h2
    rcases get k x g' h1 h2 with ⟨h, q1, q2⟩ | ⟨h, rfl, rfl⟩
    · exact ⟨k, q1, q2, .inl ⟨h, rfl⟩⟩
    · exact ⟨o, hx, hg, .inr ⟨h, rfl⟩⟩
  have hown : ∀ b, Owned (σ.take base ++ [.arr ver sz es]) (γ.take base ++ [g]) b → Owned σ γ b := by
    rintro b ⟨k, x, g', h1, h2, h3, h4⟩
    obtain ⟨j, q1, q2, _⟩ := idx k x g' h1 h2
    exact ⟨j, x, g', q1, q2, h3, h4⟩
  have st : Step base w σ γ w (σ.take base ++ [.arr ver sz es]) (γ.take base ++ [g]) :=
    ⟨rfl, rfl, rfl, Nat.le_refl _, fun b _ hn => ⟨rfl, fun h => hn (hown b h)⟩, hb, by simp; omega, fun k x g' hk hx' hg' => ⟨x, g', by rw [List.getElem?_append_left (by omega), List.getElem?_take_of_lt hk]; exact hx', by rw [List.getElem?_append_left (by omega), List.getElem?_take_of_lt hk]; exact hg', ObStep.refl x g'⟩⟩
  refine ⟨st, ⟨by simp [hl], I.fsz, fun k x g' h1 h2 => ?_, fun k x g' h1 h2 h3 => ?_, fun k k' x x' g1 g2 h1 h2 h3 h4 h5 h6 h7 => ?_⟩, fun b hbb hfb k x hk hxk => ?_⟩
  · rcases get k x g' h1 h2 with ⟨h, q1, q2⟩ | ⟨h, rfl, rfl⟩
    · exact (I.ok k x g' q1 q2).step st (hf k x h q1) fun _ => rfl
    · exact (I.ok o _ _ hx hg).step st rfl fun _ => rfl
  · obtain ⟨j, q1, q2, _⟩ := idx k x g' h1 h2
    exact I.own j x g' q1 q2 h3
  · obtain ⟨j, q1, q2, r1⟩ := idx k x g1 h1 h2
    obtain ⟨j', q1', q2', r2⟩ := idx k' x' g2 h4 h5
    have := I.inj j j' x x' g1 g2 q1 q2 h3 q1' q2' h6 h7
    omega
  · rw [List.getElem?_append_left (by omega), List.getElem?_take_of_lt (by omega)] at hxk
    exact hfb k x hk hxk
theorem fin_ok {w : World} {F : Nat → Prop} {base : Nat} {σ σr : St} {γ : List Gh} {own : Bool} {x r : AV} {v : Value} (I : Inv tab w F σ γ) (hb : base ≤ σ.length) (hf : FrameOk base σ) (hx : RS tab w F σ γ x v) (h : fin own base x σ = some (r, σr)) :
    ∃ γr, Step base w σ γ w σr γr ∧ Inv tab w F σr γr ∧ RS tab w F σr γr r v ∧ Fr base σ σr := by
  have takeR : ∀ (σ : St) (γ : List Gh) (y : AV), Inv tab w F σ γ → base ≤ σ.length → FrameOk base σ → RS tab w F σ γ y v → y.under base = true → ∃ γr, Step base w σ γ w (σ.take base) γr ∧ Inv tab w F (σ.take base) γr ∧ RS tab w F (σ.take base) γr y v ∧ Fr base σ (σ.take base) := by
    intro σ γ y I hb hf hx hu
    obtain ⟨h1, h2, h3⟩ := take_ok I hb hf
    exact ⟨_, h1, h2, hx.step h1 hu, h3 base (Nat.le_refl _)⟩
  unfold fin at h
  split at h
  · split at h
    · rename_i o ver n off len
      split at h
      · rename_i ho
        simp at h; obtain ⟨rfl, rfl⟩ := h
        exact takeR σ γ _ I hb hf hx (by simpa [AV.under] using ho)
      · rename_i ho
        split at h
        · rename_i v' sz es hobj
          simp at h; obtain ⟨rfl, rfl⟩ := h
          cases hx with
          | fz _ _ h => exact absurd h.noref (by simp [AV.noref])
          | osl _ _ _ _ _ _ hv h =>
            obtain ⟨y, g, h1, hg, h3⟩ := h
            rw [hobj] at h1; simp at h1; subst h1
            obtain ⟨q1, q2, q3⟩ := keep_one I hb hf (by omega) hobj hg
            have tl : (σ.take base).length = base := by simp; omega
            have tg : (γ.take base).length = base := by have := I.len; simp; omega
            exact ⟨_, q1, q2, .osl _ _ _ _ _ _ hv ⟨_, g, by rw [List.getElem?_append_right (by omega), tl]; simp; rfl, by rw [List.getElem?_append_right (by omega), tg]; simp, h3⟩, q3⟩
        · exact absurd h (by simp)
    · split at h
      · rename_i hn
        simp at h; obtain ⟨rfl, rfl⟩ := h
        exact takeR σ γ _ I hb hf hx (noref_under _ hn)
      · exact absurd h (by simp)
  · split at h
    · rename_i v' hfz
      have hl : ∀ o ∈ oslIn x, ∃ v sz es, σ[o]? = some (.arr v sz es) := fun o ho => frz_arr hfz ho
      obtain ⟨k1, k2, k3⟩ := killL_ok I hl
      have hr := frz_read I hl hx hfz (fun o ho => ho)
      rw [← kill_eq] at k1 k2 k3 hr
      split at h
      · rename_i hn
        simp at h; obtain ⟨rfl, rfl⟩ := h
        obtain ⟨γr, q1, q2, q3, q4⟩ := takeR (kill σ x) γ v' k2 (Nat.le_trans hb k1.l2) (k3 base base (Nat.le_refl _) hf) hr (noref_under _ hn)
        exact ⟨γr, (k1.mono hb).trans q1, q2, q3, (k3 base).trans q4⟩
      · simp at h; obtain ⟨rfl, rfl⟩ := h
        exact ⟨γ, k1.mono hb, k2, hr, k3 base⟩
    · exact absurd h (by simp)
def chkRess (P : Program) : List ResultVar → List ARes → Bool
  | [], [] => true
  | .tmp t :: r, .t t' :: s => t == t' && chkRess P r s
  | .cell t ty :: r, .cell t' ag sz :: s => t == t' && aggB P ty ag && szB P ty sz && chkRess P r s
  | _, _ => false
def readRes (tmps : Array Value) : ResultVar → Sem Value
  | .tmp t => pure (tmps.getD t undef)
  | .cell a t => do loadVar t (← asAddr (tmps.getD a undef))
theorem results_eq (fn : Func) (tmps : Array Value) : results fn tmps = (do
      let vs ← fn.results.mapM (readRes tmps)
      pure (if h : vs.size = 1 then vs[0] else .tuple vs)) := rfl
theorem res_ok {w : World} {F : Nat → Prop} {σ : St} {γ : List Gh} {env : Env} {tmps : Array Value} (I : Inv tab w F σ γ) (E : EnvOk tab w F σ γ env tmps) : ∀ {rs : List ResultVar} {as : List ARes} {xs : List AV}, chkRess P rs as = true → resVals env σ as = some xs →
    ∃ us : List Value, (rs.mapM (readRes tmps)).run P w = .ok us w ∧ ArgsOk tab w F σ γ xs us
  | [], [], xs, _, h => by simp [resVals] at h; subst h; exact ⟨[], by simp, rfl, by simp⟩
  | [], _ :: _, _, h, _ => by simp [chkRess] at h
  | .tmp _ :: _, [], _, h, _ => by simp [chkRess] at h
  | .cell .. :: _, [], _, h, _ => by simp [chkRess] at h
  | .tmp _ :: _, .cell .. :: _, _, h, _ => by simp [chkRess] at h
  | .cell .. :: _, .t _ :: _, _, h, _ => by simp [chkRess] at h
  | .tmp t :: rs, .t t' :: as, xs, hc, h => by
    simp only [chkRess, Bool.and_eq_true, beq_iff_eq] at hc
    obtain ⟨rfl, hc⟩ := hc
    simp only [resVals] at h
    obtain ⟨ys, hy, e⟩ := Option.map_eq_some_iff.1 h
    subst e
    obtain ⟨us, h1, h2, h3⟩ := res_ok I E hc hy
    refine ⟨tmps.getD t undef :: us, by simp only [List.mapM_cons, readRes, Sem.run_bind, Sem.run_pure, Result.andThen_ok, h1], by simp [h2], fun j x v hx hv => ?_⟩
    cases j with
    | zero => simp at hx hv; subst hx; subst hv; have := E t; simpa using this
    | succ j => exact h3 j x v (by simpa using hx) (by simpa using hv)
  | .cell t ty :: rs, .cell t' ag sz :: as, xs, hc, h => by
    simp only [chkRess, Bool.and_eq_true, beq_iff_eq] at hc
    obtain ⟨⟨⟨rfl, ha⟩, hz⟩, hc⟩ := hc
    simp only [resVals] at h
    split at h
    · rename_i cs tt ys hd hy
      obtain ⟨x, hx, e⟩ := Option.map_eq_some_iff.1 h
      subst e
      obtain ⟨us, h1, h2, h3⟩ := res_ok I E hc hy
      obtain ⟨b, off, hv, hcell⟩ := deref_ok I (E t) hd
      obtain ⟨u, hu, hr⟩ := run_loadVar_front ha hz hcell hx
      refine ⟨u :: us, by simp only [List.mapM_cons, readRes, Sem.run_bind, hv, asAddr, Sem.run_pure, Result.andThen_ok, hu, h1], by simp [h2], fun j x' v hx' hv' => ?_⟩
      cases j with
      | zero => simp at hx' hv'; subst hx'; subst hv'; exact hr
      | succ j => exact h3 j x' v (by simpa using hx') (by simpa using hv')
    · exact absurd h (by simp)
def chkFunc (P : Program) (tab : Nat → Nat) (f : FuncId) (F : AFunc) : Bool := match P.funcs[f]? with
  | some fn => (match fn.body with
    | some c => chkCode P tab fn.ntmps c F.body
    | none => false) && chkRess P fn.results.toList F.results && decide (F.nparams ≤ fn.ntmps) && fn.name != "runtime.NumGoroutine"
  | none => false
/-- The table holds what the program holds. -/
structure Link (P : Program) (tab : Nat → Nat) (G : Nat → Option AFunc) : Prop where
  mixed : P.follows .mixedOrders = true
  funcs : ∀ f F, G f = some F → chkFunc P tab (tab f) F = true
theorem Link.named {G : Nat → Option AFunc} (L : Link P tab G) : Named P tab G := by
  intro f F hF
  have := L.funcs f F hF
  unfold chkFunc at this
  unfold nameB
  split at this
  · rename_i fn hfn
    rw [hfn]
    simp only [Bool.and_eq_true] at this ⊢
    obtain ⟨⟨⟨h1, _⟩, _⟩, h4⟩ := this
    refine ⟨h4, ?_⟩
    cases hb : fn.body with
    | none => simp [hb] at h1
    | some c => rfl
  · exact absurd this (by simp)
theorem initEnv_get : ∀ (args : List AV) (k t : Nat), (initEnv k args).get t = if k ≤ t then (args[t - k]?).getD .dead else .dead
  | [], k, t => by simp [initEnv, Env.get]
  | x :: r, k, t => by
    simp only [initEnv, Env.get]
    by_cases e : k = t
    · subst e; simp
    · rw [if_neg e, initEnv_get r (k + 1) t]
      by_cases h : k ≤ t
      · rw [if_pos (by omega), if_pos h]
        have : t - k = (t - (k + 1)) + 1 := by omega
        rw [this]; simp
      · rw [if_neg (by omega), if_neg h]
theorem denN_ok {G : Nat → Option AFunc} (L : Link P tab G) : ∀ n, CallOk P tab (denN G n) := by
  intro n
  induction n with
  | zero => intro f args σ r σ' h; simp [denN] at h
  | succ n ih =>
    intro f args σ r σ' h w F γ vals I A
    have hG : ∀ f args σ r, denN G n f args σ = some r → ∃ F, G f = some F := by
      intro f args σ r h
      cases n with
      | zero => simp [denN] at h
      | succ n =>
        simp only [denN] at h
        cases hg : G f with
        | none => simp [hg] at h
        | some F => exact ⟨F, rfl⟩
    simp only [denN] at h
    cases hg : G f with
    | none => simp [hg] at h
    | some FF =>
      simp only [hg] at h
      split at h
      · rename_i hlen
        have hcf := L.funcs f FF hg
        unfold chkFunc at hcf
        split at hcf
        · rename_i fn hfn
          simp only [Bool.and_eq_true, decide_eq_true_eq] at hcf
          obtain ⟨⟨⟨hbody, hres⟩, hnp⟩, _⟩ := hcf
          cases hb : fn.body with
          | none => simp [hb] at hbody
          | some c =>
            simp only [hb] at hbody
            refine calls_of_wp hfn hb ?_
            have hal : vals.toArray.size = FF.nparams := by simp [A.1, hlen]
            have hsz : (vals.toArray ++ Array.replicate (fn.ntmps - vals.toArray.size) undef).size = fn.ntmps := by simp only [Array.size_append, Array.size_replicate]; omega
            have hframe : FrameOk σ.length σ := by
              intro o x ho hx
              have hgl : o < γ.length := by rw [I.len]; exact ho
              exact (I.ok o x γ[o] hx (List.getElem?_eq_getElem hgl)).under
            have hinit : EnvOk tab w F σ γ (initEnv 0 args) (vals.toArray ++ Array.replicate (fn.ntmps - vals.toArray.size) undef) := by
              intro t
              rw [initEnv_get]
              simp only [Nat.zero_le, if_true, Nat.sub_zero]
              cases hx : args[t]? with
              | none => exact .dead _
              | some x =>
                obtain ⟨v, hv⟩ := get_of_len A.1 hx
                have hlt := lt_of_get hv
                have : (vals.toArray ++ Array.replicate (fn.ntmps - vals.toArray.size) undef).getD t undef = v := by
                  rw [Array.getD_eq_getD_getElem?, Array.getElem?_append_left (by simpa using hlt)]
                  simp [hv]
                rw [this]
                exact A.2 t x v hx hv
            cases hx : exec (denN G n) n σ.length FF.body (initEnv 0 args) σ with
            | none => simp [hx, leave] at h
            | some q =>
              obtain ⟨e, env', σ1⟩ := q
              refine exec_ok ih hG L.named L.mixed c FF.body hbody hx (a := { tmps := _, defers := [] }) ⟨I, hinit, Nat.le_refl _, hframe⟩ hsz fun a' w' γ' g S' hs' hd' => ?_
              rw [hx] at h
              have key : ∀ (env' : Env) (σ1 : St), (match resVals env' σ1 FF.results with
                  | some vs => fin FF.own σ.length (oneOf vs) σ1
                  | none => none) = some (r, σ') → Goes σ.length w σ γ w' σ1 γ' → Fst tab F σ.length w' σ1 γ' env' a'.tmps → a'.defers = [] ∧ ∃ v, (results fn a'.tmps).run P w' = .ok v w' ∧ CallPost tab F w σ γ r σ' (.returned v) w' := by
                intro env' σ1 h g S'
                cases hr : resVals env' σ1 FF.results with
                | none => simp [hr] at h
                | some xs =>
                  simp only [hr] at h
                  obtain ⟨us, hus, hA⟩ := res_ok S'.inv S'.env hres hr
                  have hrun : (results fn a'.tmps).run P w' = .ok (if hh : us.toArray.size = 1 then us.toArray[0] else .tuple us.toArray) w' := by
                    rw [results_eq, Array.mapM_eq_mapM_toList]
                    simp only [Sem.run_bind, Sem.run_map, hus, Result.andThen_ok, Sem.run_pure]
                  have hval : RS tab w' F σ1 γ' (oneOf xs) (if hh : us.toArray.size = 1 then us.toArray[0] else .tuple us.toArray) := by
                    by_cases h1 : us.length = 1
                    · obtain ⟨u, rfl⟩ := List.length_eq_one_iff.1 h1
                      obtain ⟨x, rfl⟩ := List.length_eq_one_iff.1 (hA.1.symm.trans h1)
                      simpa [oneOf] using hA.2 0 x u rfl rfl
                    · have e1 : ¬ us.toArray.size = 1 := by simpa using h1
                      rw [dif_neg e1]
                      have e2 : oneOf xs = .tup xs := by
                        cases xs with
                        | nil => rfl
                        | cons x r =>
                          cases r with
                          | nil => exact absurd hA.1 (by simpa using h1)
                          | cons => rfl
                      rw [e2]
                      exact .tup xs us hA.1 hA.2
                  obtain ⟨γr, q1, q2, q3, q4⟩ := fin_ok S'.inv S'.hb S'.frame hval h
                  exact ⟨hd', _, hrun, _, γr, rfl, g.step.trans q1, q2, q3, g.fr.trans q4⟩
              cases e with
              | normal => exact key env' σ1 h g S'
              | ret => exact key env' σ1 h g S'
              | exit i => simp [leave] at h
        · exact absurd hcf (by simp)
      · exact absurd h (by simp)
/-- WHAT A CALL COMES TO BY THE ABSTRACT EVALUATOR IT COMES TO BY THE MACHINE. -/
theorem Den_calls {G : Nat → Option AFunc} (L : Link P tab G) {f : Nat} {args : List AV} {r : AV} (h : Den G f args [] = some (r, [])) (hn0 : r.noref = true) {w : World} {vals : List Value} (hl : vals.length = args.length)
    (hA : ∀ (j : Nat) (x : AV) (v : Value), args[j]? = some x → vals[j]? = some v → RF tab w (fun b => b < w.heap.size) x v) :
    Calls P (tab f) vals.toArray w fun e w' => ∃ v, e = .returned v ∧ RF tab w' (fun b => b < w'.heap.size) r v ∧ RowKit.Below w.heap.size w w' := by
  obtain ⟨n, hn⟩ := (Den_iff G).1 h
  have hS : ∀ {w : World} {b : Nat}, Stab w (fun _ => False) [] [] b ↔ b < w.heap.size := by
    intro w b
    exact ⟨fun h => h.1, fun h => ⟨h, id, by rintro ⟨o, x, g, hx, _⟩; simp at hx⟩⟩
  refine Calls.mono (denN_ok L n f args [] r [] hn w (fun _ => False) [] vals (inv_empty fun _ h => h.elim) ⟨hl, fun j x v hx hv => .fz _ _ ((hA j x v hx hv).iffS fun b hb => hS.2 hb)⟩) ?_
  rintro e w' ⟨v, γ', rfl, st, J, hr, _⟩
  have hγ : γ' = [] := List.eq_nil_of_length_eq_zero (by simpa using J.len)
  subst hγ
  refine ⟨v, rfl, (hr.frozen hn0).iffS fun b hb => hb.1, st.os, st.tape, st.output, st.size, fun b hb => (st.keep b hb (by rintro ⟨o, x, g, hx, _⟩; simp at hx)).1⟩
#print axioms Den_calls
end
end Go.Den
