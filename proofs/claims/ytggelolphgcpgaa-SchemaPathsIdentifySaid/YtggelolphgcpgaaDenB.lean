/- The evaluator without a bound on its rounds, and the equations that it obeys. -/
import Derived.Test.YtggelolphgcpgaaDenA
namespace Go.Den
open Go

def Mono {α : Type} (f : Nat → Option α) : Prop := ∀ n a, f n = some a → ∀ m, n ≤ m → f m = some a
open Classical in
noncomputable def lim {α : Type} (f : Nat → Option α) : Option α := if h : ∃ n a, f n = some a then f (Classical.choose h) else none
theorem lim_iff {α : Type} {f : Nat → Option α} (hf : Mono f) {a : α} : lim f = some a ↔ ∃ n, f n = some a := by
  unfold lim
  constructor
  · intro h
    split at h
    · exact ⟨_, h⟩
    · exact absurd h (by simp)
  · rintro ⟨n, hn⟩
    have h : ∃ n a, f n = some a := ⟨n, a, hn⟩
    rw [dif_pos h]
    obtain ⟨b, hb⟩ := Classical.choose_spec h
    rcases Nat.le_total n (Classical.choose h) with hl | hl
    · exact hf _ _ hn _ hl
    · have := hf _ _ hb _ hl
      rw [hn] at this
      rw [hb]; exact this.symm
theorem lim_const {α : Type} (x : Option α) : lim (fun _ => x) = x := by
  cases x with
  | none =>
    unfold lim
    rw [dif_neg (by simp)]
  | some a => exact (lim_iff (by intro n b h m _; exact h)).2 ⟨0, rfl⟩
theorem opt_ext {α : Type} {x y : Option α} (h : ∀ a, x = some a ↔ y = some a) : x = y := by
  cases x with
  | none => cases y with
    | none => rfl
    | some b => exact absurd ((h b).2 rfl) (by simp)
  | some a => exact ((h a).1 rfl).symm
theorem Mono.bind {α β : Type} {f : Nat → Option α} {g : Nat → α → Option β} (hf : Mono f) (hg : ∀ x, Mono fun n => g n x) : Mono fun n => (f n).bind (g n) := by
  intro n b h m hm
  cases hx : f n with
  | none => simp [hx] at h
  | some x =>
    simp [hx] at h
    simp [hf n x hx m hm, hg x n b h m hm]
theorem lim_bind {α β : Type} {f : Nat → Option α} {g : Nat → α → Option β} (hf : Mono f) (hg : ∀ x, Mono fun n => g n x) :
    lim (fun n => (f n).bind (g n)) = (lim f).bind fun x => lim fun n => g n x := by
  apply opt_ext
  intro b
  rw [lim_iff (hf.bind hg)]
  constructor
  · rintro ⟨n, h⟩
    cases hx : f n with
    | none => simp [hx] at h
    | some x =>
      simp [hx] at h
      rw [(lim_iff hf).2 ⟨n, hx⟩]
      simp
      exact (lim_iff (hg x)).2 ⟨n, h⟩
  · intro h
    cases hx : lim f with
    | none => simp [hx] at h
    | some x =>
      simp [hx] at h
      obtain ⟨n, hn⟩ := (lim_iff hf).1 hx
      obtain ⟨m, hm⟩ := (lim_iff (hg x)).1 h
      refine ⟨n + m, ?_⟩
      rw [hf n x hn (n + m) (by omega)]
      exact hg x m b hm (n + m) (by omega)
theorem lim_cofinal {α : Type} {f h : Nat → Option α} (hf : Mono f) (hh : Mono h) (h1 : ∀ n a, f n = some a → ∃ m, h m = some a) (h2 : ∀ n a, h n = some a → ∃ m, f m = some a) : lim f = lim h := by
  apply opt_ext
  intro a
  rw [lim_iff hf, lim_iff hh]
  exact ⟨fun ⟨n, hn⟩ => h1 n a hn, fun ⟨n, hn⟩ => h2 n a hn⟩

abbrev CallF := Nat → List AV → St → Option (AV × St)
def CLe (c d : CallF) : Prop := ∀ f a s r, c f a s = some r → d f a s = some r

theorem callOp_bind (call : CallF) (mode f : Nat) (args : List AV) (σ : St) : callOp call mode f args σ =
    (if mode = 1 then some (args, σ) else if mode = 2 then (frzs σ args).map (fun a => (a, kills σ args)) else some (norms args, σ)).bind fun p =>
      if norefs p.1 = true then (call f p.1 []).bind fun q => if q.1.noref && q.2.isEmpty then some (q.1, p.2, mode == 2) else some (q.1.shift p.2.length, p.2 ++ shiftSt p.2.length q.2, true)
      else (call f p.1 p.2).bind fun q => some (q.1, q.2, true) := by
  unfold callOp
  generalize (if mode = 1 then some (args, σ) else if mode = 2 then (frzs σ args).map (fun a => (a, kills σ args)) else some (norms args, σ)) = o
  cases o with
  | none => rfl
  | some p =>
    obtain ⟨as, s1⟩ := p
    simp only [Option.bind_some]
    split
    · cases call f as [] with
      | none => rfl
      | some q => rfl
    · cases call f as s1 with
      | none => rfl
      | some q => rfl
theorem callOp_mono {c d : CallF} (h : CLe c d) {mode f : Nat} {args : List AV} {σ : St} {r} (hr : callOp c mode f args σ = some r) : callOp d mode f args σ = some r := by
  rw [callOp_bind] at hr ⊢
  generalize (if mode = 1 then some (args, σ) else if mode = 2 then (frzs σ args).map (fun a => (a, kills σ args)) else some (norms args, σ)) = o at hr ⊢
  cases o with
  | none => simp at hr
  | some p =>
    simp only [Option.bind_some] at hr ⊢
    split at hr
    · rename_i hn
      rw [if_pos hn]
      cases hq : c f p.1 [] with
      | none => simp [hq] at hr
      | some q => rw [hq] at hr; rw [h _ _ _ _ hq]; exact hr
    · rename_i hn
      rw [if_neg hn]
      cases hq : c f p.1 p.2 with
      | none => simp [hq] at hr
      | some q => rw [hq] at hr; rw [h _ _ _ _ hq]; exact hr
theorem callX_mono {c d : CallF} (h : CLe c d) {mode f : Nat} {args : List AV} {σ : St} {r} (hr : callX c mode f args σ = some r) : callX d mode f args σ = some r := by
  unfold callX at hr ⊢
  split at hr
  · rename_i hm
    rw [if_pos hm]
    unfold viewOp at hr ⊢
    split at hr
    case isFalse => exact absurd hr (by simp)
    rename_i hlen
    rw [if_pos hlen]
    cases hf : frzs σ args with
    | none => simp [hf] at hr
    | some as =>
      rw [hf] at hr
      simp only [Option.bind_some] at hr ⊢
      split at hr
      · rename_i hn
        rw [if_pos hn]
        cases hq : c f as [] with
        | none => simp [hq] at hr
        | some q => rw [hq] at hr; rw [h _ _ _ _ hq]; exact hr
      · exact absurd hr (by simp)
  · rename_i hm
    rw [if_neg hm]
    exact callOp_mono h hr
theorem stepC_mono {c d : CallF} (h : CLe c d) {base : Nat} {op : AOp} {env : Env} {σ : St} {r} (hr : stepC c base op env σ = some r) : stepC d base op env σ = some r := by
  cases op <;> try exact hr
  case call mode f args => exact callX_mono h hr
  case callv x args =>
    simp only [stepC] at hr ⊢
    split at hr
    · exact callOp_mono h hr
    · exact absurd hr (by simp)
theorem runOps_mono {c d : CallF} (h : CLe c d) {base : Nat} : ∀ (ops : List AOper) {env : Env} {σ : St} {r}, runOps c base ops env σ = some r → runOps d base ops env σ = some r
  | [], _, _, _, hr => hr
  | o :: ops, env, σ, r, hr => by
    simp only [runOps] at hr ⊢
    split at hr
    · rename_i hw
      split at hr
      · rename_i hs
        rw [stepC_mono h hs]
        exact runOps_mono h ops hr
      · exact absurd hr (by simp)
    · exact runOps_mono h ops hr
    · exact absurd hr (by simp)
theorem runD_mono {c d : CallF} (h : CLe c d) {base : Nat} : ∀ (ops : List AOper) {i : Nat} {env : Env} {σ : St} {T : List (Nat × Foot)} {r}, runD c base ops i env σ T = some r → runD d base ops i env σ T = some r
  | [], _, _, _, _, _, hr => hr
  | o :: ops, i, env, σ, T, r, hr => by
    simp only [runD] at hr ⊢
    split at hr
    · rename_i hw
      split at hr
      · rename_i hs
        rw [stepC_mono h hs]
        exact runD_mono h ops hr
      · exact absurd hr (by simp)
    · exact runD_mono h ops hr
    · exact absurd hr (by simp)
theorem iter_mono {g : Env → St → Option (Env × St)} {f f' : Env → St → Res} (h : ∀ e s r, f e s = some r → f' e s = some r) :
    ∀ (n m : Nat) {env : Env} {σ : St} {r}, n ≤ m → iter g f n env σ = some r → iter g f' m env σ = some r
  | 0, _, _, _, _, _, hr => absurd hr (by simp [iter])
  | n + 1, 0, _, _, _, hm, _ => absurd hm (by omega)
  | n + 1, m + 1, env, σ, r, hm, hr => by
    simp only [iter] at hr ⊢
    split at hr
    · exact absurd hr (by simp)
    · split at hr
      · exact absurd hr (by simp)
      · rename_i hf
        rw [h _ _ _ hf]
        exact iter_mono h n m (by omega) hr
      · rename_i r' hne hf
        rw [h _ _ _ hf]
        obtain ⟨x, e', s'⟩ := r'
        cases x with
        | normal => exact (hne _ _ rfl).elim
        | exit i => exact hr
        | ret => exact hr
theorem exec_mono {c d : CallF} (h : CLe c d) {n m : Nat} (hm : n ≤ m) {base : Nat} : ∀ (co : ACode) {env : Env} {σ : St} {r}, exec c n base co env σ = some r → exec d m base co env σ = some r := by
  intro co
  induction co with
  | skip => intro env σ r hr; exact hr
  | exit id => intro env σ r hr; exact hr
  | ret => intro env σ r hr; exact hr
  | region ops live =>
    intro env σ r hr
    simp only [exec] at hr ⊢
    split at hr
    · rename_i hs; rw [runOps_mono h ops hs]; exact hr
    · exact absurd hr (by simp)
  | dregion ops unord live =>
    intro env σ r hr
    simp only [exec] at hr ⊢
    split at hr
    · rename_i hs; rw [runD_mono h ops hs]; exact hr
    · exact absurd hr (by simp)
  | xregion res ops unord live =>
    intro env σ r hr
    simp only [exec] at hr ⊢
    split at hr
    · rename_i hs; rw [runD_mono h ops hs]; exact hr
    · exact absurd hr (by simp)
  | seq a b iha ihb =>
    intro env σ r hr
    simp only [exec] at hr ⊢
    cases ha : exec c n base a env σ with
    | none => simp [ha] at hr
    | some x =>
      rw [iha ha]
      rw [ha] at hr
      obtain ⟨e, e', s'⟩ := x
      cases e with
      | normal => exact ihb hr
      | exit i => exact hr
      | ret => exact hr
  | cond cc a b iha ihb =>
    intro env σ r hr
    simp only [exec] at hr ⊢
    split at hr
    · split at hr
      · rename_i ht; simp only [ht, if_true]; exact iha hr
      · rename_i ht; simp only [ht]; exact ihb hr
    · exact absurd hr (by simp)
  | block id cc ih =>
    intro env σ r hr
    simp only [exec] at hr ⊢
    cases ha : exec c n base cc env σ with
    | none => simp [ha] at hr
    | some x => rw [ih ha]; rw [ha] at hr; exact hr
  | loop keep live cc ih =>
    intro env σ r hr
    simp only [exec] at hr ⊢
    exact iter_mono (fun e s r hr => ih hr) n m hm hr
theorem leave_mono {F : AFunc} {base : Nat} {x y : Res} (h : ∀ r, x = some r → y = some r) {r} (hr : leave F base x = some r) : leave F base y = some r := by
  cases x with
  | none => simp [leave] at hr
  | some x => rw [h x rfl]; exact hr
theorem both_some {x y : Option (AV × St)} {r : AV × St} (h : both x y = some r) : x = some r ∧ ∃ q, y = some q ∧ r.1.alike q.1 = true ∧ alikes r.2 q.2 = true := by
  unfold both at h
  split at h
  · split at h
    · rename_i h1
      simp only [Bool.and_eq_true] at h1
      simp at h; subst h
      exact ⟨rfl, _, rfl, h1.1, h1.2⟩
    · exact absurd h (by simp)
  · exact absurd h (by simp)
theorem both_ok {x y : AV × St} (h1 : x.1.alike y.1 = true) (h2 : alikes x.2 y.2 = true) : both (some x) (some y) = some x := by
  simp [both, h1, h2]
theorem twice_mono {own : OwnK} {f g : List AV → Option (AV × St)} (h : ∀ as r, f as = some r → g as = some r) {args : List AV} {r} (hr : twice own f args = some r) : twice own g args = some r := by
  unfold twice at hr ⊢
  split at hr
  · obtain ⟨h1, q, h2, h3, h4⟩ := both_some hr
    rw [h _ _ h1, h _ _ h2]
    exact both_ok h3 h4
  · obtain ⟨h1, q, h2, h3, h4⟩ := both_some hr
    rw [h _ _ h1, h _ _ h2]
    exact both_ok h3 h4
  · exact h _ _ hr
theorem denN_succ (G : Nat → Option AFunc) (n : Nat) : CLe (denN G n) (denN G (n + 1)) := by
  induction n with
  | zero => intro f a s r hr; simp [denN] at hr
  | succ n ih =>
    intro f a s r hr
    unfold denN at hr ⊢
    cases hF : G f with
    | none => simp [hF] at hr
    | some F =>
      simp only [hF] at hr ⊢
      split at hr
      · rename_i hl
        rw [if_pos hl]
        exact twice_mono (fun as r hr => leave_mono (fun r hr => exec_mono ih (by omega) _ hr) hr) hr
      · exact absurd hr (by simp)
theorem denN_le (G : Nat → Option AFunc) {n m : Nat} (h : n ≤ m) : CLe (denN G n) (denN G m) := by
  induction h with
  | refl => exact fun _ _ _ _ h => h
  | step _ ih => exact fun f a s r hr => denN_succ G _ f a s r (ih f a s r hr)

variable (G : Nat → Option AFunc)
/-- What a call comes to, if it comes to an end. -/
noncomputable def Den (f : Nat) (args : List AV) (σ : St) : Option (AV × St) := lim fun n => denN G n f args σ
noncomputable def Run (base : Nat) (c : ACode) (env : Env) (σ : St) : Res := lim fun n => exec (denN G n) n base c env σ
theorem den_mono (f : Nat) (args : List AV) (σ : St) : Mono fun n => denN G n f args σ := fun _ _ h _ hm => denN_le G hm _ _ _ _ h
theorem run_mono (base : Nat) (c : ACode) (env : Env) (σ : St) : Mono fun n => exec (denN G n) n base c env σ := fun _ _ h _ hm => exec_mono (denN_le G hm) hm _ h
theorem den_le (n : Nat) : CLe (denN G n) (Den G) := fun f a s _ h => (lim_iff (den_mono G f a s)).2 ⟨n, h⟩
theorem Den_iff {f : Nat} {args : List AV} {σ : St} {r} : Den G f args σ = some r ↔ ∃ n, denN G n f args σ = some r := lim_iff (den_mono G f args σ)

theorem lim_callOp (mode f : Nat) (args : List AV) (σ : St) : lim (fun n => callOp (denN G n) mode f args σ) = callOp (Den G) mode f args σ := by
  simp only [callOp_bind]
  generalize (if mode = 1 then some (args, σ) else if mode = 2 then (frzs σ args).map (fun a => (a, kills σ args)) else some (norms args, σ)) = o
  cases o with
  | none => exact lim_const _
  | some p =>
    simp only [Option.bind_some]
    by_cases hn : norefs p.1 = true
    · simp only [hn, if_true]
      rw [lim_bind (f := fun n => denN G n f p.1 []) (g := fun _ q => if q.1.noref && q.2.isEmpty then some (q.1, p.2, mode == 2) else some (q.1.shift p.2.length, p.2 ++ shiftSt p.2.length q.2, true)) (den_mono G f p.1 []) (fun x n b h m _ => h)]
      simp only [lim_const]; rfl
    · simp only [hn, if_false, Bool.false_eq_true]
      rw [lim_bind (f := fun n => denN G n f p.1 p.2) (g := fun _ q => some (q.1, q.2, true)) (den_mono G f p.1 p.2) (fun x n b h m _ => h)]
      simp only [lim_const]; rfl
theorem lim_callX (mode f : Nat) (args : List AV) (σ : St) : lim (fun n => callX (denN G n) mode f args σ) = callX (Den G) mode f args σ := by
  unfold callX
  split
  · unfold viewOp
    split
    case isFalse => exact lim_const _
    cases frzs σ args with
    | none => exact lim_const _
    | some as =>
      simp only [Option.bind_some]
      split
      · rw [lim_bind (f := fun n => denN G n f as []) (g := fun _ q => if q.1.bare && q.2.isEmpty then some (q.1, σ, !(oslIns args).isEmpty) else none) (den_mono G f as []) (fun x n b h m _ => h)]
        simp only [lim_const]; rfl
      · exact lim_const _
  · exact lim_callOp G mode f args σ
theorem stepC_monoN (base : Nat) (op : AOp) (env : Env) (σ : St) : Mono fun n => stepC (denN G n) base op env σ := fun _ _ h _ hm => stepC_mono (denN_le G hm) h
theorem lim_stepC (base : Nat) (op : AOp) (env : Env) (σ : St) : lim (fun n => stepC (denN G n) base op env σ) = stepC (Den G) base op env σ := by
  cases op <;> try exact lim_const _
  case call mode f args => exact lim_callX G mode f (evs env args) σ
  case callv x args =>
    show lim (fun n => match ev env x with
      | .fn f caps => callOp (denN G n) 0 f (evs env args ++ caps) σ
      | _ => none) = match ev env x with
      | .fn f caps => callOp (Den G) 0 f (evs env args ++ caps) σ
      | _ => none
    cases ev env x <;> first | exact lim_const _ | exact lim_callOp G 0 _ _ σ
theorem lim_runOps (base : Nat) : ∀ (ops : List AOper) (env : Env) (σ : St), lim (fun n => runOps (denN G n) base ops env σ) = runOps (Den G) base ops env σ
  | [], env, σ => lim_const _
  | o :: ops, env, σ => by
    simp only [runOps]
    cases hw : wanted env o.guard with
    | none => exact lim_const _
    | some b =>
      cases b with
      | false => exact lim_runOps base ops _ _
      | true =>
        simp only []
        have e : ∀ (c : CallF), (match stepC c base o.op env σ with
            | some (v, σ', _) => runOps c base ops (env.put o.dst v) σ'
            | none => none) = (stepC c base o.op env σ).bind fun x => runOps c base ops (env.put o.dst x.1) x.2.1 := by
          intro c; cases stepC c base o.op env σ <;> rfl
        refine (congrArg lim (funext fun n => e (denN G n))).trans (Eq.trans ?_ (e (Den G)).symm)
        rw [lim_bind (f := fun n => stepC (denN G n) base o.op env σ) (g := fun n x => runOps (denN G n) base ops (env.put o.dst x.1) x.2.1) (stepC_monoN G base o.op env σ) (fun x n b h m hm => runOps_mono (denN_le G hm) ops h), lim_stepC]
        congr 1
        funext x
        exact lim_runOps base ops _ _
theorem lim_runD (base : Nat) : ∀ (ops : List AOper) (i : Nat) (env : Env) (σ : St) (T : List (Nat × Foot)), lim (fun n => runD (denN G n) base ops i env σ T) = runD (Den G) base ops i env σ T
  | [], i, env, σ, T => lim_const _
  | o :: ops, i, env, σ, T => by
    simp only [runD]
    cases hw : wanted env o.guard with
    | none => exact lim_const _
    | some b =>
      cases b with
      | false => exact lim_runD base ops _ _ _ _
      | true =>
        simp only []
        have e : ∀ (c : CallF), (match stepC c base o.op env σ with
            | some (v, σ', t) => runD c base ops (i + 1) (env.put o.dst v) σ' (if t = true then (i, footOf o.op env σ.length) :: T else T)
            | none => none) = (stepC c base o.op env σ).bind fun x => runD c base ops (i + 1) (env.put o.dst x.1) x.2.1 (if x.2.2 = true then (i, footOf o.op env σ.length) :: T else T) := by
          intro c; cases stepC c base o.op env σ <;> rfl
        refine (congrArg lim (funext fun n => e (denN G n))).trans (Eq.trans ?_ (e (Den G)).symm)
        rw [lim_bind (f := fun n => stepC (denN G n) base o.op env σ) (g := fun n x => runD (denN G n) base ops (i + 1) (env.put o.dst x.1) x.2.1 (if x.2.2 = true then (i, footOf o.op env σ.length) :: T else T)) (stepC_monoN G base o.op env σ) (fun x n b h m hm => runD_mono (denN_le G hm) ops h), lim_stepC]
        congr 1
        funext x
        exact lim_runD base ops _ _ _ _

theorem Run_skip (base : Nat) (env : Env) (σ : St) : Run G base .skip env σ = some (.normal, env, σ) := lim_const _
theorem Run_exit (base id : Nat) (env : Env) (σ : St) : Run G base (.exit id) env σ = some (.exit id, env, σ) := lim_const _
theorem Run_ret (base : Nat) (env : Env) (σ : St) : Run G base .ret env σ = some (.ret, env, σ) := lim_const _
theorem Run_region (base : Nat) (ops : List AOper) (live : List Nat) (env : Env) (σ : St) : Run G base (.region ops live) env σ =
    (runOps (Den G) base ops env σ).bind fun x => some (.normal, prune live x.1, x.2) := by
  unfold Run
  have e : ∀ n, exec (denN G n) n base (.region ops live) env σ = (runOps (denN G n) base ops env σ).bind fun x => some (.normal, prune live x.1, x.2) := by
    intro n; simp only [exec]; cases runOps (denN G n) base ops env σ <;> rfl
  simp only [e]
  rw [lim_bind (f := fun n => runOps (denN G n) base ops env σ) (g := fun _ x => some (Ex.normal, prune live x.1, x.2)) (fun n b h m hm => runOps_mono (denN_le G hm) ops h) (fun x n b h m _ => h), lim_runOps]
  simp only [lim_const]
theorem Run_dregion (base : Nat) (ops : List AOper) (unord : List (Nat × Nat)) (live : List Nat) (env : Env) (σ : St) : Run G base (.dregion ops unord live) env σ =
    (runD (Den G) base ops 0 env σ []).bind fun x => if drawOk x.2.2 unord then some (.normal, prune live x.1, x.2.1) else none := by
  unfold Run
  have e : ∀ n, exec (denN G n) n base (.dregion ops unord live) env σ = (runD (denN G n) base ops 0 env σ []).bind fun x => if drawOk x.2.2 unord then some (.normal, prune live x.1, x.2.1) else none := by
    intro n; simp only [exec]; cases runD (denN G n) base ops 0 env σ [] <;> rfl
  simp only [e]
  rw [lim_bind (f := fun n => runD (denN G n) base ops 0 env σ []) (g := fun _ x => if drawOk x.2.2 unord then some (Ex.normal, prune live x.1, x.2.1) else none) (fun n b h m hm => runD_mono (denN_le G hm) ops h) (fun x n b h m _ => h), lim_runD]
  simp only [lim_const]
theorem Run_xregion (base res : Nat) (ops : List AOper) (unord : List (Nat × Nat)) (live : List Nat) (env : Env) (σ : St) : Run G base (.xregion res ops unord live) env σ =
    (runD (Den G) base ops 0 env (σ ++ List.replicate res Ob.res) []).bind fun x => if xOk x.2.2 unord && allFeet x.2.2 then some (.normal, prune live x.1, x.2.1) else none := by
  unfold Run
  have e : ∀ n, exec (denN G n) n base (.xregion res ops unord live) env σ = (runD (denN G n) base ops 0 env (σ ++ List.replicate res Ob.res) []).bind fun x => if xOk x.2.2 unord && allFeet x.2.2 then some (.normal, prune live x.1, x.2.1) else none := by
    intro n; simp only [exec]; cases runD (denN G n) base ops 0 env (σ ++ List.replicate res Ob.res) [] <;> rfl
  simp only [e]
  rw [lim_bind (f := fun n => runD (denN G n) base ops 0 env (σ ++ List.replicate res Ob.res) []) (g := fun _ x => if xOk x.2.2 unord && allFeet x.2.2 then some (Ex.normal, prune live x.1, x.2.1) else none) (fun n b h m hm => runD_mono (denN_le G hm) ops h) (fun x n b h m _ => h), lim_runD]
  simp only [lim_const]
/-- What follows in a sequence. -/
noncomputable def next (base : Nat) (b : ACode) : Ex × Env × St → Res
  | (.normal, e, s) => Run G base b e s
  | r => some r
theorem Run_seq (base : Nat) (a b : ACode) (env : Env) (σ : St) : Run G base (.seq a b) env σ = (Run G base a env σ).bind (next G base b) := by
  have e : ∀ n, exec (denN G n) n base (.seq a b) env σ = (exec (denN G n) n base a env σ).bind fun x => match x with
      | (.normal, e, s) => exec (denN G n) n base b e s
      | r => some r := by
    intro n; simp only [exec]
    cases exec (denN G n) n base a env σ with
    | none => rfl
    | some x => obtain ⟨x, e', s'⟩ := x; cases x <;> rfl
  show lim (fun n => exec (denN G n) n base (.seq a b) env σ) = _
  simp only [e]
  rw [lim_bind (f := fun n => exec (denN G n) n base a env σ) (g := fun n x => match x with
      | (.normal, e, s) => exec (denN G n) n base b e s
      | r => some r) (run_mono G base a env σ) ?_]
  · show (Run G base a env σ).bind _ = _
    congr 1
    funext x
    obtain ⟨x, e', s'⟩ := x
    cases x with
    | normal => rfl
    | exit i => exact lim_const _
    | ret => exact lim_const _
  · intro x n b' h m hm
    obtain ⟨x, e', s'⟩ := x
    cases x with
    | normal => exact run_mono G base b e' s' n b' h m hm
    | exit i => exact h
    | ret => exact h
theorem Run_cond (base : Nat) (c : Opd) (a b : ACode) (env : Env) (σ : St) : Run G base (.cond c a b) env σ =
    match ev env c with
    | .bool t => if t then Run G base a env σ else Run G base b env σ
    | _ => none := by
  unfold Run
  simp only [exec]
  cases ev env c with
  | bool t => cases t <;> rfl
  | _ => exact lim_const _
/-- An exit out of a block. -/
def outOf (id : Nat) : Ex × Env × St → Res
  | (.exit i, e, s) => if i = id then some (.normal, e, s) else some (.exit i, e, s)
  | r => some r
theorem Run_block (base id : Nat) (c : ACode) (env : Env) (σ : St) : Run G base (.block id c) env σ = (Run G base c env σ).bind (outOf id) := by
  unfold Run
  have e : ∀ n, exec (denN G n) n base (.block id c) env σ = (exec (denN G n) n base c env σ).bind (outOf id) := by
    intro n; simp only [exec]
    cases exec (denN G n) n base c env σ with
    | none => rfl
    | some x => obtain ⟨x, e', s'⟩ := x; cases x <;> rfl
  simp only [e]
  rw [lim_bind (f := fun n => exec (denN G n) n base c env σ) (g := fun _ => outOf id) (run_mono G base c env σ) (fun x n b h m _ => h)]
  simp only [lim_const]
/-- What follows a round. -/
noncomputable def again (base keep : Nat) (live : List Nat) (c : ACode) : Ex × Env × St → Res
  | (.normal, e, s) => Run G base (.loop keep live c) e s
  | r => some r
theorem Run_loop (base keep : Nat) (live : List Nat) (c : ACode) (env : Env) (σ : St) : Run G base (.loop keep live c) env σ =
    (gc base keep live env σ).bind fun x => (Run G base c x.1 x.2).bind (again G base keep live c) := by
  let it := fun (a b : Nat) (e : Env) (s : St) => iter (gc base keep live) (exec (denN G a) a base c) b e s
  have itm : ∀ a a' b b' e s r, a ≤ a' → b ≤ b' → it a b e s = some r → it a' b' e s = some r :=
    fun a a' b b' e s r ha hb h => iter_mono (fun e s r h => exec_mono (denN_le G ha) ha c h) b b' hb h
  have diag : ∀ e s, Mono fun n => it n n e s := fun e s n r h m hm => itm _ _ _ _ e s r hm hm h
  have off : ∀ e s, Mono fun n => it (n + 1) n e s := fun e s n r h m hm => itm _ _ _ _ e s r (by omega) hm h
  have L : ∀ e s, Run G base (.loop keep live c) e s = lim fun n => it n n e s := fun e s => rfl
  have L' : ∀ e s, (lim fun n => it (n + 1) n e s) = Run G base (.loop keep live c) e s := fun e s => by
    rw [L]
    exact lim_cofinal (off e s) (diag e s) (fun n r h => ⟨n + 1, itm _ _ _ _ e s r (by omega) (by omega) h⟩) (fun n r h => ⟨n, itm _ _ _ _ e s r (by omega) (by omega) h⟩)
  have L2 : (lim fun n => it n n env σ) = lim fun n => it (n + 1) (n + 1) env σ :=
    lim_cofinal (diag env σ) (fun n r h m hm => itm _ _ _ _ env σ r (by omega) (by omega) h) (fun n r h => ⟨n, itm _ _ _ _ env σ r (by omega) (by omega) h⟩) (fun n r h => ⟨n + 1, h⟩)
  rw [L, L2]
  have e : ∀ n, it (n + 1) (n + 1) env σ = (gc base keep live env σ).bind fun x => (exec (denN G (n + 1)) (n + 1) base c x.1 x.2).bind fun y => match y with
      | (.normal, e, s) => it (n + 1) n e s
      | r => some r := by
    intro n
    simp only [it, iter]
    cases gc base keep live env σ with
    | none => rfl
    | some x =>
      obtain ⟨e1, s1⟩ := x
      simp only [Option.bind_some]
      cases exec (denN G (n + 1)) (n + 1) base c e1 s1 with
      | none => rfl
      | some y => obtain ⟨y, e', s'⟩ := y; cases y <;> rfl
  simp only [e]
  cases hg : gc base keep live env σ with
  | none => exact lim_const _
  | some x =>
    simp only [Option.bind_some]
    rw [lim_bind (f := fun n => exec (denN G (n + 1)) (n + 1) base c x.1 x.2) (g := fun n y => match y with
      | (.normal, e, s) => it (n + 1) n e s
      | r => some r) (fun n r h m hm => run_mono G base c x.1 x.2 (n + 1) r h (m + 1) (by omega)) ?_]
    · have e1 : (lim fun n => exec (denN G (n + 1)) (n + 1) base c x.1 x.2) = Run G base c x.1 x.2 :=
        lim_cofinal (fun n r h m hm => run_mono G base c x.1 x.2 (n + 1) r h (m + 1) (by omega)) (run_mono G base c x.1 x.2) (fun n r h => ⟨n + 1, h⟩) (fun n r h => ⟨n, run_mono G base c x.1 x.2 n r h (n + 1) (by omega)⟩)
      rw [e1]
      congr 1
      funext y
      obtain ⟨y, e', s'⟩ := y
      cases y with
      | normal => exact L' e' s'
      | exit i => exact lim_const _
      | ret => exact lim_const _
    · intro y n r h m hm
      obtain ⟨y, e', s'⟩ := y
      cases y with
      | normal => exact off e' s' n r h m hm
      | exit i => exact h
      | ret => exact h
theorem both_bind (x y : Option (AV × St)) : both x y = x.bind fun a => y.bind fun b => if a.1.alike b.1 && alikes a.2 b.2 then some a else none := by
  cases x with
  | none => rfl
  | some a => cases y with
    | none => rfl
    | some b => rfl
theorem lim_both {f g : Nat → Option (AV × St)} (hf : Mono f) (hg : Mono g) : lim (fun n => both (f n) (g n)) = both (lim f) (lim g) := by
  have e : (fun n => both (f n) (g n)) = fun n => (f n).bind fun a => (g n).bind fun b => if a.1.alike b.1 && alikes a.2 b.2 then some a else none := by
    funext n; exact both_bind _ _
  have k : ∀ a : AV × St, ∀ b : AV × St, Mono fun _ : Nat => (if a.1.alike b.1 && alikes a.2 b.2 then some a else none : Option (AV × St)) := fun a b n r h m _ => h
  rw [e, both_bind, lim_bind (g := fun n a => (g n).bind fun b => if a.1.alike b.1 && alikes a.2 b.2 then some a else none) hf (fun a => hg.bind (g := fun _ b => if a.1.alike b.1 && alikes a.2 b.2 then some a else none) (k a))]
  congr 1
  funext a
  rw [lim_bind (g := fun _ b => if a.1.alike b.1 && alikes a.2 b.2 then some a else none) hg (k a)]
  simp only [lim_const]
theorem lim_twice (own : OwnK) {f : Nat → List AV → Option (AV × St)} (hf : ∀ as, Mono fun n => f n as) (args : List AV) : lim (fun n => twice own (f n) args) = twice own (fun as => lim fun n => f n as) args := by
  unfold twice
  split
  · exact lim_both (hf _) (hf _)
  · exact lim_both (hf _) (hf _)
  · rfl
theorem Den_eq (f : Nat) (args : List AV) (σ : St) : Den G f args σ = match G f with
    | none => none
    | some F => if args.length = F.nparams then twice F.own (fun args => leave F σ.length (Run G σ.length F.body (initEnv 0 args) σ)) args else none := by
  have h0 : Den G f args σ = lim fun n => denN G (n + 1) f args σ :=
    lim_cofinal (den_mono G f args σ) (fun n r h m hm => den_mono G f args σ (n + 1) r h (m + 1) (by omega)) (fun n r h => ⟨n, den_mono G f args σ n r h (n + 1) (by omega)⟩) (fun n r h => ⟨n + 1, h⟩)
  rw [h0]
  simp only [denN]
  cases G f with
  | none => exact lim_const _
  | some F =>
    simp only []
    by_cases hl : args.length = F.nparams
    · simp only [if_pos hl]
      have e : ∀ x : Res, leave F σ.length x = x.bind fun y => leave F σ.length (some y) := by
        intro x; cases x <;> rfl
      have hm : ∀ as, Mono fun n => leave F σ.length (exec (denN G n) n σ.length F.body (initEnv 0 as) σ) := fun as n r h m hm =>
        leave_mono (fun r hr => run_mono G σ.length F.body (initEnv 0 as) σ n r hr m hm) h
      rw [lim_twice F.own (f := fun n as => leave F σ.length (exec (denN G n) n σ.length F.body (initEnv 0 as) σ)) hm]
      congr 1
      funext args
      rw [e (Run G σ.length F.body (initEnv 0 args) σ)]
      have e' : (fun n => leave F σ.length (exec (denN G n) n σ.length F.body (initEnv 0 args) σ)) = fun n => (exec (denN G n) n σ.length F.body (initEnv 0 args) σ).bind fun y => leave F σ.length (some y) := by
        funext n; exact e _
      rw [e']
      rw [lim_bind (f := fun n => exec (denN G n) n σ.length F.body (initEnv 0 args) σ) (g := fun _ y => leave F σ.length (some y)) (run_mono G _ _ _ _) (fun x n b h m _ => h)]
      simp only [lim_const]
      rfl
    · simp only [if_neg hl]; exact lim_const _
end Go.Den
