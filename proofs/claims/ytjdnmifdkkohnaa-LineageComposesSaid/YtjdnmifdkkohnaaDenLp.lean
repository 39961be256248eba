/- Loops over the elements of a list, and other rules for whole loops. -/
import Derived.Test.YtjdnmifdkkohnaaDenEv
namespace Go.Den
open Go
theorem range_ind {α A : Type} (L : List α) (hL : L.length < 1000000000000000) (goal : Int → A → Prop) (good : Int → List α → A → Prop)
    (hend : ∀ a, good L.length [] a → goal L.length a)
    (hstep : ∀ (i : Int) (pre rest : List α) (x : α) (a : A), L = pre ++ x :: rest → i = pre.length → 0 ≤ i → i < L.length → getE L i = some x → decide (i < (L.length : Int)) = true →
      IntKind.wrap .i64 (i + 1) = i + 1 → good i (x :: rest) a → (∀ a', good (i + 1) rest a' → goal (i + 1) a') → goal i a)
    (a : A) (h : good 0 L a) : goal 0 a := by
  have key : ∀ (rest pre : List α) (a : A), L = pre ++ rest → good pre.length rest a → goal pre.length a := by
    intro rest
    induction rest with
    | nil =>
      intro pre a hp hg
      have : pre.length = L.length := by simp [hp]
      rw [this] at hg ⊢
      exact hend a hg
    | cons x rest ih =>
      intro pre a hp hg
      have hlen := congrArg List.length hp
      simp only [List.length_append, List.length_cons] at hlen
      refine hstep pre.length pre rest x a hp rfl (by omega) (by omega) (getE_at hp) (by simp; omega) (wrap_i64 (by omega) (by omega)) hg ?_
      intro a' hg'
      have := ih (pre ++ [x]) a' (by simpa using hp) (by simpa using hg')
      simpa using this
  exact key L [] a rfl h
section
def bnd (d : Nat) : Option AV → Option Nat
  | none => some d
  | some (.int _ n) => if 0 ≤ n then some n.toNat else none
  | _ => none
theorem bound_bnd (env : Env) (d : Nat) (o : Option Opd) : bound env d o = bnd d (o.map (ev env)) := by
  cases o with
  | none => rfl
  | some x => simp only [bound, Option.map_some]; cases ev env x <;> rfl
def sliceV (sz : Nat) (v : AV) (lo hi mx : Option AV) (σ : St) : Out := match v with
    | .nils => match bnd 0 lo, bnd 0 hi, bnd 0 mx with
      | some 0, some 0, some 0 => some (.nils, σ, false)
      | _, _, _ => none
    | .sl es => match bnd 0 lo, bnd es.length hi with
      | some l, some h => if l ≤ h ∧ h ≤ es.length ∧ szOK sz es then
          (match mx with
           | none => some (.sl ((es.drop l).take (h - l)), σ, false)
           | some m => match bnd 0 (some m) with
             | some m => if h ≤ m ∧ m ≤ es.length then some (if l = m then .nils else .sl ((es.drop l).take (h - l)), σ, false) else none
             | none => none)
          else none
      | _, _ => none
    | .osl o ver n off len => match σ[o]? with
      | some (.arr ver' sz' es) => if ver' = ver ∧ es.length = n ∧ sz' = sz ∧ off + len ≤ n then
        (match bnd 0 lo, bnd len hi, mx with
         | some l, some h, none => if l ≤ h ∧ h ≤ len then some (.osl o ver n (off + l) (h - l), σ, true) else none
         | _, _, _ => none) else none
      | _ => none
    | _ => none
theorem st_slice {call : CallF} {base : Nat} (env : Env) (σ : St) (sz : Nat) (x : Opd) (lo hi mx : Option Opd) : stepC call base (.slice sz x lo hi mx) env σ = sliceV sz (ev env x) (lo.map (ev env)) (hi.map (ev env)) (mx.map (ev env)) σ := by
  simp only [stepC, step, bound_bnd, sliceV]
  cases mx with
  | none =>
    simp only [Option.map_none]
    cases ev env x <;> first | rfl | skip
    rename_i o ver n off len
    simp only []
    cases σ[o]? with
    | none => rfl
    | some ob => cases ob <;> first | rfl | (simp only []; split <;> first | rfl | (cases bnd 0 (Option.map (ev env) lo) <;> cases bnd _ (Option.map (ev env) hi) <;> rfl))
  | some m =>
    simp only [Option.map_some]
    cases ev env x <;> first | rfl | skip
    rename_i o ver n off len
    simp only []
    cases σ[o]? with
    | none => rfl
    | some ob => cases ob <;> first | rfl | (simp only []; split <;> first | rfl | (cases bnd 0 (Option.map (ev env) lo) <;> cases bnd _ (Option.map (ev env) hi) <;> rfl))
theorem sliceV_tail (sz : Nat) (e : List AV) (es : List (List AV)) (k : IntKind) (σ : St) (h : szOK sz (e :: es)) : sliceV sz (.sl (e :: es)) (some (.int k 1)) none none σ = some (.sl es, σ, false) := by
  simp [sliceV, bnd, h]
theorem sliceV_sl (sz l h : Nat) (es : List (List AV)) (lo hi : Option AV) (σ : St) (hl : bnd 0 lo = some l) (hh : bnd es.length hi = some h) (h1 : l ≤ h) (h2 : h ≤ es.length) (h3 : szOK sz es) : sliceV sz (.sl es) lo hi none σ = some (.sl ((es.drop l).take (h - l)), σ, false) := by
  simp [sliceV, hl, hh, h1, h2, h3]
theorem szOK_nil (sz : Nat) : szOK sz [] = True := by simp [szOK]
theorem szOK_cons (sz : Nat) (e : List AV) (es : List (List AV)) : szOK sz (e :: es) = (e.length = sz ∧ szOK sz es) := by simp [szOK]
theorem szOK_map {α : Type} (sz : Nat) (f : α → List AV) (L : List α) (h : ∀ x, (f x).length = sz) : szOK sz (L.map f) = True := by
  simp only [eq_iff_iff, iff_true]
  intro e he
  rw [List.mem_map] at he
  obtain ⟨x, _, rfl⟩ := he
  exact h x
variable {G : Nat → Option AFunc} {call : CallF} {base : Nat} (env : Env) (σ : St)
def finO (base ver n off len : Nat) (σ : St) : Option Ob → Option (AV × St)
  | some (.arr v' sz es) => some (.osl base ver n off len, σ.take base ++ [Ob.arr v' sz es])
  | _ => none
theorem storeR_under (sz o off : Nat) (ys cs : List AV) (h : off + sz ≤ cs.length) (hu : (ys.all fun x => x.under (o + 1) || x.refsIn cs) = true) : storeR base sz o off ys σ (some (.cells cs)) = some (.dead, σ.set o (.cells (over cs off ys)), true) := by
  simp only [storeR]
  rw [if_pos ⟨h, .inr hu⟩]
theorem fin_own (o ver n off len : Nat) : fin true 0 (.osl o ver n off len) σ = finO 0 ver n off len σ σ[o]? := by
  simp only [fin, finO, if_true, Nat.not_lt_zero, if_false]
  rcases σ[o]? with _ | x <;> first | rfl | (cases x <;> rfl)
theorem finO_arr (ver n off len v' sz : Nat) (es : List (List AV)) : finO base ver n off len σ (some (.arr v' sz es)) = some (.osl base ver n off len, σ.take base ++ [Ob.arr v' sz es]) := (rfl)
theorem shift_osl (k o v n f l : Nat) : (AV.osl o v n f l).shift k = .osl (k + o) v n f l := (rfl)
theorem shiftSt_nil (k : Nat) : shiftSt k [] = [] := (rfl)
theorem shiftSt_cons (k : Nat) (x : Ob) (r : St) : shiftSt k (x :: r) = x.shift k :: shiftSt k r := (rfl)
theorem shift_arr (k v sz : Nat) (es : List (List AV)) : (Ob.arr v sz es).shift k = .arr v sz es := (rfl)
noncomputable def callvV (G : Nat → Option AFunc) (v : AV) (as : List AV) (σ : St) : Out := match v with
  | .fn f caps => call0 G f (norms (as ++ caps)) σ
  | _ => none
theorem callOp0 (f : Nat) (as : List AV) : callOp (Den G) 0 f as σ = call0 G f (norms as) σ := by
  simp only [callOp_bind, call0]
  rw [if_neg (by decide), if_neg (by decide)]
  unfold brk
  simp only [Option.bind_some]
  by_cases h : norefs (norms as) = true
  · rw [if_pos h, if_pos h]
    cases Den G f (norms as) [] with
    | none => rfl
    | some x => simp only [Option.bind_some, backP]; unfold brk; rfl
  · rw [if_neg h, if_neg h]
    cases Den G f (norms as) σ with
    | none => rfl
    | some x => rfl
def backK (σ : St) (x : AV × St) : Out := brk (x.1.noref && x.2.isEmpty) (some (x.1, σ, true)) (some (x.1.shift σ.length, σ ++ shiftSt σ.length x.2, true))
theorem backK_eq (v : AV) (s : St) : backK σ (v, s) = brk (v.noref && s.isEmpty) (some (v, σ, true)) (some (v.shift σ.length, σ ++ shiftSt σ.length s, true)) := (rfl)
noncomputable def call2 (G : Nat → Option AFunc) (f : Nat) (σ : St) (as : List AV) : Out := brk (norefs as) ((Den G f as []).bind (backK σ)) ((Den G f as σ).bind backR)
theorem call2_eq (f : Nat) (as : List AV) : call2 G f σ as = brk (norefs as) ((Den G f as []).bind (backK σ)) ((Den G f as σ).bind backR) := (rfl)
theorem st_call2 (f : Nat) (args : List Opd) : stepC (Den G) base (.call 2 f args) env σ = (frzs σ (evs env args)).bind (call2 G f (kills σ (evs env args))) := by
  simp only [stepC, callOp_bind]
  rw [if_neg (by decide), if_pos trivial]
  cases frzs σ (evs env args) with
  | none => rfl
  | some as =>
    simp only [Option.map_some, Option.bind_some, call2]
    unfold brk
    by_cases h : norefs as = true
    · rw [if_pos h, if_pos h]
      cases Den G f as [] with
      | none => rfl
      | some x => simp only [Option.bind_some, backK]; unfold brk; rfl
    · rw [if_neg h, if_neg h]
      cases Den G f as (kills σ (evs env args)) with
      | none => rfl
      | some x => rfl
theorem st_callv (x : Opd) (args : List Opd) : stepC (Den G) base (.callv x args) env σ = callvV G (ev env x) (evs env args) σ := by
  simp only [stepC, callvV]
  cases ev env x <;> first | rfl | exact callOp0 _ _ _
theorem kill_fn (f : Nat) (caps : List AV) : kill σ (.fn f caps) = σ := (rfl)
theorem kill_ref (o f : Nat) : kill σ (.ref o f) = σ := (rfl)
theorem frz_ref (o f : Nat) : frz σ (.ref o f) = some (.ref o f) := (rfl)
theorem callvV_fn (f : Nat) (caps as : List AV) : callvV G (.fn f caps) as σ = call0 G f (norms (as ++ caps)) σ := (rfl)
def idxarrV (len sz : Nat) (v i : AV) (σ : St) : Out := match v, i with
    | .rptr cs, .int _ i => if 0 ≤ i ∧ i.toNat < len ∧ i.toNat * sz ≤ cs.length then some (.rptr (cs.drop (i.toNat * sz)), σ, false) else none
    | .ref o f, .int _ i => if 0 ≤ i ∧ i.toNat < len then some (.ref o (f + i.toNat * sz), σ, false) else none
    | _, _ => none
theorem st_idxarr (len sz : Nat) (x i : Opd) : stepC call base (.idxarr len sz x i) env σ = idxarrV len sz (ev env x) (ev env i) σ := (rfl)
theorem idxarrV_rptr (len sz : Nat) (cs : List AV) (k : IntKind) (i : Int) (h0 : 0 ≤ i) (h1 : i.toNat < len) (h2 : i.toNat * sz ≤ cs.length) : idxarrV len sz (.rptr cs) (.int k i) σ = some (.rptr (cs.drop (i.toNat * sz)), σ, false) := by
  simp [idxarrV, h0, h1, h2]
theorem idxarrV_ref (len sz o f : Nat) (k : IntKind) (i : Int) (h0 : 0 ≤ i) (h1 : i.toNat < len) : idxarrV len sz (.ref o f) (.int k i) σ = some (.ref o (f + i.toNat * sz), σ, false) := by
  simp [idxarrV, h0, h1]
def andI (k : IntKind) (a b : Int) : Int := k.wrap (BitVec.ofInt k.bits a &&& BitVec.ofInt k.bits b).toNat
def orI (k : IntKind) (a b : Int) : Int := k.wrap (BitVec.ofInt k.bits a ||| BitVec.ofInt k.bits b).toNat
theorem bin_and (kd : EK) (k : IntKind) (a b : Int) : bin .and kd (.int k a) (.int k b) = some (.int k (andI k a b)) := by simp [bin, andI]
theorem bin_or (kd : EK) (k : IntKind) (a b : Int) : bin .or kd (.int k a) (.int k b) = some (.int k (orI k a b)) := by simp [bin, orI]
def storepR (base sz o off : Nat) (ys : List AV) (σ : St) : Option Ob → Out
  | some (.cells cs) => if off + sz ≤ cs.length ∧ storable base o cs ys then some (.dead, σ.set o (.cells (over cs off ys)), true) else none
  | _ => none
def storepV (base sz : Nat) (v : AV) (x : List AV × St) : Out := if x.1.length = sz ∧ x.1.all AV.scalar then (match v with
  | .ref o off => storepR base sz o off x.1 x.2 x.2[o]?
  | _ => none) else none
theorem storepV_ref (sz o off : Nat) (ys : List AV) (s : St) (h1 : ys.length = sz) (h2 : ys.all AV.scalar = true) : storepV base sz (.ref o off) (ys, s) = storepR base sz o off ys s s[o]? := by
  simp only [storepV]
  rw [if_pos ⟨h1, h2⟩]
theorem storepR_cells (sz o off : Nat) (ys cs : List AV) (h : off + sz ≤ cs.length) : storepR 0 sz o off ys σ (some (.cells cs)) = some (.dead, σ.set o (.cells (over cs off ys)), true) := by
  simp [storepR, storable, h]
def storepY (base sz : Nat) (v : AV) (prs : List (Nat × Nat)) (σ : St) : AV → Out
  | .agg ys => (promos prs ys σ).bind (storepV base sz v)
  | _ => none
theorem storepY_agg (sz : Nat) (v : AV) (prs : List (Nat × Nat)) (ys : List AV) : storepY base sz v prs σ (.agg ys) = (promos prs ys σ).bind (storepV base sz v) := (rfl)
theorem st_storep (sz : Nat) (x y : Opd) (prs : List (Nat × Nat)) : stepC call base (.storep sz x y prs) env σ = storepY base sz (ev env x) prs σ (ev env y) := by
  simp only [stepC, step, storepY]
  cases ev env y <;> try rfl
  simp only []
  cases promos prs _ σ with
  | none => rfl
  | some p =>
    obtain ⟨ys, s⟩ := p
    simp only [Option.bind_some, storepV]
    split
    · cases ev env x <;> rfl
    · rfl
end
attribute [go_sem] st_idxarr idxarrV_rptr idxarrV_ref bin_and bin_or storepV_ref storepR_cells storepY_agg st_storep storeR_under st_slice sliceV_tail szOK_nil szOK_cons szOK_map kill_fn kill_ref frz_ref backK_eq call2_eq st_call2 fin_own finO_arr shift_osl shiftSt_nil shiftSt_cons shift_arr st_callv callvV_fn
end Go.Den
