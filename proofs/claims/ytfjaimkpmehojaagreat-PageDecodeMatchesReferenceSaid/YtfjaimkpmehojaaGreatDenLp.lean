/- Loops over the elements of a list, and other rules for whole loops. -/
import Derived.Test.YtfjaimkpmehojaaGreatDenEv
namespace Go.Den
open Go
theorem range_ind {α A : Type} (L : List α) (hL : L.length < 1000000000000000) (goal : Int → A → Prop) (good : Int → List α → A → Prop)
    (hend : ∀ a, good L.length [] a → goal L.length a)
    (hstep : ∀ (i : Int) (pre rest : List α) (x : α) (a : A), L = pre ++ x :: rest → i = pre.length → 0 ≤ i → i < L.length → getE L i = some x → decide (i < (L.length : Int)) = true →
      IntKind.wrap .i64 (i + 1) = i + 1 → good i (x :: rest) a → (∀ a', good (i + 1) rest a' → goal (i + 1) a') → goal i a)
    (a : A) (h : good 0 L a) : goal 0 a := by
  have key : ∀ (rest pre : List α) (a : A), L = pre ++ rest → good pre.length rest a → goal pre.length a := by
    intro rest
    induction rest with
    | nil =>
      intro pre a hp hg
      have : pre.length = L.length := by simp [hp]
      rw [this] at hg ⊢
      exact hend a hg
    | cons x rest ih =>
      intro pre a hp hg
      have hlen := congrArg List.length hp
      simp only [List.length_append, List.length_cons] at hlen
      refine hstep pre.length pre rest x a hp rfl (by omega) (by omega) (getE_at hp) (by simp; omega) (wrap_i64 (by omega) (by omega)) hg ?_
      intro a' hg'
      have := ih (pre ++ [x]) a' (by simpa using hp) (by simpa using hg')
      simpa using this
  exact key L [] a rfl h
section
def bnd (d : Nat) : Option AV → Option Nat
  | none => some d
  | some (.int _ n) => if 0 ≤ n then some n.toNat else none
  | _ => none
theorem bound_bnd (env : Env) (d : Nat) (o : Option Opd) : bound env d o = bnd d (o.map (ev env)) := by
  cases o with
  | none => rfl
  | some x => simp only [bound, Option.map_some]; cases ev env x <;> rfl
def sliceV (sz : Nat) (v : AV) (lo hi mx : Option AV) (σ : St) : Out := match v with
    | .nils => match bnd 0 lo, bnd 0 hi, bnd 0 mx with
      | some 0, some 0, some 0 => some (.nils, σ, false)
      | _, _, _ => none
    | .sl es => match bnd 0 lo, bnd es.length hi with
      | some l, some h => if l ≤ h ∧ h ≤ es.length ∧ szOK sz es then
          (match mx with
           | none => some (.sl ((es.drop l).take (h - l)), σ, false)
           | some m => match bnd 0 (some m) with
             | some m => if h ≤ m ∧ m ≤ es.length then some (if l = m then .nils else .sl ((es.drop l).take (h - l)), σ, false) else none
             | none => none)
          else none
      | _, _ => none
    | .osl o ver n off len => match σ[o]? with
      | some (.arr ver' sz' es) => if ver' = ver ∧ es.length = n ∧ sz' = sz ∧ off + len ≤ n then
        (match bnd 0 lo, bnd len hi, mx with
         | some l, some h, none => if l ≤ h ∧ h ≤ len then some (.osl o ver n (off + l) (h - l), σ, true) else none
         | _, _, _ => none) else none
      | _ => none
    | _ => none
theorem st_slice {call : CallF} {base : Nat} (env : Env) (σ : St) (sz : Nat) (x : Opd) (lo hi mx : Option Opd) : stepC call base (.slice sz x lo hi mx) env σ = sliceV sz (ev env x) (lo.map (ev env)) (hi.map (ev env)) (mx.map (ev env)) σ := by
  simp only [stepC, step, bound_bnd, sliceV]
  cases mx with
  | none =>
    simp only [Option.map_none]
    cases ev env x <;> first | rfl | skip
    rename_i o ver n off len
    simp only []
    cases σ[o]? with
    | none => rfl
    | some ob => cases ob <;> first | rfl | (simp only []; split <;> first | rfl | (cases bnd 0 (Option.map (ev env) lo) <;> cases bnd _ (Option.map (ev env) hi) <;> rfl))
  | some m =>
    simp only [Option.map_some]
    cases ev env x <;> first | rfl | skip
    rename_i o ver n off len
    simp only []
    cases σ[o]? with
    | none => rfl
    | some ob => cases ob <;> first | rfl | (simp only []; split <;> first | rfl | (cases bnd 0 (Option.map (ev env) lo) <;> cases bnd _ (Option.map (ev env) hi) <;> rfl))
theorem sliceV_tail (sz : Nat) (e : List AV) (es : List (List AV)) (k : IntKind) (σ : St) (h : szOK sz (e :: es)) : sliceV sz (.sl (e :: es)) (some (.int k 1)) none none σ = some (.sl es, σ, false) := by
  simp [sliceV, bnd, h]
theorem sliceV_sl (sz l h : Nat) (es : List (List AV)) (lo hi : Option AV) (σ : St) (hl : bnd 0 lo = some l) (hh : bnd es.length hi = some h) (h1 : l ≤ h) (h2 : h ≤ es.length) (h3 : szOK sz es) : sliceV sz (.sl es) lo hi none σ = some (.sl ((es.drop l).take (h - l)), σ, false) := by
  simp [sliceV, hl, hh, h1, h2, h3]
theorem szOK_nil (sz : Nat) : szOK sz [] = True := by simp [szOK]
theorem szOK_cons (sz : Nat) (e : List AV) (es : List (List AV)) : szOK sz (e :: es) = (e.length = sz ∧ szOK sz es) := by simp [szOK]
theorem szOK_map {α : Type} (sz : Nat) (f : α → List AV) (L : List α) (h : ∀ x, (f x).length = sz) : szOK sz (L.map f) = True := by
  simp only [eq_iff_iff, iff_true]
  intro e he
  rw [List.mem_map] at he
  obtain ⟨x, _, rfl⟩ := he
  exact h x
variable {G : Nat → Option AFunc} {call : CallF} {base : Nat} (env : Env) (σ : St)
def finO (base ver n off len : Nat) (σ : St) : Option Ob → Option (AV × St)
  | some (.arr v' sz es) => some (.osl base ver n off len, σ.take base ++ [Ob.arr v' sz es])
  | _ => none
theorem storeR_under (sz o off : Nat) (ys cs : List AV) (h : off + sz ≤ cs.length) (hu : (ys.all fun x => x.under (o + 1) || x.refsIn cs) = true) : storeR base sz o off ys σ (some (.cells cs)) = some (.dead, σ.set o (.cells (over cs off ys)), true) := by
  simp only [storeR]
  rw [if_pos ⟨h, .inr hu⟩]
theorem fin_own (o ver n off len : Nat) : fin .yes 0 (.osl o ver n off len) σ = finO 0 ver n off len σ σ[o]? := by
  simp only [fin, finO, Nat.not_lt_zero, if_false]
  rcases σ[o]? with _ | x <;> first | rfl | (cases x <;> rfl)
theorem finO_arr (ver n off len v' sz : Nat) (es : List (List AV)) : finO base ver n off len σ (some (.arr v' sz es)) = some (.osl base ver n off len, σ.take base ++ [Ob.arr v' sz es]) := (rfl)
theorem shift_osl (k o v n f l : Nat) : (AV.osl o v n f l).shift k = .osl (k + o) v n f l := (rfl)
theorem shiftSt_nil (k : Nat) : shiftSt k [] = [] := (rfl)
theorem shiftSt_cons (k : Nat) (x : Ob) (r : St) : shiftSt k (x :: r) = x.shift k :: shiftSt k r := (rfl)
theorem shift_arr (k v sz : Nat) (es : List (List AV)) : (Ob.arr v sz es).shift k = .arr v sz es := (rfl)
noncomputable def callvV (G : Nat → Option AFunc) (v : AV) (as : List AV) (σ : St) : Out := match v with
  | .fn f caps => call0 G f (norms (as ++ caps)) σ
  | _ => none
theorem callOp0 (f : Nat) (as : List AV) : callOp (Den G) 0 f as σ = call0 G f (norms as) σ := by
  simp only [callOp_bind, call0]
  rw [if_neg (by decide), if_neg (by decide)]
  unfold brk
  simp only [Option.bind_some]
  by_cases h : norefs (norms as) = true
  · rw [if_pos h, if_pos h]
    cases Den G f (norms as) [] with
    | none => rfl
    | some x => simp only [Option.bind_some, backP]; unfold brk; rfl
  · rw [if_neg h, if_neg h]
    cases Den G f (norms as) σ with
    | none => rfl
    | some x => rfl
def backK (σ : St) (x : AV × St) : Out := brk (x.1.noref && x.2.isEmpty) (some (x.1, σ, true)) (some (x.1.shift σ.length, σ ++ shiftSt σ.length x.2, true))
theorem backK_eq (v : AV) (s : St) : backK σ (v, s) = brk (v.noref && s.isEmpty) (some (v, σ, true)) (some (v.shift σ.length, σ ++ shiftSt σ.length s, true)) := (rfl)
noncomputable def call2 (G : Nat → Option AFunc) (f : Nat) (σ : St) (as : List AV) : Out := brk (norefs as) ((Den G f as []).bind (backK σ)) ((Den G f as σ).bind backR)
theorem call2_eq (f : Nat) (as : List AV) : call2 G f σ as = brk (norefs as) ((Den G f as []).bind (backK σ)) ((Den G f as σ).bind backR) := (rfl)
theorem st_call2 (f : Nat) (args : List Opd) : stepC (Den G) base (.call 2 f args) env σ = (frzs σ (evs env args)).bind (call2 G f (kills σ (evs env args))) := by
  simp only [stepC, callX, callOp_bind]
  rw [if_neg (by decide), if_neg (show ¬ (((2 : Nat) == 4 && !norefs (norms (evs env args))) = true) by simp), if_neg (by decide), if_pos trivial]
  cases frzs σ (evs env args) with
  | none => rfl
  | some as =>
    simp only [Option.map_some, Option.bind_some, call2]
    unfold brk
    by_cases h : norefs as = true
    · rw [if_pos h, if_pos h]
      cases Den G f as [] with
      | none => rfl
      | some x => simp only [Option.bind_some, backK]; unfold brk; rfl
    · rw [if_neg h, if_neg h]
      cases Den G f as (kills σ (evs env args)) with
      | none => rfl
      | some x => rfl
def backW (σ : St) (t : Bool) (x : AV × St) : Out := brk (x.1.bare && x.2.isEmpty) (some (x.1, σ, t)) none
theorem backW_eq (t : Bool) (v : AV) (s : St) : backW σ t (v, s) = brk (v.bare && s.isEmpty) (some (v, σ, t)) none := (rfl)
noncomputable def call3 (G : Nat → Option AFunc) (f : Nat) (σ : St) (t : Bool) (as : List AV) : Out := brk (norefs as) ((Den G f as []).bind (backW σ t)) none
theorem call3_eq (f : Nat) (t : Bool) (as : List AV) : call3 G f σ t as = brk (norefs as) ((Den G f as []).bind (backW σ t)) none := (rfl)
theorem st_call3 (f : Nat) (args : List Opd) : stepC (Den G) base (.call 3 f args) env σ = brk (decide ((oslIns (evs env args)).length ≤ 1)) ((frzs σ (evs env args)).bind (call3 G f σ (!(oslIns (evs env args)).isEmpty))) none := by
  simp only [stepC, callX, viewOp]
  rw [if_pos trivial]
  unfold brk
  by_cases hl : (oslIns (evs env args)).length ≤ 1
  · rw [if_pos hl, if_pos (decide_eq_true hl)]
    congr 1
    funext as
    simp only [call3]
    unfold brk
    by_cases h : norefs as = true
    · rw [if_pos h, if_pos h]
      cases Den G f as [] with
      | none => rfl
      | some q => simp only [Option.bind_some, backW]; unfold brk; rfl
    · rw [if_neg h, if_neg h]
  · rw [if_neg hl, if_neg (by simpa using hl)]
theorem oslIn_osl (o v n f l : Nat) : oslIn (.osl o v n f l) = [o] := (rfl)
theorem oslIn_int (k : IntKind) (n : Int) : oslIn (.int k n) = [] := (rfl)
theorem oslIn_bool (b : Bool) : oslIn (.bool b) = [] := (rfl)
theorem oslIn_str (b : ByteArray) : oslIn (.str b) = [] := (rfl)
theorem oslIn_sl (es : List (List AV)) : oslIn (.sl es) = [] := (rfl)
theorem oslIn_nils : oslIn .nils = [] := (rfl)
theorem oslIn_fn (f : Nat) (cs : List AV) : oslIn (.fn f cs) = [] := (rfl)
theorem oslIn_rptr (cs : List AV) : oslIn (.rptr cs) = [] := (rfl)
theorem oslIn_agg (cs : List AV) : oslIn (.agg cs) = oslIns cs := (rfl)
theorem oslIn_tup (cs : List AV) : oslIn (.tup cs) = oslIns cs := (rfl)
theorem oslIns_nil : oslIns [] = [] := (rfl)
theorem oslIns_cons (x : AV) (r : List AV) : oslIns (x :: r) = oslIn x ++ oslIns r := (rfl)
theorem foot_view (n : Nat) (f : Nat) (args : List Opd) : footOf (.call 3 f args) env n = (match oslIns (evs env args) with | o :: _ => some (true, o) | [] => none) := (rfl)
attribute [go_sem] oslIn_osl oslIn_int oslIn_bool oslIn_str oslIn_sl oslIn_nils oslIn_fn oslIn_rptr oslIn_agg oslIn_tup oslIns_nil oslIns_cons foot_view
theorem bare_int (k : IntKind) (n : Int) : (AV.int k n).bare = true := (rfl)
theorem bare_bool (b : Bool) : (AV.bool b).bare = true := (rfl)
theorem bare_str (b : ByteArray) : (AV.str b).bare = true := (rfl)
theorem bare_agg (cs : List AV) : (AV.agg cs).bare = bares cs := (rfl)
theorem bare_tup (cs : List AV) : (AV.tup cs).bare = bares cs := (rfl)
theorem bares_nil : bares [] = true := (rfl)
theorem bares_cons (x : AV) (r : List AV) : bares (x :: r) = (x.bare && bares r) := (rfl)
attribute [go_sem] backW_eq call3_eq st_call3 bare_int bare_bool bare_str bare_agg bare_tup bares_nil bares_cons
theorem st_callv (x : Opd) (args : List Opd) : stepC (Den G) base (.callv x args) env σ = callvV G (ev env x) (evs env args) σ := by
  simp only [stepC, callvV]
  cases ev env x <;> first | rfl | exact callOp0 _ _ _
noncomputable def invT (G : Nat → Option AFunc) (o : Option Nat) (v : AV) (as : List AV) (σ : St) : Out := match o with
  | some f => call0 G f (norms (v :: as)) σ
  | none => none
noncomputable def invV (G : Nat → Option AFunc) (tbl : List (Nat × Nat)) (x : AV) (as : List AV) (σ : St) : Out := match x with
  | .iface t v => invT G (tlook tbl t) v as σ
  | _ => none
theorem st_inv (tbl : List (Nat × Nat)) (x : Opd) (args : List Opd) : stepC (Den G) base (.inv tbl x args) env σ = invV G tbl (ev env x) (evs env args) σ := by
  simp only [stepC, invV]
  cases ev env x with
  | iface t v =>
    simp only [invOf, invT]
    cases tlook tbl t with
    | none => rfl
    | some f => exact callOp0 _ _ _
  | _ => rfl
theorem invV_iface (tbl : List (Nat × Nat)) (t : Nat) (v : AV) (as : List AV) : invV G tbl (.iface t v) as σ = invT G (tlook tbl t) v as σ := (rfl)
theorem invT_some (f : Nat) (v : AV) (as : List AV) : invT G (some f) v as σ = call0 G f (norms (v :: as)) σ := (rfl)
def mkifV (t : Nat) (v : AV) (σ : St) : Out := if v.noref then some (.iface t v, σ, false) else none
theorem st_mkif (t : Nat) (x : Opd) : stepC call base (.mkif t x) env σ = mkifV t (ev env x) σ := (rfl)
theorem mkifV_eq (t : Nat) (v : AV) (h : v.noref = true) : mkifV t v σ = some (.iface t v, σ, false) := by unfold mkifV; rw [if_pos h]
attribute [go_sem] st_inv invV_iface invT_some st_mkif mkifV_eq
theorem kill_fn (f : Nat) (caps : List AV) : kill σ (.fn f caps) = σ := (rfl)
theorem kill_ref (o f : Nat) : kill σ (.ref o f) = σ := (rfl)
theorem frz_ref (o f : Nat) : frz σ (.ref o f) = some (.ref o f) := (rfl)
theorem callvV_fn (f : Nat) (caps as : List AV) : callvV G (.fn f caps) as σ = call0 G f (norms (as ++ caps)) σ := (rfl)
def idxarrV (len sz : Nat) (v i : AV) (σ : St) : Out := match v, i with
    | .rptr cs, .int _ i => if 0 ≤ i ∧ i.toNat < len ∧ i.toNat * sz ≤ cs.length then some (.rptr (cs.drop (i.toNat * sz)), σ, false) else none
    | .ref o f, .int _ i => if 0 ≤ i ∧ i.toNat < len then some (.ref o (f + i.toNat * sz), σ, false) else none
    | _, _ => none
theorem st_idxarr (len sz : Nat) (x i : Opd) : stepC call base (.idxarr len sz x i) env σ = idxarrV len sz (ev env x) (ev env i) σ := (rfl)
theorem idxarrV_rptr (len sz : Nat) (cs : List AV) (k : IntKind) (i : Int) (h0 : 0 ≤ i) (h1 : i.toNat < len) (h2 : i.toNat * sz ≤ cs.length) : idxarrV len sz (.rptr cs) (.int k i) σ = some (.rptr (cs.drop (i.toNat * sz)), σ, false) := by
  simp [idxarrV, h0, h1, h2]
theorem idxarrV_ref (len sz o f : Nat) (k : IntKind) (i : Int) (h0 : 0 ≤ i) (h1 : i.toNat < len) : idxarrV len sz (.ref o f) (.int k i) σ = some (.ref o (f + i.toNat * sz), σ, false) := by
  simp [idxarrV, h0, h1]
def andI (k : IntKind) (a b : Int) : Int := k.wrap (BitVec.ofInt k.bits a &&& BitVec.ofInt k.bits b).toNat
def orI (k : IntKind) (a b : Int) : Int := k.wrap (BitVec.ofInt k.bits a ||| BitVec.ofInt k.bits b).toNat
theorem bin_and (kd : EK) (k : IntKind) (a b : Int) : bin .and kd (.int k a) (.int k b) = some (.int k (andI k a b)) := by simp [bin, andI]
theorem bin_or (kd : EK) (k : IntKind) (a b : Int) : bin .or kd (.int k a) (.int k b) = some (.int k (orI k a b)) := by simp [bin, orI]
def storepR (base sz o off : Nat) (ys : List AV) (σ : St) : Option Ob → Out
  | some (.cells cs) => if off + sz ≤ cs.length ∧ storable base o cs ys then some (.dead, σ.set o (.cells (over cs off ys)), true) else none
  | _ => none
def storepV (base sz : Nat) (v : AV) (x : List AV × St) : Out := if x.1.length = sz ∧ x.1.all AV.scalar then (match v with
  | .ref o off => storepR base sz o off x.1 x.2 x.2[o]?
  | _ => none) else none
theorem storepV_ref (sz o off : Nat) (ys : List AV) (s : St) (h1 : ys.length = sz) (h2 : ys.all AV.scalar = true) : storepV base sz (.ref o off) (ys, s) = storepR base sz o off ys s s[o]? := by
  simp only [storepV]
  rw [if_pos ⟨h1, h2⟩]
theorem storepR_cells (sz o off : Nat) (ys cs : List AV) (h : off + sz ≤ cs.length) : storepR 0 sz o off ys σ (some (.cells cs)) = some (.dead, σ.set o (.cells (over cs off ys)), true) := by
  simp [storepR, storable, h]
def storepY (base sz : Nat) (v : AV) (prs : List (Nat × Nat)) (σ : St) : AV → Out
  | .agg ys => (promos prs ys σ).bind (storepV base sz v)
  | _ => none
theorem storepY_agg (sz : Nat) (v : AV) (prs : List (Nat × Nat)) (ys : List AV) : storepY base sz v prs σ (.agg ys) = (promos prs ys σ).bind (storepV base sz v) := (rfl)
theorem st_storep (sz : Nat) (x y : Opd) (prs : List (Nat × Nat)) : stepC call base (.storep sz x y prs) env σ = storepY base sz (ev env x) prs σ (ev env y) := by
  simp only [stepC, step, storepY]
  cases ev env y <;> try rfl
  simp only []
  cases promos prs _ σ with
  | none => rfl
  | some p =>
    obtain ⟨ys, s⟩ := p
    simp only [Option.bind_some, storepV]
    split
    · cases ev env x <;> rfl
    · rfl
end
attribute [go_sem] st_idxarr idxarrV_rptr idxarrV_ref bin_and bin_or storepV_ref storepR_cells storepY_agg st_storep storeR_under st_slice sliceV_tail szOK_nil szOK_cons szOK_map kill_fn kill_ref frz_ref backK_eq call2_eq st_call2 fin_own finO_arr shift_osl shiftSt_nil shiftSt_cons shift_arr st_callv callvV_fn
section
variable {G : Nat → Option AFunc} {call : CallF} {base : Nat} (env : Env) (σ : St)
theorem st_mkmap : stepC call base (.mkmap none) env σ = some (.mapr σ.length, σ ++ [Ob.map []], true) := (rfl)
def lookF (zero : AV) (ok : Bool) (σ : St) (t : Bool) : Option AV → Out
  | some v => some (if ok then .tup [v, .bool true] else v, σ, t)
  | none => some (if ok then .tup [zero, .bool false] else zero, σ, t)
theorem lookF_some (zero v : AV) (t : Bool) : lookF zero false σ t (some v) = some (v, σ, t) := (rfl)
theorem lookF_none (zero : AV) (t : Bool) : lookF zero false σ t none = some (zero, σ, t) := (rfl)
theorem lookF_someT (zero v : AV) (t : Bool) : lookF zero true σ t (some v) = some (.tup [v, .bool true], σ, t) := (rfl)
theorem lookF_noneT (zero : AV) (t : Bool) : lookF zero true σ t none = some (.tup [zero, .bool false], σ, t) := (rfl)
def lookV (ag : Bool) (ks : List CK) (zero : AV) (ok : Bool) (i : AV) (σ : St) (m : List (AV × AV) × Bool) : Out := if keyOk ag ks i then (mfind ag ks i m.1).bind (lookF zero ok σ m.2) else none
theorem lookV_eq (ag : Bool) (ks : List CK) (zero : AV) (ok : Bool) (i : AV) (es : List (AV × AV)) (t : Bool) (h : keyOk ag ks i = true) : lookV ag ks zero ok i σ (es, t) = (mfind ag ks i es).bind (lookF zero ok σ t) := by
  simp [lookV, h]
theorem st_lookup (ag : Bool) (ks : List CK) (zero : AV) (ok : Bool) (x i : Opd) : stepC call base (.lookup ag ks zero ok x i) env σ = (mapOf σ (ev env x)).bind (lookV ag ks zero ok (ev env i) σ) := by
  simp only [stepC, step]
  cases mapOf σ (ev env x) with
  | none => rfl
  | some m =>
    obtain ⟨es, t⟩ := m
    simp only [Option.bind_some, lookV]
    split
    · cases mfind ag ks (ev env i) es with
      | none => rfl
      | some o => cases o <;> rfl
    · rfl
theorem mapOf_fmap (es : List (AV × AV)) : mapOf σ (.fmap es) = some (es, false) := (rfl)
def mapOO : Option Ob → Option (List (AV × AV) × Bool)
  | some (.map es) => some (es, true)
  | _ => none
theorem mapOf_mapr (o : Nat) : mapOf σ (.mapr o) = mapOO σ[o]? := by
  simp only [mapOf, mapOO]; cases σ[o]? with
  | none => rfl
  | some x => cases x <;> rfl
theorem mapOO_map (es : List (AV × AV)) : mapOO (some (.map es)) = some (es, true) := (rfl)
def updF (base o : Nat) (v : AV) (σ : St) (es : List (AV × AV)) : Out := if v.noref ∨ base ≤ o then some (.dead, σ.set o (.map es), true) else none
theorem updF_eq (o : Nat) (v : AV) (es : List (AV × AV)) (h : v.noref = true) : updF base o v σ es = some (.dead, σ.set o (.map es), true) := by simp [updF, h]
def updV (base : Nat) (ag : Bool) (ks : List CK) (k v : AV) (o : Nat) (σ : St) : Option Ob → Out
  | some (.map es) => if keyOk ag ks k then (mput ag ks k v es).bind (updF base o v σ) else none
  | _ => none
theorem updV_map (ag : Bool) (ks : List CK) (k v : AV) (o : Nat) (es : List (AV × AV)) (h : keyOk ag ks k = true) : updV base ag ks k v o σ (some (.map es)) = (mput ag ks k v es).bind (updF base o v σ) := by simp [updV, h]
def updM (base : Nat) (ag : Bool) (ks : List CK) (k v : AV) (σ : St) : AV → Out
  | .mapr o => updV base ag ks k v o σ σ[o]?
  | _ => none
theorem updM_mapr (ag : Bool) (ks : List CK) (k v : AV) (o : Nat) : updM base ag ks k v σ (.mapr o) = updV base ag ks k v o σ σ[o]? := (rfl)
theorem st_mapupd (ag : Bool) (ks : List CK) (m k v : Opd) : stepC call base (.mapupd ag ks m k v) env σ = updM base ag ks (ev env k) (ev env v) σ (ev env m) := by
  simp only [stepC, step, updM]
  cases ev env m <;> try rfl
  rename_i o
  simp only [updV]
  cases σ[o]? with
  | none => rfl
  | some x => cases x <;> try rfl
              simp only []
              split
              · rename_i es _
                cases mput ag ks (ev env k) (ev env v) es <;> rfl
              · rfl
theorem keyEq_int (k : IntKind) (a b : Int) : keyEq false [.i] (.int k a) (.int k b) = some (decide (a = b)) := by simp [keyEq, eqCells, eqB]
theorem keyEq_str (a b : ByteArray) : keyEq false [.s] (.str a) (.str b) = some (decide (a = b)) := by simp [keyEq, eqCells, eqB]
theorem keyEq_agg (ks : List CK) (xs ys : List AV) : keyEq true ks (.agg xs) (.agg ys) = eqCells ks xs ys := (rfl)
theorem keyOk_int (k : IntKind) (a : Int) : keyOk false [.i] (.int k a) = true := by simp [keyOk, keyEq_int]
theorem keyOk_str (a : ByteArray) : keyOk false [.s] (.str a) = true := by simp [keyOk, keyEq_str]
theorem mfind_nil (ag : Bool) (ks : List CK) (k : AV) : mfind ag ks k [] = some none := (rfl)
def mfindC (ag : Bool) (ks : List CK) (k v : AV) (r : List (AV × AV)) (b : Bool) : Option (Option AV) := brk b (some (some v)) (mfind ag ks k r)
theorem mfindC_eq (ag : Bool) (ks : List CK) (k v : AV) (r : List (AV × AV)) (b : Bool) : mfindC ag ks k v r b = brk b (some (some v)) (mfind ag ks k r) := (rfl)
theorem mfind_cons (ag : Bool) (ks : List CK) (k a v : AV) (r : List (AV × AV)) : mfind ag ks k ((a, v) :: r) = (keyEq ag ks k a).bind (mfindC ag ks k v r) := by
  simp only [mfind]; cases keyEq ag ks k a with
  | none => rfl
  | some b => unfold mfindC brk; cases b <;> rfl
theorem mput_nil (ag : Bool) (ks : List CK) (k v : AV) : mput ag ks k v [] = some [(k, v)] := (rfl)
def mputC (ag : Bool) (ks : List CK) (k v a u : AV) (r : List (AV × AV)) (b : Bool) : Option (List (AV × AV)) := brk b (some ((a, v) :: r)) ((mput ag ks k v r).map ((a, u) :: ·))
theorem mputC_eq (ag : Bool) (ks : List CK) (k v a u : AV) (r : List (AV × AV)) (b : Bool) : mputC ag ks k v a u r b = brk b (some ((a, v) :: r)) ((mput ag ks k v r).map ((a, u) :: ·)) := (rfl)
theorem mput_cons (ag : Bool) (ks : List CK) (k v a u : AV) (r : List (AV × AV)) : mput ag ks k v ((a, u) :: r) = (keyEq ag ks k a).bind (mputC ag ks k v a u r) := by
  simp only [mput]; cases keyEq ag ks k a with
  | none => rfl
  | some b => unfold mputC brk; cases b <;> rfl
def deepV (base : Nat) (σ : St) (v : AV) : Option (AV × St) := if v.noref then some (v, σ.take base) else none
theorem deepV_eq (v : AV) (h : v.noref = true) : deepV base σ v = some (v, σ.take base) := by simp [deepV, h]
theorem fin_deep (v : AV) : fin .deep base v σ = (frzD base σ 8 v).bind (deepV base σ) := by
  simp only [fin]; cases frzD base σ 8 v <;> rfl
def deepR (base n off : Nat) (σ : St) : Option Ob → Option AV
  | some (.cells cs) => (frzDs (frzD base σ n) (cs.drop off)).map .rptr
  | _ => none
theorem deepR_cells (n off : Nat) (cs : List AV) : deepR base n off σ (some (.cells cs)) = (frzDs (frzD base σ n) (cs.drop off)).map .rptr := (rfl)
theorem frzD_ref (n o off : Nat) (h : base ≤ o) : frzD base σ (n + 1) (.ref o off) = deepR base n off σ σ[o]? := by
  simp only [frzD, deepR, h, if_true]; cases σ[o]? with
  | none => rfl
  | some x => cases x <;> rfl
def deepM (base n : Nat) (σ : St) : Option Ob → Option AV
  | some (.map es) => (frzDp (frzD base σ n) es).map .fmap
  | _ => none
theorem deepM_map (n : Nat) (es : List (AV × AV)) : deepM base n σ (some (.map es)) = (frzDp (frzD base σ n) es).map .fmap := (rfl)
theorem frzD_mapr (n o : Nat) (h : base ≤ o) : frzD base σ (n + 1) (.mapr o) = deepM base n σ σ[o]? := by
  simp only [frzD, deepM, h, if_true]; cases σ[o]? with
  | none => rfl
  | some x => cases x <;> rfl
theorem frzD_osl (n o ver m off len : Nat) (h : base ≤ o) : frzD base σ (n + 1) (.osl o ver m off len) = frz σ (.osl o ver m off len) := by
  simp only [frzD, h, if_true]; rfl
theorem frzD_fn (n f : Nat) (caps : List AV) : frzD base σ (n + 1) (.fn f caps) = (frzDs (frzD base σ n) caps).map (.fn f) := (rfl)
theorem frzD_agg (n : Nat) (cs : List AV) : frzD base σ (n + 1) (.agg cs) = (frzDs (frzD base σ n) cs).map .agg := (rfl)
theorem frzD_tup (n : Nat) (cs : List AV) : frzD base σ (n + 1) (.tup cs) = (frzDs (frzD base σ n) cs).map .tup := (rfl)
theorem frzD_nils (n : Nat) : frzD base σ (n + 1) .nils = some (.sl []) := (rfl)
theorem frzD_int (n : Nat) (k : IntKind) (a : Int) : frzD base σ (n + 1) (.int k a) = some (.int k a) := (rfl)
theorem frzD_bool (n : Nat) (b : Bool) : frzD base σ (n + 1) (.bool b) = some (.bool b) := (rfl)
theorem frzD_str (n : Nat) (s : ByteArray) : frzD base σ (n + 1) (.str s) = some (.str s) := (rfl)
theorem frzD_sl (n : Nat) (es : List (List AV)) : frzD base σ (n + 1) (.sl es) = some (.sl es) := (rfl)
theorem frzD_rptr (n : Nat) (cs : List AV) : frzD base σ (n + 1) (.rptr cs) = some (.rptr cs) := (rfl)
theorem frzD_nilp (n : Nat) : frzD base σ (n + 1) .nilp = some .nilp := (rfl)
theorem frzD_fmap (n : Nat) (es : List (AV × AV)) : frzD base σ (n + 1) (.fmap es) = some (.fmap es) := (rfl)
theorem frzDs_nil (f : AV → Option AV) : frzDs f [] = some [] := (rfl)
theorem frzDs_cons (f : AV → Option AV) (x : AV) (r : List AV) : frzDs f (x :: r) = (f x).bind fun a => (frzDs f r).map (a :: ·) := by
  show (match f x, frzDs f r with | some a, some b => some (a :: b) | _, _ => none) = _
  cases f x <;> cases frzDs f r <;> rfl
theorem frzDp_nil (f : AV → Option AV) : frzDp f [] = some [] := (rfl)
theorem frzDp_cons (f : AV → Option AV) (k x : AV) (r : List (AV × AV)) : frzDp f ((k, x) :: r) = (f x).bind fun a => (frzDp f r).map ((k, a) :: ·) := by
  show (match f x, frzDp f r with | some a, some b => some ((k, a) :: b) | _, _ => none) = _
  cases f x <;> cases frzDp f r <;> rfl
theorem frzDp_plain {α : Type} (n : Nat) (f : α → AV × AV) (L : List α) (h : ∀ x ∈ L, frzD base σ n (f x).2 = some (f x).2) : frzDp (frzD base σ n) (L.map f) = some (L.map f) := by
  induction L with
  | nil => rfl
  | cons x r ih =>
    have e := ih fun y hy => h y (by simp [hy])
    rw [List.map_cons]
    have hx := h x (by simp)
    have hp : f x = ((f x).1, (f x).2) := rfl
    rw [hp, frzDp_cons, hx, e]; rfl
theorem scalar_fmap (es : List (AV × AV)) : (AV.fmap es).scalar = true := (rfl)
theorem cellsOf_fmap (es : List (AV × AV)) : (AV.fmap es).cellsOf = [AV.fmap es] := (rfl)
theorem noref_fmap (es : List (AV × AV)) : (AV.fmap es).noref = true := (rfl)
theorem noref_mapr (o : Nat) : (AV.mapr o).noref = false := (rfl)
theorem norm_fmap (es : List (AV × AV)) : (AV.fmap es).norm = .fmap es := (rfl)
theorem norm_mapr (o : Nat) : (AV.mapr o).norm = .mapr o := (rfl)
theorem noref_nilmap : AV.nilmap.noref = true := (rfl)
end
attribute [go_sem] st_mkmap lookF_some lookF_none lookF_someT lookF_noneT lookV_eq st_lookup mapOf_fmap mapOf_mapr mapOO_map updF_eq updV_map updM_mapr st_mapupd keyEq_int keyEq_str keyEq_agg keyOk_int keyOk_str deepV_eq fin_deep deepR_cells frzD_ref deepM_map frzD_mapr frzD_osl frzD_fn frzD_agg frzD_tup frzD_nils frzD_int frzD_bool frzD_str frzD_sl frzD_rptr frzD_nilp frzD_fmap frzDs_nil frzDs_cons frzDp_nil scalar_fmap cellsOf_fmap noref_fmap noref_mapr norm_fmap norm_mapr noref_nilmap
section
variable {G : Nat → Option AFunc} {call : CallF} {base : Nat} (env : Env) (σ : St)
theorem foot_app (pr : Bool) (sz b : Nat) (x y : Opd) (n : Nat) : footOf (.append pr sz b x y) env n = if plainS (ev env y) = true then (objOf (ev env x)).map (fun o => (false, o)) else none := (rfl)
theorem foot_slot_app (d sz b : Nat) (x y : Opd) (n : Nat) : footOf (.slot d (.append true sz b x y)) env n = footApp n d (ev env x) (ev env y) := (rfl)
theorem footApp_nils (n d : Nat) (y : AV) (h : plainS y = true) : footApp n d .nils y = some (false, n - d) := by simp [footApp, h]
theorem footApp_osl (n d o v m f l : Nat) (y : AV) (h : plainS y = true) : footApp n d (.osl o v m f l) y = some (false, o) := by simp [footApp, h, objOf]
theorem foot_slot_alloc (d : Nat) (zs : List AV) (n : Nat) : footOf (.slot d (.alloc zs [])) env n = some (false, n - d) := (rfl)
theorem foot_slot_box (d sz : Nat) (x : Opd) (n : Nat) : footOf (.slot d (.box false sz x)) env n = some (false, n - d) := (rfl)
theorem foot_slot_lit (d sz len : Nat) (zs : List AV) (ps : List (Nat × Opd)) (n : Nat) : footOf (.slot d (.lit true sz zs len ps)) env n = some (false, n - d) := (rfl)
theorem foot_slot_movp (d sz : Nat) (x : Opd) (n : Nat) : footOf (.slot d (.movp sz x)) env n = some (false, n - d) := (rfl)
theorem plainS_nils : plainS .nils = true := (rfl)
theorem plainS_sl (es : List (List AV)) : plainS (.sl es) = true := (rfl)
theorem plainS_str (s : ByteArray) : plainS (.str s) = true := (rfl)
theorem freeOf_eq (r q : Bool) (a b : Nat) : freeOf (some (r, a)) (some (q, b)) = ((r && q) || !(a == b)) := (rfl)
theorem frees_nil (b : List Foot) : frees [] b = true := (rfl)
theorem frees_cons (f : Foot) (r b : List Foot) : frees (f :: r) b = (b.all (fun g => freeOf f g) && frees r b) := (rfl)
theorem xOk_nil (T : List (Nat × Foot)) : xOk T [] = true := (rfl)
theorem xOk_cons (T : List (Nat × Foot)) (i j : Nat) (r : List (Nat × Nat)) : xOk T ((i, j) :: r) = (frees (hits i T) (hits j T) && xOk T r) := (rfl)
theorem allFeet_nil : allFeet [] = true := (rfl)
theorem allFeet_cons (i : Nat) (f : Foot) (r : List (Nat × Foot)) : allFeet ((i, f) :: r) = (f.isSome && allFeet r) := (rfl)
def keepX (unord : List (Nat × Nat)) (live : List Nat) (x : Env × St × List (Nat × Foot)) : Res := if xOk x.2.2 unord && allFeet x.2.2 then some (.normal, prune live x.1, x.2.1) else none
theorem keepX_eq (unord : List (Nat × Nat)) (live : List Nat) (e : Env) (s : St) (T : List (Nat × Foot)) : keepX unord live (e, s, T) = brk (xOk T unord && allFeet T) (some (.normal, prune live e, s)) none := by
  unfold keepX brk; rfl
theorem Run_xregion' (res : Nat) (ops : List AOper) (unord : List (Nat × Nat)) (live : List Nat) : Run G base (.xregion res ops unord live) env σ = (runD (Den G) base ops 0 env (σ ++ List.replicate res Ob.res) []).bind (keepX unord live) := Run_xregion G base res ops unord live env σ
def fill3 (k : Nat) (ob : Ob) (v : AV) (σ : St) : Out := match v with
  | .ref _ off => some (.ref k off, σ.set k ob, true)
  | .osl _ ver n off len => some (.osl k ver n off len, σ.set k ob, true)
  | _ => none
theorem fill3_ref (k : Nat) (ob : Ob) (o off : Nat) : fill3 k ob (.ref o off) σ = some (.ref k off, σ.set k ob, true) := (rfl)
theorem fill3_osl (k : Nat) (ob : Ob) (o ver n off len : Nat) : fill3 k ob (.osl o ver n off len) σ = some (.osl k ver n off len, σ.set k ob, true) := (rfl)
def fill2 (base k : Nat) (v : AV) (σ : St) : Option Ob → Option Ob → Out
  | some ob, some .res => if base ≤ k ∧ ob.under σ.length = true then fill3 k ob v σ else none
  | _, _ => none
theorem fill2_res (k : Nat) (v : AV) (ob : Ob) (h : base ≤ k) (h2 : ob.under σ.length = true) : fill2 base k v σ (some ob) (some .res) = fill3 k ob v σ := by simp [fill2, h, h2]
theorem fillAt_some (d : Nat) (v : AV) (σ' : St) (t : Bool) : fillAt base d σ (some (v, σ', t)) = brk (decide (σ'.length = σ.length)) (some (v, σ', true)) (fill2 base (σ.length - d) v σ σ'[σ.length]? σ[σ.length - d]?) := by
  simp only [fillAt, fill2, fill3]
  unfold brk
  by_cases h : σ'.length = σ.length
  · simp [h]
  · simp only [h, if_false, decide_false, Bool.false_eq_true]
    rcases σ'[σ.length]? with _ | ob <;> rcases σ[σ.length - d]? with _ | o2 <;> first | rfl | (cases o2 <;> first | rfl | (simp only []; split <;> first | rfl | (cases v <;> rfl)))
theorem st_slot_alloc (d : Nat) (zs : List AV) : stepC call base (.slot d (.alloc zs [])) env σ = fillAt base d σ (some (.ref σ.length 0, σ ++ [Ob.cells zs], true)) := (rfl)
theorem st_slot_box (d sz : Nat) (x : Opd) : stepC call base (.slot d (.box false sz x)) env σ = fillAt base d σ (boxV false sz (ev env x).cellsOf σ) := (rfl)
theorem st_slot_append (d : Nat) (pr : Bool) (sz b : Nat) (x y : Opd) : stepC call base (.slot d (.append pr sz b x y)) env σ = fillAt base d σ (appV pr sz b (ev env x) σ (srcOf σ sz (ev env y))) := by
  have := st_append (call := call) (base := base) env σ pr sz b x y
  simp only [stepC] at this ⊢
  rw [this]
theorem st_slot_lit (d : Nat) (pr : Bool) (sz : Nat) (zs : List AV) (len : Nat) (ps : List (Nat × Opd)) : stepC call base (.slot d (.lit pr sz zs len ps)) env σ = fillAt base d σ (litV pr sz len σ ((fillParts env (litParts sz ps) (zerosN zs len)).bind (fun cs => frzElems (chop sz len cs)))) := by
  have := st_lit (call := call) (base := base) env σ pr sz zs len ps
  simp only [stepC] at this ⊢
  rw [this]
noncomputable def fregK (G : Nat → Option AFunc) (base t : Nat) (c : ACode) (env : Env) (w : AV) (σ : St) (v : AV) : Res := Run G base c ((t, v) :: env) (kill σ w)
theorem Run_freg' (base t : Nat) (c : ACode) (env : Env) : Run G base (.freg t c) env σ = (frz σ (env.get t)).bind (fregK G base t c env (env.get t) σ) := Run_freg G base t c env σ
theorem fregK_eq (base t : Nat) (c : ACode) (env : Env) (w v : AV) : fregK G base t c env w σ v = Run G base c ((t, v) :: env) (kill σ w) := (rfl)
attribute [go_sem] Run_freg' fregK_eq
def movfV (w v : AV) (σ : St) : Out := some (v, kill σ w, true)
theorem movfV_eq (w v : AV) : movfV w v σ = some (v, kill σ w, true) := (rfl)
theorem st_movf (x : Opd) : stepC call base (.movf x) env σ = (frz σ (ev env x)).bind fun v => movfV (ev env x) v σ := by
  simp only [stepC]; cases frz σ (ev env x) <;> rfl
def movpV (sz : Nat) (σ : St) : AV → Out
  | .nils => if 0 < sz then some (.osl σ.length 0 0 0 0, σ ++ [Ob.arr 0 sz []], true) else none
  | _ => none
theorem movpV_nils (sz : Nat) (h : 0 < sz) : movpV sz σ .nils = some (.osl σ.length 0 0 0 0, σ ++ [Ob.arr 0 sz []], true) := by simp [movpV, h]
theorem st_slot_movp (d sz : Nat) (x : Opd) : stepC call base (.slot d (.movp sz x)) env σ = fillAt base d σ (movpV sz σ (ev env x)) := by
  simp only [stepC, step]
  cases ev env x <;> rfl
theorem appV_nils (sz b : Nat) (ys : List (List AV)) (t : Bool) (h : szOKb sz ys = true) (h0 : 0 < sz) (hb : ys.length * b ≤ 140737488355328) : appV true sz b .nils σ (some (ys, t)) = some (.osl σ.length 0 ys.length 0 ys.length, σ ++ [Ob.arr 0 sz ys], true) := by
  simp [appV, h, h0, hb]
end
attribute [go_sem] movfV_eq st_movf foot_app foot_slot_app footApp_nils footApp_osl foot_slot_alloc foot_slot_box foot_slot_lit foot_slot_movp plainS_nils plainS_sl plainS_str freeOf_eq frees_nil frees_cons xOk_nil xOk_cons allFeet_nil allFeet_cons keepX_eq Run_xregion' fill3_ref fill3_osl fill2_res fillAt_some st_slot_alloc st_slot_box st_slot_append st_slot_lit movpV_nils st_slot_movp appV_nils List.replicate_succ List.replicate_zero Option.isSome_some
section
variable {call : CallF} {base : Nat} (env : Env) (σ : St)
def indexV (v i : AV) (σ : St) : Out := match v, i with
  | .str s, .int _ i => (getE s.data.toList i).bind fun b => some (.int .u8 b.toNat, σ, false)
  | _, _ => none
theorem st_index (x i : Opd) : stepC call base (.index x i) env σ = indexV (ev env x) (ev env i) σ := by
  simp only [stepC, step, indexV]
  cases ev env x <;> try rfl
  cases ev env i <;> try rfl
  rename_i s k i
  simp only [getE]
  by_cases h : 0 ≤ i
  · rw [if_pos h, if_pos h, Array.getElem?_toList]
    cases s.data[i.toNat]? <;> rfl
  · rw [if_neg h, if_neg h]; rfl
theorem indexV_str (s : ByteArray) (k : IntKind) (i : Int) : indexV (.str s) (.int k i) σ = (getE s.data.toList i).bind fun b => some (.int .u8 b.toNat, σ, false) := (rfl)
theorem sliceV_to (sz : Nat) (es : List (List AV)) (k : IntKind) (h : Int) (h0 : 0 ≤ h) (h1 : h ≤ es.length) (h2 : szOK sz es) : sliceV sz (.sl es) none (some (.int k h)) none σ = some (.sl (es.take h.toNat), σ, false) := by
  have : h.toNat ≤ es.length := by omega
  simp [sliceV, bnd, h0, this, h2]
theorem sliceV_from (sz : Nat) (es : List (List AV)) (k : IntKind) (l : Int) (h0 : 0 ≤ l) (h1 : l ≤ es.length) (h2 : szOK sz es) : sliceV sz (.sl es) (some (.int k l)) none none σ = some (.sl (es.drop l.toNat), σ, false) := by
  have h3 : l.toNat ≤ es.length := by omega
  simp only [sliceV, bnd, h0, if_true, Nat.le_refl, true_and, h3, h2]
  rw [List.take_of_length_le (by simp)]
theorem szOK_take (sz n : Nat) (es : List (List AV)) (h : szOK sz es) : szOK sz (es.take n) = True := by
  simp only [eq_iff_iff, iff_true]
  intro e he
  exact h e (List.mem_of_mem_take he)
theorem szOK_drop (sz n : Nat) (es : List (List AV)) (h : szOK sz es) : szOK sz (es.drop n) = True := by
  simp only [eq_iff_iff, iff_true]
  intro e he
  exact h e (List.mem_of_mem_drop he)
theorem szOKb_take (sz n : Nat) (es : List (List AV)) (h : szOK sz es) : szOKb sz (es.take n) = true := by
  rw [szOKb_iff, szOK_take sz n es h]; trivial
theorem szOKb_drop (sz n : Nat) (es : List (List AV)) (h : szOK sz es) : szOKb sz (es.drop n) = true := by
  rw [szOKb_iff, szOK_drop sz n es h]; trivial
def sliceO (sz o ver n off len : Nat) (lo hi : Option AV) (σ : St) : Option Ob → Out
  | some (.arr ver' sz' es) => if ver' = ver ∧ es.length = n ∧ sz' = sz ∧ off + len ≤ n then
      (match bnd 0 lo, bnd len hi with
       | some l, some h => if l ≤ h ∧ h ≤ len then some (.osl o ver n (off + l) (h - l), σ, true) else none
       | _, _ => none) else none
  | _ => none
theorem sliceV_osl (sz o ver n off len : Nat) (lo hi : Option AV) : sliceV sz (.osl o ver n off len) lo hi none σ = sliceO sz o ver n off len lo hi σ σ[o]? := by
  simp only [sliceV, sliceO]
  cases σ[o]? with
  | none => rfl
  | some ob => cases ob <;> first | rfl | (simp only []; split <;> first | rfl | (cases bnd 0 lo <;> cases bnd len hi <;> rfl))
theorem sliceO_to (sz o ver n off len : Nat) (k : IntKind) (h : Int) (es : List (List AV)) (h0 : 0 ≤ h) (h1 : h ≤ len) (h2 : es.length = n) (h3 : off + len ≤ n) : sliceO sz o ver n off len none (some (.int k h)) σ (some (.arr ver sz es)) = some (.osl o ver n off h.toNat, σ, true) := by
  have : h.toNat ≤ len := by omega
  simp [sliceO, bnd, h0, this, h2, h3]
theorem frzO_part (ver n sz off len : Nat) (es : List (List AV)) (h : es.length = n) (h2 : off + len ≤ n) : frzO ver n off len (some (.arr ver sz es)) = some (.sl ((es.drop off).take len)) := by
  subst h; simp [frzO, h2]
def sstrV (v : AV) (lo hi : Option AV) (σ : St) : Out := match v with
  | .str s => match bnd 0 lo, bnd s.size hi with
    | some l, some h => if l ≤ h ∧ h ≤ s.size then some (.str (s.extract l h), σ, false) else none
    | _, _ => none
  | _ => none
theorem st_sstr (x : Opd) (lo hi : Option Opd) : stepC call base (.sstr x lo hi) env σ = sstrV (ev env x) (lo.map (ev env)) (hi.map (ev env)) σ := by
  simp only [stepC, step, bound_bnd, sstrV]
  cases ev env x <;> first | rfl | (simp only []; cases bnd 0 (lo.map (ev env)) <;> first | rfl | (cases bnd _ (hi.map (ev env)) <;> rfl))
theorem sstrV_hi (s : ByteArray) (k : IntKind) (h : Int) (h0 : 0 ≤ h) (h1 : h ≤ s.size) : sstrV (.str s) none (some (.int k h)) σ = some (.str (s.extract 0 h.toNat), σ, false) := by
  have : h.toNat ≤ s.size := by omega
  simp [sstrV, bnd, h0, this]
theorem sstrV_lo (s : ByteArray) (k : IntKind) (l : Int) (h0 : 0 ≤ l) (h1 : l ≤ s.size) : sstrV (.str s) (some (.int k l)) none σ = some (.str (s.extract l.toNat s.size), σ, false) := by
  have : l.toNat ≤ s.size := by omega
  simp [sstrV, bnd, h0, this]
theorem bin_rem (kd : EK) (k : IntKind) (a b : Int) (h : b ≠ 0) : bin .rem kd (.int k a) (.int k b) = some (.int k (a.tmod b)) := by simp [bin, h]
theorem bin_quo (kd : EK) (k : IntKind) (a b : Int) (h : b ≠ 0) : bin .quo kd (.int k a) (.int k b) = some (.int k (k.wrap (a.tdiv b))) := by simp [bin, h]
theorem str_len (s : ByteArray) : (s.size : Int) = s.data.toList.length := by rw [ByteArray.size, ← Array.length_toList]
end
theorem getE_1 {α : Type} (x0 x1 : α) (r : List α) : getE (x0 :: x1 :: r) 1 = some x1 := (rfl)
theorem getE_2 {α : Type} (x0 x1 x2 : α) (r : List α) : getE (x0 :: x1 :: x2 :: r) 2 = some x2 := (rfl)
theorem getE_3 {α : Type} (x0 x1 x2 x3 : α) (r : List α) : getE (x0 :: x1 :: x2 :: x3 :: r) 3 = some x3 := (rfl)
theorem getE_4 {α : Type} (x0 x1 x2 x3 x4 : α) (r : List α) : getE (x0 :: x1 :: x2 :: x3 :: x4 :: r) 4 = some x4 := (rfl)
theorem getE_5 {α : Type} (x0 x1 x2 x3 x4 x5 : α) (r : List α) : getE (x0 :: x1 :: x2 :: x3 :: x4 :: x5 :: r) 5 = some x5 := (rfl)
theorem getE_6 {α : Type} (x0 x1 x2 x3 x4 x5 x6 : α) (r : List α) : getE (x0 :: x1 :: x2 :: x3 :: x4 :: x5 :: x6 :: r) 6 = some x6 := (rfl)
theorem getE_7 {α : Type} (x0 x1 x2 x3 x4 x5 x6 x7 : α) (r : List α) : getE (x0 :: x1 :: x2 :: x3 :: x4 :: x5 :: x6 :: x7 :: r) 7 = some x7 := (rfl)
theorem fuel_ind {A : Type} (goal : Nat → A → Prop) (h0 : ∀ a, goal 0 a) (hs : ∀ k a, (∀ a', goal k a') → goal (k + 1) a) : ∀ k a, goal k a
  | 0, a => h0 a
  | k + 1, a => hs k a (fuel_ind goal h0 hs k)
theorem szOKb_map {α : Type} (sz : Nat) (f : α → List AV) (L : List α) (h : ∀ x, (f x).length = sz) : szOKb sz (L.map f) = true := by
  rw [szOKb_iff, szOK_map sz f L h]; trivial
attribute [go_sem] sliceV_osl sliceV_to sliceV_from getE_1 getE_2 getE_3 getE_4 getE_5 getE_6 getE_7 st_sstr sstrV_hi sstrV_lo szOKb_map szOKb_nil st_index indexV_str bin_rem bin_quo
section
variable {call : CallF} {base : Nat} (env : Env) (σ : St)
def clearO (sz : Nat) (zs : List AV) (o ver n off len : Nat) (σ : St) : Option Ob → Out
  | some (.arr ver' sz' es) => if ver' = ver ∧ es.length = n ∧ sz' = sz ∧ zs.length = sz ∧ off + len ≤ n then (match frzCells zs with
        | some z => some (.tup [], σ.set o (.arr ver' sz' (es.take off ++ List.replicate len z ++ es.drop (off + len))), true)
        | none => none) else none
  | _ => none
def clearV (sz : Nat) (zs : List AV) (σ : St) : AV → Out
  | .nils | .sl [] => some (.tup [], σ, false)
  | .osl o ver n off len => clearO sz zs o ver n off len σ σ[o]?
  | _ => none
theorem st_clear (sz : Nat) (zs : List AV) (x : Opd) : stepC call base (.clear sz zs x) env σ = clearV sz zs σ (ev env x) := by
  simp only [stepC, step]
  cases ev env x with
  | sl es => cases es <;> rfl
  | osl o ver n off len =>
    simp only [clearV, clearO]
    cases σ[o]? with
    | none => rfl
    | some y => cases y <;> rfl
  | _ => rfl
theorem clearV_osl (sz : Nat) (zs : List AV) (o ver n off len : Nat) : clearV sz zs σ (.osl o ver n off len) = clearO sz zs o ver n off len σ σ[o]? := (rfl)
theorem clearO_arr (sz : Nat) (zs : List AV) (o ver n off len : Nat) (es : List (List AV)) (h1 : es.length = n) (h2 : zs.length = sz) (h3 : off + len ≤ n) (h4 : norefs zs = true) :
    clearO sz zs o ver n off len σ (some (.arr ver sz es)) = some (.tup [], σ.set o (.arr ver sz (es.take off ++ List.replicate len (norms zs) ++ es.drop (off + len))), true) := by
  have h5 : frzCells zs = some (norms zs) := by simp [frzCells, h4]
  simp [clearO, h1, h2, h3, h5]
def tobV (σ : St) : AV → Out
  | .str s => some (.sl (s.data.toList.map fun b => [AV.int .u8 b.toNat]), σ, false)
  | _ => none
def gloadV (agg : Bool) (sz : Nat) (o : Option (List GC)) (σ : St) : Out := match o with
    | some gs => (front agg sz (gs.map GC.av)).map fun v => (v, σ, false)
    | none => none
theorem st_gload (agg : Bool) (sz g : Nat) : stepC call base (.gload agg sz g) env σ = gloadV agg sz (globs g) σ := (rfl)
theorem gloadV_agg (sz : Nat) (gs : List GC) (h : gs.length = sz) : gloadV true sz (some gs) σ = some (.agg (gs.map GC.av), σ, false) := by
  simp [gloadV, front, h, List.take_of_length_le]
theorem gloadV_one (g : GC) : gloadV false 1 (some [g]) σ = some (g.av, σ, false) := (rfl)
def mkslV (sz bytes : Nat) (zs : List AV) (l c : AV) (σ : St) : Out := match l, c with
    | .int _ l, .int _ c => if 0 < sz ∧ 0 ≤ l ∧ l ≤ c ∧ c * bytes ≤ 140737488355328 then (match frzCells zs with
      | some z => some (.osl σ.length 0 l.toNat 0 l.toNat, σ ++ [Ob.arr 0 sz (List.replicate l.toNat z)], true)
      | none => none) else none
    | _, _ => none
theorem st_mksl (sz bytes : Nat) (zs : List AV) (l c : Opd) : stepC call base (.mksl sz bytes zs l c) env σ = mkslV sz bytes zs (ev env l) (ev env c) σ := (rfl)
theorem mkslV_ok (sz bytes : Nat) (zs : List AV) (kl kc : IntKind) (l c : Int) (h0 : 0 < sz) (h1 : 0 ≤ l) (h2 : l ≤ c) (h3 : c * bytes ≤ 140737488355328) : mkslV sz bytes zs (.int kl l) (.int kc c) σ = (frzCells zs).bind fun z => some (.osl σ.length 0 l.toNat 0 l.toNat, σ ++ [Ob.arr 0 sz (List.replicate l.toNat z)], true) := by
  simp only [mkslV, h0, h1, h2, h3, and_self, if_true]
  cases frzCells zs <;> rfl
theorem toNat_zero' : (0 : Int).toNat = 0 := rfl
theorem st_tobytes (x : Opd) : stepC call base (.tobytes x) env σ = tobV σ (ev env x) := by
  simp only [stepC, step]; cases ev env x <;> rfl
theorem tobV_str (s : ByteArray) : tobV σ (.str s) = some (.sl (s.data.toList.map fun b => [AV.int .u8 b.toNat]), σ, false) := (rfl)
theorem eq2_slc0 : eq2 .slc .nil0 .nil0 = some true := (rfl)
theorem eq2_slc1 : eq2 .slc .nne .nil0 = some false := (rfl)
theorem eq2_slc2 (e : List AV) (es : List (List AV)) : eq2 .slc (.sl (e :: es)) .nil0 = some false := (rfl)
theorem srcOf_nil0 (sz : Nat) : srcOf σ sz .nil0 = some ([], false) := (rfl)
theorem srcOf_nne (sz : Nat) : srcOf σ sz .nne = some ([], false) := (rfl)
theorem noref_nil0 : AV.nil0.noref = true := (rfl)
theorem st_boxz (t : Nat) (x : Opd) : stepC call base (.boxz t x) env σ = (if (ev env x).cellsOf.isEmpty then some (.zp t, σ, false) else none) := (rfl)
def fldzV (σ : St) (t : Nat) : AV → Option (AV × St × Bool)
  | .zp t' => if t' = t then some (.zp t, σ, false) else none
  | _ => none
theorem st_fldz (t : Nat) (x : Opd) : stepC call base (.fldz t x) env σ = fldzV σ t (ev env x) := by
  simp only [stepC, step]; cases ev env x <;> rfl
theorem fldzV_zp (t : Nat) : fldzV σ t (.zp t) = some (.zp t, σ, false) := by simp [fldzV]
theorem deref_zp (t : Nat) : deref σ (.zp t) = some ([], false) := (rfl)
theorem noref_zp (t : Nat) : (AV.zp t).noref = true := (rfl)
theorem under_zp (t m : Nat) : (AV.zp t).under m = true := (rfl)
theorem norm_zp (t : Nat) : (AV.zp t).norm = .zp t := (rfl)
theorem frz_zp (t : Nat) : frz σ (.zp t) = some (.zp t) := (rfl)
theorem kill_zp (t : Nat) : kill σ (.zp t) = σ := (rfl)
attribute [go_sem] st_boxz st_fldz fldzV_zp deref_zp noref_zp under_zp norm_zp frz_zp kill_zp
theorem noref_nne : AV.nne.noref = true := (rfl)
theorem under_nil0 (m : Nat) : AV.nil0.under m = true := (rfl)
theorem under_nne (m : Nat) : AV.nne.under m = true := (rfl)
theorem fin_yesn (o ver n off len : Nat) : fin .yesn 0 (.osl o ver n off len) σ = finO 0 ver n off len σ σ[o]? := fin_own σ o ver n off len
theorem fin_back (b o ver n off len : Nat) (h : o < b) : fin .yes b (.osl o ver n off len) σ = some (.osl o ver n off len, σ.take b) := by
  simp [fin, h]
def finK (f : Nat → AV) : Option Ob → Option (AV × St)
  | some (.arr v sz es) => some (f 0, [.arr v sz es])
  | _ => none
theorem finK_arr (f : Nat → AV) (v sz : Nat) (es : List (List AV)) : finK f (some (.arr v sz es)) = some (f 0, [.arr v sz es]) := (rfl)
theorem fin_keep1 (o ver n off len : Nat) : fin .keep 0 (.agg [.osl o ver n off len]) σ = finK (fun k => .agg [.osl k ver n off len]) σ[o]? := by
  have h : (oslIn (.agg [.osl o ver n off len])).filter (fun o => decide (0 ≤ o)) = [o] := by simp [oslIn, oslIn.oslIns]
  simp only [fin, h, keepO, arrsOf]
  rw [if_pos (by simp : [o].Nodup)]
  cases hx : σ[o]? with
  | none => rfl
  | some x => cases x <;> simp [finK, renD, frzDs, frzD.frzDs]
theorem fin_keep2 (o ver n off len : Nat) (k : IntKind) (i : Int) : fin .keep 0 (.tup [.agg [.osl o ver n off len], .int k i]) σ = finK (fun q => .tup [.agg [.osl q ver n off len], .int k i]) σ[o]? := by
  have h : (oslIn (.tup [.agg [.osl o ver n off len], .int k i])).filter (fun o => decide (0 ≤ o)) = [o] := by simp [oslIn, oslIn.oslIns]
  simp only [fin, h, keepO, arrsOf]
  rw [if_pos (by simp : [o].Nodup)]
  cases hx : σ[o]? with
  | none => rfl
  | some x => cases x <;> simp [finK, renD, frzDs, frzD.frzDs, AV.noref]
theorem fin_keep_nils : fin .keep 0 (.agg [.nils]) σ = some (.agg [.nils], []) := by
  simp [fin, keepO, arrsOf, renD, oslIn, oslIn.oslIns, frzDs, frzD.frzDs, AV.noref]
theorem shift_agg (k : Nat) (cs : List AV) : (AV.agg cs).shift k = .agg (shifts k cs) := (rfl)
theorem shift_tup (k : Nat) (cs : List AV) : (AV.tup cs).shift k = .tup (shifts k cs) := (rfl)
theorem shifts_nil (k : Nat) : shifts k [] = [] := (rfl)
theorem shifts_cons (k : Nat) (x : AV) (r : List AV) : shifts k (x :: r) = x.shift k :: shifts k r := (rfl)
theorem shift_int (k : Nat) (kd : IntKind) (i : Int) : (AV.int kd i).shift k = .int kd i := (rfl)
def copyO (ver n off len sz : Nat) (o : Nat) (σ : St) : Option Ob → Option (List (List AV) × Bool) → Out
  | some (.arr ver' sz' es), some (ys, _) => if ver' = ver ∧ es.length = n ∧ sz' = sz ∧ off + len ≤ n ∧ ys.length ≤ len ∧ szOKb sz ys = true then some (.int .i64 ys.length, σ.set o (.arr ver' sz' (es.take off ++ (ys ++ es.drop (off + ys.length)))), true)
    else if ver' = ver ∧ es.length = n ∧ sz' = sz ∧ off + len ≤ n ∧ szOKb sz ys = true ∧ len < ys.length then some (.int .i64 len, σ.set o (.arr ver' sz' (es.take off ++ (ys.take len ++ es.drop (off + len)))), true) else none
  | _, _ => none
def copyV (sz : Nat) (σ : St) (y : Option (List (List AV) × Bool)) : AV → Out
  | .osl o ver n off len => copyO ver n off len sz o σ σ[o]? y
  | _ => none
theorem st_copy (sz : Nat) (x y : Opd) : stepC call base (.copy sz x y) env σ = copyV sz σ (srcOf σ sz (ev env y)) (ev env x) := by
  simp only [stepC, step, copyV]
  cases ev env x <;> simp only [] <;> (try rfl)
theorem copyV_osl (sz o ver n off len : Nat) (y : Option (List (List AV) × Bool)) : copyV sz σ y (.osl o ver n off len) = copyO ver n off len sz o σ σ[o]? y := (rfl)
theorem copyO_all (ver sz o : Nat) (es ys : List (List AV)) (t : Bool) (n len : Nat) (hn : es.length = n) (h : ys.length = n) (hl : len = n) (hz : szOKb sz ys = true) : copyO ver n 0 len sz o σ (some (.arr ver sz es)) (some (ys, t)) = some (.int .i64 n, σ.set o (.arr ver sz ys), true) := by
  subst hn; subst hl
  simp [copyO, h, hz]
theorem copyO_in (ver sz o : Nat) (es ys : List (List AV)) (t : Bool) (n off len : Nat) (hn : es.length = n) (hle : off + len ≤ n) (h : ys.length ≤ len) (hz : szOKb sz ys = true) : copyO ver n off len sz o σ (some (.arr ver sz es)) (some (ys, t)) = some (.int .i64 ys.length, σ.set o (.arr ver sz (es.take off ++ (ys ++ es.drop (off + ys.length)))), true) := by
  subst hn
  simp [copyO, h, hz, hle]
theorem copyO_cut (ver sz o : Nat) (es ys : List (List AV)) (t : Bool) (n off len : Nat) (hn : es.length = n) (hle : off + len ≤ n) (h : len < ys.length) (hz : szOKb sz ys = true) : copyO ver n off len sz o σ (some (.arr ver sz es)) (some (ys, t)) = some (.int .i64 len, σ.set o (.arr ver sz (es.take off ++ (ys.take len ++ es.drop (off + len)))), true) := by
  subst hn
  have h2 : ¬ ys.length ≤ len := by omega
  simp [copyO, h, h2, hz, hle]
def tostrV (σ : St) : Option (List (List AV) × Bool) → Out
  | some (ys, t) => (strOf ys).map fun l => (.str ⟨l.toArray⟩, σ, t)
  | none => none
theorem st_tostr (x : Opd) : stepC call base (.tostr x) env σ = tostrV σ (elems σ (ev env x)) := by
  simp only [stepC, step]
  cases elems σ (ev env x) <;> rfl
def bcell (b : UInt8) : List AV := [.int .u8 b.toNat]
theorem strOf_bytes (l : List UInt8) : strOf (l.map bcell) = some l := by
  induction l with
  | nil => rfl
  | cons b l ih => rw [List.map_cons, bcell, strOf, ih]; simp
theorem tostrV_some (ys : List (List AV)) (t : Bool) : tostrV σ (some (ys, t)) = (strOf ys).map fun l => (.str ⟨l.toArray⟩, σ, t) := (rfl)
theorem elems_sl (ys : List (List AV)) : elems σ (.sl ys) = some (ys, false) := (rfl)
end
attribute [go_sem] st_gload gloadV_agg gloadV_one GC.av globs st_mksl mkslV_ok toNat_zero' List.replicate_zero st_clear clearV_osl clearO_arr st_tobytes tobV_str eq2_slc0 eq2_slc1 eq2_slc2 srcOf_nil0 srcOf_nne noref_nil0 noref_nne under_nil0 under_nne fin_yesn finK_arr fin_keep1 fin_keep2 fin_keep_nils shift_agg shift_tup shifts_nil shifts_cons shift_int st_copy copyV_osl copyO_all st_tostr strOf_bytes tostrV_some elems_sl
end Go.Den
attribute [go_sem_proc] Nat.reduceEqDiff Nat.reduceAdd Nat.reduceLeDiff Nat.reduceLT reduceCtorEq Nat.reduceBEq Nat.reduceMul Nat.reduceSub Int.reduceSub Int.reduceAdd Int.reduceLE Int.reduceLT Int.reduceToNat
attribute [go_sem_proc ↓] reduceIte
attribute [go_sem] ne_eq not_false_eq_true Int.toNat_zero implies_true
