/- Rules by which simp runs the evaluator. -/
import Derived.Test.YtfjaimkpmehojaaGreatDenO
namespace Go.Den
open Go
@[irreducible] def brk {α : Type} (b : Bool) (X Y : α) : α := if b then X else Y
theorem brk_true {α : Type} (X Y : α) : brk true X Y = X := by unfold brk; rfl
theorem brk_false {α : Type} (X Y : α) : brk false X Y = Y := by unfold brk; rfl
@[congr] theorem brk_congr {α : Type} {b b' : Bool} {X Y : α} (h : b = b') : brk b X Y = brk b' X Y := by rw [h]
theorem brk_eq {α : Type} {b : Bool} {X Y Z : α} (h1 : b = true → X = Z) (h0 : b = false → Y = Z) : brk b X Y = Z := by
  cases b
  · rw [brk_false]; exact h0 rfl
  · rw [brk_true]; exact h1 rfl
theorem brk_bind {α β : Type} (b : Bool) (X Y : Option α) (f : α → Option β) : (brk b X Y).bind f = brk b (X.bind f) (Y.bind f) := by
  cases b
  · rw [brk_false, brk_false]
  · rw [brk_true, brk_true]
section
variable {G : Nat → Option AFunc}
theorem foot_load (a : Bool) (sz : Nat) (x : Opd) (env : Env) (n : Nat) : footOf (.load a sz x) env n = (objOf (ev env x)).map fun o => (true, o) := (rfl)
theorem foot_len (a : Bool) (x : Opd) (env : Env) (n : Nat) : footOf (.len a x) env n = (objOf (ev env x)).map fun o => (true, o) := (rfl)
theorem foot_slice (sz : Nat) (x : Opd) (lo hi mx : Option Opd) (env : Env) (n : Nat) : footOf (.slice sz x lo hi mx) env n = (objOf (ev env x)).map fun o => (true, o) := (rfl)
theorem foot_idxa (sz : Nat) (x i : Opd) (env : Env) (n : Nat) : footOf (.idxa sz x i) env n = (objOf (ev env x)).map fun o => (true, o) := (rfl)
theorem foot_store (sz : Nat) (x i : Opd) (env : Env) (n : Nat) : footOf (.store sz x i) env n = (objOf (ev env x)).map fun o => (false, o) := (rfl)
theorem objOf_ref (o f : Nat) : objOf (.ref o f) = some o := (rfl)
theorem objOf_eref (o v n i f : Nat) : objOf (.eref o v n i f) = some o := (rfl)
theorem objOf_osl (o v n i f : Nat) : objOf (.osl o v n i f) = some o := (rfl)
theorem hits_nil (i : Nat) : hits i [] = [] := (rfl)
theorem hits_cons (i j : Nat) (f : Foot) (r : List (Nat × Foot)) : hits i ((j, f) :: r) = if j = i then f :: hits i r else hits i r := (rfl)
theorem aparts_nil (b : List Foot) : aparts [] b = true := (rfl)
theorem aparts_cons (f : Foot) (r b : List Foot) : aparts (f :: r) b = (b.all (fun g => apart f g) && aparts r b) := (rfl)
theorem apart_rs (a b : Nat) : apart (some (true, a)) (some (false, b)) = !(a == b) := (rfl)
theorem scalar_int (k : IntKind) (n : Int) : (AV.int k n).scalar = true := (rfl)
theorem cellsOf_int (k : IntKind) (n : Int) : (AV.int k n).cellsOf = [AV.int k n] := (rfl)
theorem scalar_bool (b : Bool) : (AV.bool b).scalar = true := (rfl)
theorem cellsOf_bool (b : Bool) : (AV.bool b).cellsOf = [AV.bool b] := (rfl)
theorem scalar_str (s : ByteArray) : (AV.str s).scalar = true := (rfl)
theorem cellsOf_str (s : ByteArray) : (AV.str s).cellsOf = [AV.str s] := (rfl)
theorem scalar_nilp  : AV.nilp.scalar = true := (rfl)
theorem cellsOf_nilp  : AV.nilp.cellsOf = [AV.nilp] := (rfl)
theorem scalar_rptr (cs : List AV) : (AV.rptr cs).scalar = true := (rfl)
theorem cellsOf_rptr (cs : List AV) : (AV.rptr cs).cellsOf = [AV.rptr cs] := (rfl)
theorem scalar_ref (o off : Nat) : (AV.ref o off).scalar = true := (rfl)
theorem cellsOf_ref (o off : Nat) : (AV.ref o off).cellsOf = [AV.ref o off] := (rfl)
theorem scalar_eref (o v n i off : Nat) : (AV.eref o v n i off).scalar = true := (rfl)
theorem cellsOf_eref (o v n i off : Nat) : (AV.eref o v n i off).cellsOf = [AV.eref o v n i off] := (rfl)
theorem scalar_nils  : AV.nils.scalar = true := (rfl)
theorem cellsOf_nils  : AV.nils.cellsOf = [AV.nils] := (rfl)
theorem scalar_sl (es : List (List AV)) : (AV.sl es).scalar = true := (rfl)
theorem cellsOf_sl (es : List (List AV)) : (AV.sl es).cellsOf = [AV.sl es] := (rfl)
theorem scalar_osl (o v n off len : Nat) : (AV.osl o v n off len).scalar = true := (rfl)
theorem cellsOf_osl (o v n off len : Nat) : (AV.osl o v n off len).cellsOf = [AV.osl o v n off len] := (rfl)
theorem scalar_fn (f : Nat) (caps : List AV) : (AV.fn f caps).scalar = true := (rfl)
theorem cellsOf_fn (f : Nat) (caps : List AV) : (AV.fn f caps).cellsOf = [AV.fn f caps] := (rfl)
theorem scalar_nilfn  : AV.nilfn.scalar = true := (rfl)
theorem cellsOf_nilfn  : AV.nilfn.cellsOf = [AV.nilfn] := (rfl)
theorem scalar_mapr (o : Nat) : (AV.mapr o).scalar = true := (rfl)
theorem cellsOf_mapr (o : Nat) : (AV.mapr o).cellsOf = [AV.mapr o] := (rfl)
theorem scalar_nilmap  : AV.nilmap.scalar = true := (rfl)
theorem cellsOf_nilmap  : AV.nilmap.cellsOf = [AV.nilmap] := (rfl)
theorem scalar_iface (t : Nat) (v : AV) : (AV.iface t v).scalar = true := (rfl)
theorem cellsOf_iface (t : Nat) (v : AV) : (AV.iface t v).cellsOf = [AV.iface t v] := (rfl)
theorem scalar_nilif  : AV.nilif.scalar = true := (rfl)
theorem cellsOf_nilif  : AV.nilif.cellsOf = [AV.nilif] := (rfl)
theorem scalar_agg (cs : List AV) : (AV.agg cs).scalar = false := (rfl)
theorem cellsOf_agg (cs : List AV) : (AV.agg cs).cellsOf = cs := (rfl)
theorem scalar_tup (cs : List AV) : (AV.tup cs).scalar = false := (rfl)
theorem cellsOf_tup (cs : List AV) : (AV.tup cs).cellsOf = [.tup cs] := (rfl)
def keepL (live : List Nat) (x : Env × St) : Res := some (.normal, prune live x.1, x.2)
theorem keepL_eq (live : List Nat) (e : Env) (s : St) : keepL live (e, s) = some (.normal, prune live e, s) := (rfl)
theorem Run_region' (base : Nat) (ops : List AOper) (live : List Nat) (env : Env) (σ : St) : Run G base (.region ops live) env σ = (runOps (Den G) base ops env σ).bind (keepL live) := Run_region G base ops live env σ
def keepD (ops : List AOper) (unord : List (Nat × Nat)) (live : List Nat) (x : Env × St × List (Nat × Foot)) : Res := if drawOk ops x.2.2 unord then some (.normal, prune live x.1, x.2.1) else none
theorem keepD_eq (ops : List AOper) (unord : List (Nat × Nat)) (live : List Nat) (e : Env) (s : St) (T : List (Nat × Foot)) : keepD ops unord live (e, s, T) = brk (drawOk ops T unord) (some (.normal, prune live e, s)) none := by
  unfold keepD brk; rfl
theorem Run_dregion' (base : Nat) (ops : List AOper) (unord : List (Nat × Nat)) (live : List Nat) (env : Env) (σ : St) : Run G base (.dregion ops unord live) env σ = (runD (Den G) base ops 0 env σ []).bind (keepD ops unord live) := Run_dregion G base ops unord live env σ
theorem next_normal (base : Nat) (b : ACode) (e : Env) (s : St) : next G base b (.normal, e, s) = Run G base b e s := (rfl)
theorem next_exit (base : Nat) (b : ACode) (i : Nat) (e : Env) (s : St) : next G base b (.exit i, e, s) = some (.exit i, e, s) := (rfl)
theorem next_ret (base : Nat) (b : ACode) (e : Env) (s : St) : next G base b (.ret, e, s) = some (.ret, e, s) := (rfl)
noncomputable def condR (G : Nat → Option AFunc) (base : Nat) (v : AV) (a b : ACode) (env : Env) (σ : St) : Res := match v with
  | .bool t => if t then Run G base a env σ else Run G base b env σ
  | _ => none
theorem Run_cond' (base : Nat) (c : Opd) (a b : ACode) (env : Env) (σ : St) : Run G base (.cond c a b) env σ = condR G base (ev env c) a b env σ := Run_cond G base c a b env σ
theorem condR_bool (base : Nat) (t : Bool) (a b : ACode) (env : Env) (σ : St) : condR G base (.bool t) a b env σ = brk t (Run G base a env σ) (Run G base b env σ) := by unfold condR brk; rfl
theorem outOf_normal (id : Nat) (e : Env) (s : St) : outOf id (.normal, e, s) = some (.normal, e, s) := (rfl)
theorem outOf_ret (id : Nat) (e : Env) (s : St) : outOf id (.ret, e, s) = some (.ret, e, s) := (rfl)
theorem outOf_exit (id i : Nat) (e : Env) (s : St) : outOf id (.exit i, e, s) = if i = id then some (.normal, e, s) else some (.exit i, e, s) := (rfl)
theorem again_normal (base keep : Nat) (live : List Nat) (c : ACode) (e : Env) (s : St) : again G base keep live c (.normal, e, s) = Run G base (.loop keep live c) e s := (rfl)
theorem again_exit (base keep : Nat) (live : List Nat) (c : ACode) (i : Nat) (e : Env) (s : St) : again G base keep live c (.exit i, e, s) = some (.exit i, e, s) := (rfl)
theorem again_ret (base keep : Nat) (live : List Nat) (c : ACode) (e : Env) (s : St) : again G base keep live c (.ret, e, s) = some (.ret, e, s) := (rfl)
variable {call : CallF} {base : Nat}
def thenOps (call : CallF) (base : Nat) (dst : Option Nat) (ops : List AOper) (env : Env) (x : AV × St × Bool) : Option (Env × St) := runOps call base ops (env.put dst x.1) x.2.1
theorem thenOps_eq (dst : Option Nat) (ops : List AOper) (env : Env) (v : AV) (s : St) (t : Bool) : thenOps call base dst ops env (v, s, t) = runOps call base ops (env.put dst v) s := (rfl)
theorem runOps_nil (env : Env) (σ : St) : runOps call base [] env σ = some (env, σ) := (rfl)
theorem runOps_plain (dst : Option Nat) (op : AOp) (ops : List AOper) (env : Env) (σ : St) : runOps call base (⟨dst, op, none⟩ :: ops) env σ = (stepC call base op env σ).bind (thenOps call base dst ops env) := by
  simp only [runOps, wanted]
  cases stepC call base op env σ with
  | none => rfl
  | some x => obtain ⟨v, s, t⟩ := x; rfl
def grd (call : CallF) (base : Nat) (v : AV) (want : Bool) (dst : Option Nat) (op : AOp) (ops : List AOper) (env : Env) (σ : St) : Option (Env × St) := match v with
  | .bool b => if b = want then (stepC call base op env σ).bind (thenOps call base dst ops env) else runOps call base ops (env.put dst (.tup [])) σ
  | .tup [] => runOps call base ops (env.put dst (.tup [])) σ
  | _ => none
theorem runOps_grd (dst : Option Nat) (op : AOp) (t : Nat) (want : Bool) (ops : List AOper) (env : Env) (σ : St) : runOps call base (⟨dst, op, some (t, want)⟩ :: ops) env σ = grd call base (env.get t) want dst op ops env σ := by
  simp only [runOps, wanted, grd]
  cases env.get t with
  | bool b =>
    simp only
    by_cases h : b = want
    · subst h
      simp only [BEq.rfl, if_pos]
      cases stepC call base op env σ with
      | none => rfl
      | some x => obtain ⟨v, s, t⟩ := x; rfl
    · have : (b == want) = false := by simpa using h
      simp only [this, if_neg h]
  | tup vs => cases vs <;> rfl
  | _ => rfl
theorem grd_true (b : Bool) (dst : Option Nat) (op : AOp) (ops : List AOper) (env : Env) (σ : St) : grd call base (.bool b) true dst op ops env σ = brk b ((stepC call base op env σ).bind (thenOps call base dst ops env)) (runOps call base ops (env.put dst (.tup [])) σ) := by
  unfold grd brk; rfl
theorem grd_false (b : Bool) (dst : Option Nat) (op : AOp) (ops : List AOper) (env : Env) (σ : St) : grd call base (.bool b) false dst op ops env σ = brk b (runOps call base ops (env.put dst (.tup [])) σ) ((stepC call base op env σ).bind (thenOps call base dst ops env)) := by
  unfold grd brk; cases b <;> rfl
def thenD (call : CallF) (base : Nat) (dst : Option Nat) (ops : List AOper) (i : Nat) (f : Foot) (env : Env) (T : List (Nat × Foot)) (x : AV × St × Bool) : Option (Env × St × List (Nat × Foot)) := runD call base ops (i + 1) (env.put dst x.1) x.2.1 (if x.2.2 then (i, f) :: T else T)
theorem thenD_true (dst : Option Nat) (ops : List AOper) (i : Nat) (f : Foot) (env : Env) (T : List (Nat × Foot)) (v : AV) (s : St) : thenD call base dst ops i f env T (v, s, true) = runD call base ops (i + 1) (env.put dst v) s ((i, f) :: T) := (rfl)
theorem thenD_false (dst : Option Nat) (ops : List AOper) (i : Nat) (f : Foot) (env : Env) (T : List (Nat × Foot)) (v : AV) (s : St) : thenD call base dst ops i f env T (v, s, false) = runD call base ops (i + 1) (env.put dst v) s T := (rfl)
theorem runD_nil (i : Nat) (env : Env) (σ : St) (T : List (Nat × Foot)) : runD call base [] i env σ T = some (env, σ, T) := (rfl)
theorem runD_plain (dst : Option Nat) (op : AOp) (ops : List AOper) (i : Nat) (env : Env) (σ : St) (T : List (Nat × Foot)) : runD call base (⟨dst, op, none⟩ :: ops) i env σ T = (stepC call base op env σ).bind (thenD call base dst ops i (footOf op env σ.length) env T) := by
  simp only [runD, wanted]
  cases stepC call base op env σ with
  | none => rfl
  | some x => obtain ⟨v, s, t⟩ := x; rfl
def grdD (call : CallF) (base : Nat) (v : AV) (want : Bool) (dst : Option Nat) (op : AOp) (ops : List AOper) (i : Nat) (env : Env) (σ : St) (T : List (Nat × Foot)) : Option (Env × St × List (Nat × Foot)) := match v with
  | .bool b => if b = want then (stepC call base op env σ).bind (thenD call base dst ops i (footOf op env σ.length) env T) else runD call base ops (i + 1) (env.put dst (.tup [])) σ T
  | .tup [] => runD call base ops (i + 1) (env.put dst (.tup [])) σ T
  | _ => none
theorem runD_grd (dst : Option Nat) (op : AOp) (t : Nat) (want : Bool) (ops : List AOper) (i : Nat) (env : Env) (σ : St) (T : List (Nat × Foot)) : runD call base (⟨dst, op, some (t, want)⟩ :: ops) i env σ T = grdD call base (env.get t) want dst op ops i env σ T := by
  simp only [runD, wanted, grdD]
  cases env.get t with
  | bool b =>
    simp only
    by_cases h : b = want
    · subst h
      simp only [BEq.rfl, if_pos]
      cases stepC call base op env σ with
      | none => rfl
      | some x => obtain ⟨v, s, t⟩ := x; rfl
    · have : (b == want) = false := by simpa using h
      simp only [this, if_neg h]
  | tup vs => cases vs <;> rfl
  | _ => rfl
theorem grdD_true (b : Bool) (dst : Option Nat) (op : AOp) (ops : List AOper) (i : Nat) (env : Env) (σ : St) (T : List (Nat × Foot)) : grdD call base (.bool b) true dst op ops i env σ T = brk b ((stepC call base op env σ).bind (thenD call base dst ops i (footOf op env σ.length) env T)) (runD call base ops (i + 1) (env.put dst (.tup [])) σ T) := by
  unfold grdD brk; rfl
theorem grdD_false (b : Bool) (dst : Option Nat) (op : AOp) (ops : List AOper) (i : Nat) (env : Env) (σ : St) (T : List (Nat × Foot)) : grdD call base (.bool b) false dst op ops i env σ T = brk b (runD call base ops (i + 1) (env.put dst (.tup [])) σ T) ((stepC call base op env σ).bind (thenD call base dst ops i (footOf op env σ.length) env T)) := by
  unfold grdD brk; cases b <;> rfl
theorem put_some (env : Env) (d : Nat) (v : AV) : env.put (some d) v = (d, v) :: env := (rfl)
theorem put_none (env : Env) (v : AV) : env.put none v = env := (rfl)
theorem get_cons (a : Nat) (v : AV) (r : Env) (t : Nat) : Env.get ((a, v) :: r) t = if a = t then v else r.get t := (rfl)
theorem get_nil (t : Nat) : Env.get [] t = .dead := (rfl)
theorem ev_t (env : Env) (n : Nat) : ev env (.t n) = env.get n := (rfl)
theorem ev_c (env : Env) (v : AV) : ev env (.c v) = v := (rfl)
theorem prune_nil (env : Env) : prune [] env = [] := (rfl)
theorem prune_cons (t : Nat) (r : List Nat) (env : Env) : prune (t :: r) env = (t, env.get t) :: prune r env := (rfl)
variable (env : Env) (σ : St)
theorem st_mov (x : Opd) : stepC call base (.mov x) env σ = some (ev env x, σ, false) := (rfl)
def pickV (v a b : AV) (σ : St) : Out := match v with
  | .bool t => some (if t then a else b, σ, false)
  | _ => none
theorem st_pick (c a b : Opd) : stepC call base (.pick c a b) env σ = pickV (ev env c) (ev env a) (ev env b) σ := (rfl)
theorem pickV_eq (t : Bool) (a b : AV) : pickV (.bool t) a b σ = brk t (some (a, σ, false)) (some (b, σ, false)) := by unfold pickV brk; cases t <;> rfl
theorem st_alloc (zs : List AV) : stepC call base (.alloc zs []) env σ = some (.ref σ.length 0, σ ++ [Ob.cells zs], true) := (rfl)
def promV (i sz : Nat) (r : List (Nat × Nat)) (cs : List AV) (σ : St) : Option AV → Option (List AV × St)
  | some .nils => if 0 < sz then promos r (cs.set i (.osl σ.length 0 0 0 0)) (σ ++ [Ob.arr 0 sz []]) else none
  | _ => none
theorem promos_nil (cs : List AV) : promos [] cs σ = some (cs, σ) := (rfl)
theorem promos_cons (i sz : Nat) (r : List (Nat × Nat)) (cs : List AV) : promos ((i, sz) :: r) cs σ = promV i sz r cs σ cs[i]? := by
  simp only [promos, promV]; rcases cs[i]? with _ | x <;> first | rfl | (cases x <;> rfl)
theorem promV_nils (i sz : Nat) (r : List (Nat × Nat)) (cs : List AV) (h : 0 < sz) : promV i sz r cs σ (some .nils) = promos r (cs.set i (.osl σ.length 0 0 0 0)) (σ ++ [Ob.arr 0 sz []]) := by simp [promV, h]
def allocV (x : List AV × St) : AV × St × Bool := (.ref x.2.length 0, x.2 ++ [Ob.cells x.1], true)
theorem allocV_eq (cs : List AV) (s : St) : allocV (cs, s) = (.ref s.length 0, s ++ [Ob.cells cs], true) := (rfl)
theorem st_allocp (zs : List AV) (p : Nat × Nat) (prs : List (Nat × Nat)) : stepC call base (.alloc zs (p :: prs)) env σ = (promos (p :: prs) zs σ).map allocV := (rfl)
def aggV (x : List AV × St) : AV × St × Bool := (.agg x.1, x.2, true)
theorem aggV_eq (cs : List AV) (s : St) : aggV (cs, s) = (.agg cs, s, true) := (rfl)
def promD (prs : List (Nat × Nat)) (σ : St) (cs : List AV) : Out := (promos prs cs σ).map aggV
theorem promD_eq (prs : List (Nat × Nat)) (cs : List AV) : promD prs σ cs = (promos prs cs σ).map aggV := (rfl)
theorem st_buildp (zs : List AV) (parts : List (Nat × Nat × Opd)) (prs : List (Nat × Nat)) : stepC call base (.buildp zs parts prs) env σ = (fillParts env parts zs).bind (promD prs σ) := by
  simp only [stepC, step]; cases fillParts env parts zs <;> rfl
theorem st_movp (sz : Nat) (x : Opd) : stepC call base (.movp sz x) env σ = (match ev env x with
    | .nils => if 0 < sz then some (.osl σ.length 0 0 0 0, σ ++ [Ob.arr 0 sz []], true) else none
    | _ => none) := (rfl)
def boxV (ro : Bool) (sz : Nat) (cs : List AV) (σ : St) : Out := if cs.length = sz ∧ cs.all AV.scalar then
      (if ro then (if norefs cs = true then some (.rptr cs, σ, false) else none)
       else some (.ref σ.length 0, σ ++ [Ob.cells cs], true))
    else none
theorem st_box (ro : Bool) (sz : Nat) (x : Opd) : stepC call base (.box ro sz x) env σ = boxV ro sz (ev env x).cellsOf σ := (rfl)
theorem st_build (zs : List AV) (parts : List (Nat × Nat × Opd)) : stepC call base (.build zs parts) env σ = (fillParts env parts zs).map fun cs => (.agg cs, σ, false) := (rfl)
def loadV (agg : Bool) (sz : Nat) (σ : St) (x : Option (List AV × Bool)) : Out := match x with
  | some (cs, t) => (front agg sz cs).map fun v => (v, σ, t)
  | none => none
theorem st_load (agg : Bool) (sz : Nat) (x : Opd) : stepC call base (.load agg sz x) env σ = loadV agg sz σ (deref σ (ev env x)) := (rfl)
theorem loadV_agg (sz : Nat) (cs : List AV) (t : Bool) (h : sz ≤ cs.length) : loadV true sz σ (some (cs, t)) = some (.agg (cs.take sz), σ, t) := by simp [loadV, front, h]
theorem loadV_one (x : AV) (cs : List AV) (t : Bool) : loadV false 1 σ (some (x :: cs, t)) = some (x, σ, t) := by simp [loadV, front]
theorem deref_rptr (cs : List AV) : deref σ (.rptr cs) = some (cs, false) := (rfl)
def derefR (off : Nat) : Option Ob → Option (List AV × Bool)
  | some (.cells cs) => some (cs.drop off, true)
  | _ => none
theorem deref_ref (o off : Nat) : deref σ (.ref o off) = derefR off σ[o]? := by
  simp only [deref, derefR]; rcases σ[o]? with _ | _ | _ | _ | _ <;> rfl
theorem derefR_cells (off : Nat) (cs : List AV) : derefR off (some (.cells cs)) = some (cs.drop off, true) := (rfl)
def offE (off : Nat) (e : List AV) : Option (List AV × Bool) := some (e.drop off, true)
theorem offE_eq (off : Nat) (e : List AV) : offE off e = some (e.drop off, true) := (rfl)
def derefE (ver n i off : Nat) : Option Ob → Option (List AV × Bool)
  | some (.arr ver' _ es) => if ver' = ver ∧ es.length = n then (es[i]?).bind (offE off) else none
  | _ => none
theorem deref_eref (o ver n i off : Nat) : deref σ (.eref o ver n i off) = derefE ver n i off σ[o]? := by
  simp only [deref, derefE]
  rcases σ[o]? with _ | _ | ⟨v, z, es⟩ | _ | _ <;> try rfl
  simp only
  split
  · cases es[i]? <;> rfl
  · rfl
theorem derefE_arr (ver n i off sz : Nat) (es : List (List AV)) (h : es.length = n) : derefE ver n i off (some (.arr ver sz es)) = (es[i]?).bind (offE off) := by simp [derefE, h]
theorem st_nilchk (x : Opd) : stepC call base (.nilchk x) env σ = (match ev env x with
    | .rptr cs => some (.rptr cs, σ, false)
    | .ref o off => some (.ref o off, σ, false)
    | .eref o v n i off => some (.eref o v n i off, σ, false)
    | .fn f caps => some (.fn f caps, σ, false)
    | _ => none) := (rfl)
theorem st_bin (op : BinOp) (kd : EK) (x y : Opd) : stepC call base (.bin op kd x y) env σ = (bin op kd (ev env x) (ev env y)).map fun v => (v, σ, false) := (rfl)
theorem bin_lss (kd : EK) (k : IntKind) (a b : Int) : bin .lss kd (.int k a) (.int k b) = some (.bool (decide (a < b))) := by simp [bin]
theorem bin_leq (kd : EK) (k : IntKind) (a b : Int) : bin .leq kd (.int k a) (.int k b) = some (.bool (decide (a ≤ b))) := by simp [bin]
theorem bin_gtr (kd : EK) (k : IntKind) (a b : Int) : bin .gtr kd (.int k a) (.int k b) = some (.bool (decide (b < a))) := by simp [bin]
theorem bin_geq (kd : EK) (k : IntKind) (a b : Int) : bin .geq kd (.int k a) (.int k b) = some (.bool (decide (b ≤ a))) := by simp [bin]
theorem bin_add (kd : EK) (k : IntKind) (a b : Int) : bin .add kd (.int k a) (.int k b) = some (.int k (k.wrap (a + b))) := by simp [bin]
theorem bin_sub (kd : EK) (k : IntKind) (a b : Int) : bin .sub kd (.int k a) (.int k b) = some (.int k (k.wrap (a - b))) := by simp [bin]
theorem bin_mul (kd : EK) (k : IntKind) (a b : Int) : bin .mul kd (.int k a) (.int k b) = some (.int k (k.wrap (a * b))) := by simp [bin]
theorem bin_eql (kd : EK) (x y : AV) : bin .eql kd x y = (eq2 kd x y).map .bool := (rfl)
theorem bin_neq (kd : EK) (x y : AV) : bin .neq kd x y = (eq2 kd x y).map fun b => .bool (!b) := (rfl)
theorem eq2_int (k : IntKind) (a b : Int) : eq2 .num (.int k a) (.int k b) = some (decide (a = b)) := by simp [eq2]
theorem eq2_str (a b : ByteArray) : eq2 .num (.str a) (.str b) = some (decide (a = b)) := by simp [eq2]
theorem eq2_bool (a b : Bool) : eq2 .bool (.bool a) (.bool b) = some (a == b) := by simp [eq2]
theorem eq2_agg (ks : List CK) (xs ys : List AV) : eq2 (.agg ks) (.agg xs) (.agg ys) = eqCells ks xs ys := by simp [eq2]
theorem eqc_int (ks : List CK) (k : IntKind) (a b : Int) (xs ys : List AV) : eqCells (.i :: ks) (.int k a :: xs) (.int k b :: ys) = (eqCells ks xs ys).map (decide (a = b) && ·) := by
  simp only [eqCells, eqB, if_pos]; cases eqCells ks xs ys <;> rfl
theorem eqc_bool (ks : List CK) (a b : Bool) (xs ys : List AV) : eqCells (.b :: ks) (.bool a :: xs) (.bool b :: ys) = (eqCells ks xs ys).map ((a == b) && ·) := by
  simp only [eqCells, eqB]; cases eqCells ks xs ys <;> rfl
theorem eqc_str (ks : List CK) (a b : ByteArray) (xs ys : List AV) : eqCells (.s :: ks) (.str a :: xs) (.str b :: ys) = (eqCells ks xs ys).map (decide (a = b) && ·) := by
  simp only [eqCells, eqB]; cases eqCells ks xs ys <;> rfl
theorem eqc_nil : eqCells [] [] [] = some true := (rfl)
theorem st_not (x : Opd) : stepC call base (.not x) env σ = (match ev env x with
    | .bool b => some (.bool (!b), σ, false)
    | _ => none) := (rfl)
theorem st_convi (k : IntKind) (x : Opd) : stepC call base (.convi k x) env σ = (match ev env x with
    | .int _ n => some (.int k (k.wrap n), σ, false)
    | _ => none) := (rfl)
def fldV (off : Nat) (v : AV) (σ : St) : Out := match v with
    | .rptr cs => if off ≤ cs.length then some (.rptr (cs.drop off), σ, false) else none
    | .ref o f => some (.ref o (f + off), σ, false)
    | .eref o v n i f => some (.eref o v n i (f + off), σ, false)
    | _ => none
theorem st_fld (off : Nat) (x : Opd) : stepC call base (.fld off x) env σ = fldV off (ev env x) σ := (rfl)
theorem fldV_rptr (off : Nat) (cs : List AV) (h : off ≤ cs.length) : fldV off (.rptr cs) σ = some (.rptr (cs.drop off), σ, false) := by simp [fldV, h]
theorem fldV_ref (off o f : Nat) : fldV off (.ref o f) σ = some (.ref o (f + off), σ, false) := (rfl)
theorem fldV_eref (off o v n i f : Nat) : fldV off (.eref o v n i f) σ = some (.eref o v n i (f + off), σ, false) := (rfl)
def fieldV (agg : Bool) (off sz : Nat) (v : AV) (σ : St) : Out := match v with
    | .agg cs => (front agg sz (cs.drop off)).map fun v => (v, σ, false)
    | _ => none
theorem st_field (agg : Bool) (off sz : Nat) (x : Opd) : stepC call base (.field agg off sz x) env σ = fieldV agg off sz (ev env x) σ := (rfl)
theorem fieldV_agg (off sz : Nat) (cs : List AV) : fieldV true off sz (.agg cs) σ = loadV true sz σ (some (cs.drop off, false)) := (rfl)
theorem fieldV_one (off sz : Nat) (cs : List AV) : fieldV false off sz (.agg cs) σ = loadV false sz σ (some (cs.drop off, false)) := (rfl)
def getE {α : Type} (l : List α) (i : Int) : Option α := if 0 ≤ i then l[i.toNat]? else none
theorem getE_nat {α : Type} (l : List α) (k : Nat) : getE l (k : Int) = l[k]? := by simp [getE]
theorem getE_zero {α : Type} (x : α) (l : List α) : getE (x :: l) 0 = some x := by simp [getE]
theorem getE_map {α β : Type} (f : α → β) (l : List α) (i : Int) : getE (l.map f) i = (getE l i).map f := by
  unfold getE; split <;> simp
theorem getE_at {α : Type} {L p : List α} {x : α} {r : List α} (h : L = p ++ x :: r) : getE L (p.length : Int) = some x := by subst h; simp [getE]
theorem getE_prev {α : Type} {L p : List α} {y : α} {r : List α} (h : L = p ++ y :: r) {i : Int} (hi : i = p.length) : getE L i = some y := by subst h; subst hi; simp [getE]
theorem wrap_i64 {a : Int} (h1 : -9223372036854775808 ≤ a) (h2 : a ≤ 9223372036854775807) : IntKind.wrap .i64 a = a := by
  simp [IntKind.wrap, IntKind.bits, IntKind.signed]; omega
theorem getE_mid {α : Type} (p : List α) (x : α) (r : List α) : getE (p ++ x :: r) (p.length : Int) = some x := by simp [getE]
def gotE (sz : Nat) (σ : St) (e : List AV) : Out := if e.length = sz then some (.rptr e, σ, false) else none
theorem gotE_eq (sz : Nat) (e : List AV) (h : e.length = sz) : gotE sz σ e = some (.rptr e, σ, false) := by simp [gotE, h]
def idxV (sz : Nat) (v i : AV) (σ : St) : Out := match v, i with
    | .sl es, .int _ i => (getE es i).bind (gotE sz σ)
    | .osl o ver n off len, .int _ i => match σ[o]? with
      | some (.arr ver' sz' es) => if ver' = ver ∧ es.length = n ∧ sz' = sz ∧ 0 ≤ i ∧ i.toNat < len ∧ off + len ≤ n then some (.eref o ver n (off + i.toNat) 0, σ, true) else none
      | _ => none
    | _, _ => none
theorem st_idxa (sz : Nat) (x i : Opd) : stepC call base (.idxa sz x i) env σ = idxV sz (ev env x) (ev env i) σ := by
  simp only [stepC, step, idxV]
  generalize ev env x = u
  generalize ev env i = v
  cases u <;> cases v <;> try rfl
  rename_i es k i
  simp only [getE]
  by_cases h : 0 ≤ i
  · rw [if_pos h, if_pos h]
    cases h2 : es[i.toNat]? with
    | none => rfl
    | some e => rfl
  · rw [if_neg h, if_neg h]; rfl
theorem idxV_sl (sz : Nat) (es : List (List AV)) (k : IntKind) (i : Int) : idxV sz (.sl es) (.int k i) σ = (getE es i).bind (gotE sz σ) := (rfl)
theorem st_extract (x : Opd) (i : Nat) : stepC call base (.extract x i) env σ = (match ev env x with
    | .tup vs => (vs[i]?).map fun v => (v, σ, false)
    | _ => none) := (rfl)
def lenV (v : AV) (σ : St) : Out := (elems σ v).map fun r => (.int .i64 r.1.length, σ, r.2)
theorem st_len (x : Opd) : stepC call base (.len false x) env σ = lenV (ev env x) σ := (rfl)
theorem lenV_sl (es : List (List AV)) : lenV (.sl es) σ = some (.int .i64 es.length, σ, false) := (rfl)
theorem lenV_nils : lenV .nils σ = some (.int .i64 0, σ, false) := (rfl)
theorem st_lens (x : Opd) : stepC call base (.len true x) env σ = (match ev env x with
      | .str s => some (.int .i64 s.size, σ, false)
      | _ => none) := (rfl)
theorem st_min (x y : Opd) : stepC call base (.min x y) env σ = (match ev env x, ev env y with
    | .int k a, .int k' b => if k = k' then some (.int k (if b < a then b else a), σ, false) else none
    | _, _ => none) := (rfl)
theorem st_isnil (ng : Bool) (x : Opd) : stepC call base (.isnil ng x) env σ = (match ev env x with
    | .nilif => some (.bool (!ng), σ, false)
    | .iface _ _ => some (.bool ng, σ, false)
    | _ => none) := (rfl)
def markO (ver n off len : Nat) (o : Nat) (σ : St) : Option Ob → Out
  | some (.arr ver' _ es) => if ver' = ver ∧ es.length = n ∧ off = 0 ∧ len = n ∧ 0 < n then some (.sl es, σ.set o .dead, true) else none
  | _ => none
def markV (σ : St) : AV → Out
  | .osl o ver n off len => markO ver n off len o σ σ[o]?
  | _ => none
theorem st_mark (x : Opd) : stepC call base (.mark x) env σ = markV σ (ev env x) := by
  simp only [stepC, step, markV]
  cases ev env x <;> rfl
theorem markV_osl (o ver n off len : Nat) : markV σ (.osl o ver n off len) = markO ver n off len o σ σ[o]? := (rfl)
theorem markO_full (ver n o sz : Nat) (es : List (List AV)) (h : es.length = n) (h0 : 0 < n) : markO ver n 0 n o σ (some (.arr ver sz es)) = some (.sl es, σ.set o .dead, true) := by
  simp [markO, h, h0]
attribute [go_sem] st_mark markV_osl markO_full
def movoO (o1 o2 v2 n off len : Nat) (σ : St) : Option Ob → Option Ob → Out
  | some (.arr w1 sz1 _), some (.arr w2 sz2 es) => if o1 ≠ o2 ∧ sz1 = sz2 ∧ w2 = v2 ∧ es.length = n ∧ off + len ≤ n then some (.osl o1 (w1 + 1) n off len, (σ.set o1 (.arr (w1 + 1) sz2 es)).set o2 .dead, true) else none
  | _, _ => none
def movoV (σ : St) : AV → AV → Out
  | .osl o1 _ _ _ _, .osl o2 v2 n off len => movoO o1 o2 v2 n off len σ σ[o1]? σ[o2]?
  | _, _ => none
theorem st_movo (d : Nat) (x : Opd) : stepC call base (.movo d x) env σ = movoV σ (env.get d) (ev env x) := by
  simp only [stepC, step, movoV]
  cases env.get d <;> cases ev env x <;> rfl
theorem movoV_osl (o1 a b c d o2 v2 n off len : Nat) : movoV σ (.osl o1 a b c d) (.osl o2 v2 n off len) = movoO o1 o2 v2 n off len σ σ[o1]? σ[o2]? := (rfl)
theorem movoO_full (o1 o2 v2 n off len w1 sz : Nat) (es0 es : List (List AV)) (h0 : o1 ≠ o2) (h1 : es.length = n) (h2 : off + len ≤ n) : movoO o1 o2 v2 n off len σ (some (.arr w1 sz es0)) (some (.arr v2 sz es)) = some (.osl o1 (w1 + 1) n off len, (σ.set o1 (.arr (w1 + 1) sz es)).set o2 .dead, true) := by
  simp [movoO, h0, h1, h2]
attribute [go_sem] st_movo movoV_osl movoO_full
theorem noref_iface (t : Nat) (v : AV) : (AV.iface t v).noref = v.noref := (rfl)
theorem noref_nilif : AV.nilif.noref = true := (rfl)
theorem norm_iface (t : Nat) (v : AV) : (AV.iface t v).norm = .iface t v := (rfl)
theorem norm_nilif : AV.nilif.norm = .nilif := (rfl)
theorem frz_iface (t : Nat) (v : AV) : frz σ (.iface t v) = some (.iface t v) := (rfl)
theorem frz_nilif : frz σ .nilif = some .nilif := (rfl)
theorem kill_iface (t : Nat) (v : AV) : kill σ (.iface t v) = σ := (rfl)
theorem kill_nilif : kill σ .nilif = σ := (rfl)
theorem under_iface (m t : Nat) (v : AV) : (AV.iface t v).under m = v.under m := (rfl)
theorem under_nilif (m : Nat) : AV.nilif.under m = true := (rfl)
attribute [go_sem] st_isnil noref_iface noref_nilif norm_iface norm_nilif frz_iface frz_nilif kill_iface kill_nilif under_iface under_nilif
theorem st_mm3 (mx : Bool) (x y z : Opd) : stepC call base (.mm3 mx x y z) env σ = (match ev env x, ev env y, ev env z with
    | .int k a, .int k' b, .int k'' c => if k = k' ∧ k = k'' then some (.int k (mm mx (mm mx a b) c), σ, false) else none
    | _, _, _ => none) := (rfl)
theorem st_max (x y : Opd) : stepC call base (.max x y) env σ = (match ev env x, ev env y with
    | .int k a, .int k' b => if k = k' then some (.int k (if a < b then b else a), σ, false) else none
    | _, _ => none) := (rfl)
theorem st_mkfn (f : Nat) (caps : List Opd) : stepC call base (.mkfn f caps) env σ = if (evs env caps).all AV.scalar then some (.fn f (evs env caps), σ, false) else none := (rfl)
def backP (σ : St) (x : AV × St) : Out := brk (x.1.noref && x.2.isEmpty) (some (x.1, σ, false)) (some (x.1.shift σ.length, σ ++ shiftSt σ.length x.2, true))
def backR (x : AV × St) : Out := some (x.1, x.2, true)
noncomputable def call0 (G : Nat → Option AFunc) (f : Nat) (as : List AV) (σ : St) : Out := brk (norefs as) ((Den G f as []).bind (backP σ)) ((Den G f as σ).bind backR)
theorem st_call0 (f : Nat) (args : List Opd) : stepC (Den G) base (.call 0 f args) env σ = call0 G f (norms (evs env args)) σ := by
  simp only [stepC, callX, callOp_bind, call0]
  rw [if_neg (by decide), if_neg (show ¬ (((0 : Nat) == 4 && !norefs (norms (evs env args))) = true) by simp), if_neg (by decide), if_neg (by decide)]
  unfold brk
  simp only [Option.bind_some]
  by_cases h : norefs (norms (evs env args)) = true
  · rw [if_pos h, if_pos h]
    cases Den G f (norms (evs env args)) [] with
    | none => rfl
    | some x => simp only [Option.bind_some, backP]; unfold brk; rfl
  · rw [if_neg h, if_neg h]
    cases Den G f (norms (evs env args)) σ with
    | none => rfl
    | some x => rfl
noncomputable def call4 (G : Nat → Option AFunc) (f : Nat) (as : List AV) (σ : St) : Out := brk (norefs as) ((Den G f as []).bind (backP σ)) none
theorem call4_eq (f : Nat) (as : List AV) : call4 G f as σ = brk (norefs as) ((Den G f as []).bind (backP σ)) none := (rfl)
theorem st_call4 (f : Nat) (args : List Opd) : stepC (Den G) base (.call 4 f args) env σ = call4 G f (norms (evs env args)) σ := by
  simp only [stepC, callX, callOp_bind, call4]
  rw [if_neg (by decide)]
  unfold brk
  by_cases h : norefs (norms (evs env args)) = true
  · rw [if_neg (by simp [h]), if_neg (by decide), if_neg (by decide)]
    simp only [Option.bind_some, if_pos h]
    cases Den G f (norms (evs env args)) [] with
    | none => rfl
    | some x => simp only [Option.bind_some, backP]; unfold brk; rfl
  · rw [if_pos (by simp [h]), if_neg h]
theorem foot_call4 (n : Nat) (f : Nat) (args : List Opd) : footOf (.call 4 f args) env n = some (false, n) := (rfl)
theorem apart_wr (n a : Nat) : apart (some (false, n)) (some (true, a)) = false := (rfl)
theorem lateOk_some (o : AOper) (as bs : List Foot) : lateOk (some o) as bs = (isMk o.op && lates as bs) := (rfl)
theorem lates_nil (b : List Foot) : lates [] b = true := (rfl)
theorem lates_cons (f : Foot) (r b : List Foot) : lates (f :: r) b = (b.all (fun g => lateF f g) && lates r b) := (rfl)
theorem isMk_call4 (f : Nat) (args : List Opd) : isMk (.call 4 f args) = true := (rfl)
theorem lateF_rd (n a : Nat) : lateF (some (false, n)) (some (true, a)) = decide (a < n) := (rfl)
theorem call0_eq (f : Nat) (as : List AV) : call0 G f as σ = brk (norefs as) ((Den G f as []).bind (backP σ)) ((Den G f as σ).bind backR) := (rfl)
theorem backP_eq (v : AV) (s : St) : backP σ (v, s) = brk (v.noref && s.isEmpty) (some (v, σ, false)) (some (v.shift σ.length, σ ++ shiftSt σ.length s, true)) := (rfl)
theorem backR_eq (v : AV) (s : St) : backR (v, s) = some (v, s, true) := (rfl)
theorem norms_nil : norms [] = [] := (rfl)
theorem norms_cons (x : AV) (r : List AV) : norms (x :: r) = x.norm :: norms r := (rfl)
theorem norm_int (k : IntKind) (n : Int) : (AV.int k n).norm = .int k n := (rfl)
theorem norm_bool (b : Bool) : (AV.bool b).norm = .bool b := (rfl)
theorem norm_str (s : ByteArray) : (AV.str s).norm = .str s := (rfl)
theorem norm_nilp : AV.nilp.norm = .nilp := (rfl)
theorem norm_rptr (cs : List AV) : (AV.rptr cs).norm = .rptr cs := (rfl)
theorem norm_ref (o off : Nat) : (AV.ref o off).norm = .ref o off := (rfl)
theorem norm_eref (o v n i off : Nat) : (AV.eref o v n i off).norm = .eref o v n i off := (rfl)
theorem norm_nils : AV.nils.norm = .sl [] := (rfl)
theorem norm_sl (es : List (List AV)) : (AV.sl es).norm = .sl es := (rfl)
theorem norm_osl (o v n off len : Nat) : (AV.osl o v n off len).norm = .osl o v n off len := (rfl)
theorem norm_fn (f : Nat) (caps : List AV) : (AV.fn f caps).norm = .fn f caps := (rfl)
theorem norm_nilfn : AV.nilfn.norm = .nilfn := (rfl)
theorem norm_agg (cs : List AV) : (AV.agg cs).norm = .agg (norms cs) := (rfl)
theorem norm_tup (cs : List AV) : (AV.tup cs).norm = .tup (norms cs) := (rfl)
theorem norefs_nil : norefs [] = true := (rfl)
theorem norefs_cons (x : AV) (r : List AV) : norefs (x :: r) = (x.noref && norefs r) := (rfl)
theorem noref_int (k : IntKind) (n : Int) : (AV.int k n).noref = true := (rfl)
theorem noref_bool (b : Bool) : (AV.bool b).noref = true := (rfl)
theorem noref_str (s : ByteArray) : (AV.str s).noref = true := (rfl)
theorem noref_nilp : AV.nilp.noref = true := (rfl)
theorem noref_rptr (cs : List AV) : (AV.rptr cs).noref = true := (rfl)
theorem noref_ref (o off : Nat) : (AV.ref o off).noref = false := (rfl)
theorem noref_eref (o v n i off : Nat) : (AV.eref o v n i off).noref = false := (rfl)
theorem noref_nils : AV.nils.noref = true := (rfl)
theorem noref_sl (es : List (List AV)) : (AV.sl es).noref = true := (rfl)
theorem noref_osl (o v n off len : Nat) : (AV.osl o v n off len).noref = false := (rfl)
theorem noref_fn (f : Nat) (caps : List AV) : (AV.fn f caps).noref = norefs caps := (rfl)
theorem noref_nilfn : AV.nilfn.noref = true := (rfl)
theorem noref_agg (cs : List AV) : (AV.agg cs).noref = norefs cs := (rfl)
theorem noref_tup (cs : List AV) : (AV.tup cs).noref = norefs cs := (rfl)
theorem evs_nil : evs env [] = [] := (rfl)
theorem evs_cons (x : Opd) (r : List Opd) : evs env (x :: r) = ev env x :: evs env r := (rfl)
def finV (own : OwnK) (base : Nat) (σ : St) (vs : List AV) : Option (AV × St) := fin own base (oneOf vs) σ
theorem leave_normal (F : AFunc) (base : Nat) (env : Env) (σ : St) : leave F base (some (.normal, env, σ)) = (resVals env σ F.results).bind (finV F.own base σ) := by
  simp only [leave]; cases resVals env σ F.results <;> rfl
theorem leave_ret (F : AFunc) (base : Nat) (env : Env) (σ : St) : leave F base (some (.ret, env, σ)) = (resVals env σ F.results).bind (finV F.own base σ) := by
  simp only [leave]; cases resVals env σ F.results <;> rfl
theorem leave_brk (F : AFunc) (base : Nat) (b : Bool) (X Y : Res) : leave F base (brk b X Y) = brk b (leave F base X) (leave F base Y) := by
  cases b
  · rw [brk_false, brk_false]
  · rw [brk_true, brk_true]
theorem resVals_nil : resVals env σ [] = some [] := (rfl)
theorem resVals_t (n : Nat) (r : List ARes) : resVals env σ (.t n :: r) = (resVals env σ r).map (env.get n :: ·) := (rfl)
theorem resVals_cell (n : Nat) (agg : Bool) (sz : Nat) (r : List ARes) : resVals env σ (.cell n agg sz :: r) = ((loadV agg sz σ (deref σ (env.get n))).bind fun x => (resVals env σ r).map (x.1 :: ·)) := by
  simp only [resVals]
  cases deref σ (env.get n) with
  | none => rfl
  | some x =>
    obtain ⟨cs, t⟩ := x
    simp only [loadV]
    cases resVals env σ r with
    | none => cases front agg sz cs <;> rfl
    | some vs =>
      simp only
      cases front agg sz cs <;> rfl
theorem finV_one (own : OwnK) (v : AV) : finV own base σ [v] = fin own base v σ := (rfl)
theorem finV_two (own : OwnK) (v u : AV) (r : List AV) : finV own base σ (v :: u :: r) = fin own base (.tup (v :: u :: r)) σ := (rfl)
theorem fin_false (v : AV) : fin .no base v σ = (frz σ v).bind fun v' => brk v'.noref (some (v', (kill σ v).take base)) (some (v', kill σ v)) := by
  simp only [fin]; unfold brk; cases frz σ v <;> rfl
theorem frz_int (k : IntKind) (n : Int) : frz σ (.int k n) = some (.int k n) := (rfl)
theorem frz_bool (b : Bool) : frz σ (.bool b) = some (.bool b) := (rfl)
theorem frz_str (s : ByteArray) : frz σ (.str s) = some (.str s) := (rfl)
theorem frz_nilp : frz σ .nilp = some .nilp := (rfl)
theorem frz_rptr (cs : List AV) : frz σ (.rptr cs) = some (.rptr cs) := (rfl)
theorem frz_nils : frz σ .nils = some (.sl []) := (rfl)
theorem frz_sl (es : List (List AV)) : frz σ (.sl es) = some (.sl es) := (rfl)
theorem frz_fn (f : Nat) (caps : List AV) : frz σ (.fn f caps) = some (.fn f caps) := (rfl)
theorem frz_agg (cs : List AV) : frz σ (.agg cs) = (frzs σ cs).map .agg := (rfl)
theorem frz_tup (cs : List AV) : frz σ (.tup cs) = (frzs σ cs).map .tup := (rfl)
theorem frzs_nil : frzs σ [] = some [] := (rfl)
theorem frzs_cons (x : AV) (r : List AV) : frzs σ (x :: r) = (frz σ x).bind fun a => (frzs σ r).map (a :: ·) := by
  show (match frz σ x, frzs σ r with | some a, some b => some (a :: b) | _, _ => none) = _
  cases frz σ x <;> cases frzs σ r <;> rfl
theorem kill_int (k : IntKind) (n : Int) : kill σ (.int k n) = σ := (rfl)
theorem kill_bool (b : Bool) : kill σ (.bool b) = σ := (rfl)
theorem kill_str (s : ByteArray) : kill σ (.str s) = σ := (rfl)
theorem kill_nilp : kill σ .nilp = σ := (rfl)
theorem kill_rptr (cs : List AV) : kill σ (.rptr cs) = σ := (rfl)
theorem kill_nils : kill σ .nils = σ := (rfl)
theorem kill_sl (es : List (List AV)) : kill σ (.sl es) = σ := (rfl)
theorem kill_agg (cs : List AV) : kill σ (.agg cs) = kills σ cs := (rfl)
theorem kill_tup (cs : List AV) : kill σ (.tup cs) = kills σ cs := (rfl)
theorem kills_nil : kills σ [] = σ := (rfl)
theorem kills_cons (x : AV) (r : List AV) : kills σ (x :: r) = kills (kill σ x) r := (rfl)
theorem twice_not {own : OwnK} (h : own ≠ .yesn) (f : List AV → Option (AV × St)) (args : List AV) : twice own f args = f args := by
  cases own <;> first | rfl | exact absurd rfl h
theorem Den_of {f : Nat} {F : AFunc} {args : List AV} (h : G f = some F) (hl : args.length = F.nparams) (hy : F.own ≠ .yesn := by decide) (hx : F.ex = none := by rfl) : Den G f args σ = leave F σ.length (Run G σ.length F.body (initEnv 0 args) σ) := by
  rw [Den_eq]; simp [h, hl, hx, twice_not hy]
theorem Den_x {f : Nat} {F : AFunc} {args : List AV} {x : XName} (h : G f = some F) (hl : args.length = F.nparams) (hx : F.ex = some x := by rfl) : Den G f args σ = xrun x args σ := by
  rw [Den_eq]; simp [h, hl, hx]
def kc {α β γ : Type} (f : α → Option β) (g : β → Option γ) (x : α) : Option γ := (f x).bind g
theorem bind_bind {α β γ : Type} (x : Option α) (f : α → Option β) (g : β → Option γ) : (x.bind f).bind g = x.bind (kc f g) := by cases x <;> rfl
theorem kc_app {α β γ : Type} (x : α) (f : α → Option β) (g : β → Option γ) : kc f g x = (f x).bind g := (rfl)
theorem some_kc {α β γ : Type} (x : α) (f : α → Option β) (g : β → Option γ) : (some x).bind (kc f g) = (f x).bind g := (rfl)
theorem condR_true (base : Nat) (a b : ACode) (env : Env) (σ : St) : condR G base (.bool true) a b env σ = Run G base a env σ := (rfl)
theorem condR_false (base : Nat) (a b : ACode) (env : Env) (σ : St) : condR G base (.bool false) a b env σ = Run G base b env σ := (rfl)
theorem condR_split {β : Type} {base : Nat} {t : Bool} {a b : ACode} {env : Env} {σ : St} {K : Ex × Env × St → Option β} {Z : Option β} (h1 : t = true → (Run G base a env σ).bind K = Z) (h0 : t = false → (Run G base b env σ).bind K = Z) : (condR G base (.bool t) a b env σ).bind K = Z := by
  cases t
  · exact h0 rfl
  · exact h1 rfl
theorem grd_tt (dst : Option Nat) (op : AOp) (ops : List AOper) (env : Env) (σ : St) : grd call base (.bool true) true dst op ops env σ = (stepC call base op env σ).bind (thenOps call base dst ops env) := (rfl)
theorem grd_tf (dst : Option Nat) (op : AOp) (ops : List AOper) (env : Env) (σ : St) : grd call base (.bool true) false dst op ops env σ = runOps call base ops (env.put dst (.tup [])) σ := (rfl)
theorem grd_ft (dst : Option Nat) (op : AOp) (ops : List AOper) (env : Env) (σ : St) : grd call base (.bool false) true dst op ops env σ = runOps call base ops (env.put dst (.tup [])) σ := (rfl)
theorem grd_ff (dst : Option Nat) (op : AOp) (ops : List AOper) (env : Env) (σ : St) : grd call base (.bool false) false dst op ops env σ = (stepC call base op env σ).bind (thenOps call base dst ops env) := (rfl)
theorem grd_split {β : Type} {b want : Bool} {dst : Option Nat} {op : AOp} {ops : List AOper} {env : Env} {σ : St} {K : Env × St → Option β} {Z : Option β} (h1 : b = true → (grd call base (.bool true) want dst op ops env σ).bind K = Z) (h0 : b = false → (grd call base (.bool false) want dst op ops env σ).bind K = Z) : (grd call base (.bool b) want dst op ops env σ).bind K = Z := by
  cases b
  · exact h0 rfl
  · exact h1 rfl
theorem grdD_tt (dst : Option Nat) (op : AOp) (ops : List AOper) (i : Nat) (env : Env) (σ : St) (T : List (Nat × Foot)) : grdD call base (.bool true) true dst op ops i env σ T = (stepC call base op env σ).bind (thenD call base dst ops i (footOf op env σ.length) env T) := (rfl)
theorem grdD_tf (dst : Option Nat) (op : AOp) (ops : List AOper) (i : Nat) (env : Env) (σ : St) (T : List (Nat × Foot)) : grdD call base (.bool true) false dst op ops i env σ T = runD call base ops (i + 1) (env.put dst (.tup [])) σ T := (rfl)
theorem grdD_ft (dst : Option Nat) (op : AOp) (ops : List AOper) (i : Nat) (env : Env) (σ : St) (T : List (Nat × Foot)) : grdD call base (.bool false) true dst op ops i env σ T = runD call base ops (i + 1) (env.put dst (.tup [])) σ T := (rfl)
theorem grdD_ff (dst : Option Nat) (op : AOp) (ops : List AOper) (i : Nat) (env : Env) (σ : St) (T : List (Nat × Foot)) : grdD call base (.bool false) false dst op ops i env σ T = (stepC call base op env σ).bind (thenD call base dst ops i (footOf op env σ.length) env T) := (rfl)
theorem grdD_split {β : Type} {b want : Bool} {dst : Option Nat} {op : AOp} {ops : List AOper} {i : Nat} {env : Env} {σ : St} {T : List (Nat × Foot)} {K : Env × St × List (Nat × Foot) → Option β} {Z : Option β} (h1 : b = true → (grdD call base (.bool true) want dst op ops i env σ T).bind K = Z) (h0 : b = false → (grdD call base (.bool false) want dst op ops i env σ T).bind K = Z) : (grdD call base (.bool b) want dst op ops i env σ T).bind K = Z := by
  cases b
  · exact h0 rfl
  · exact h1 rfl
theorem grd_skip (want : Bool) (dst : Option Nat) (op : AOp) (ops : List AOper) (env : Env) (σ : St) : grd call base (.tup []) want dst op ops env σ = runOps call base ops (env.put dst (.tup [])) σ := (rfl)
theorem grdD_skip (want : Bool) (dst : Option Nat) (op : AOp) (ops : List AOper) (i : Nat) (env : Env) (σ : St) (T : List (Nat × Foot)) : grdD call base (.tup []) want dst op ops i env σ T = runD call base ops (i + 1) (env.put dst (.tup [])) σ T := (rfl)
theorem pickV_t (a b : AV) : pickV (.bool true) a b σ = some (a, σ, false) := (rfl)
theorem pickV_f (a b : AV) : pickV (.bool false) a b σ = some (b, σ, false) := (rfl)
theorem pickV_split {β : Type} {t : Bool} {a b : AV} {σ : St} {K : AV × St × Bool → Option β} {Z : Option β} (h1 : t = true → (some (a, σ, false)).bind K = Z) (h0 : t = false → (some (b, σ, false)).bind K = Z) : (pickV (.bool t) a b σ).bind K = Z := by
  cases t
  · exact h0 rfl
  · exact h1 rfl
def leaveR (own : OwnK) (rs : List ARes) (base : Nat) : Ex × Env × St → Option (AV × St)
  | (.exit _, _, _) => none
  | (_, env, σ) => (resVals env σ rs).bind (finV own base σ)
theorem leaveR_normal (own : OwnK) (rs : List ARes) (base : Nat) (env : Env) (σ : St) : leaveR own rs base (.normal, env, σ) = (resVals env σ rs).bind (finV own base σ) := (rfl)
theorem leaveR_ret (own : OwnK) (rs : List ARes) (base : Nat) (env : Env) (σ : St) : leaveR own rs base (.ret, env, σ) = (resVals env σ rs).bind (finV own base σ) := (rfl)
theorem leave_bind (F : AFunc) (base : Nat) (x : Res) : leave F base x = x.bind (leaveR F.own F.results base) := by
  cases x with
  | none => rfl
  | some x =>
    obtain ⟨ex, e, s⟩ := x
    cases ex with
    | normal => exact leave_normal F base e s
    | ret => exact leave_ret F base e s
    | exit i => rfl
theorem Den_ofK {f : Nat} {F : AFunc} {args : List AV} (h : G f = some F) (hl : args.length = F.nparams) (hy : F.own ≠ .yesn := by decide) (hx : F.ex = none := by rfl) : Den G f args σ = (Run G σ.length F.body (initEnv 0 args) σ).bind (leaveR F.own F.results σ.length) := by
  rw [Den_of σ h hl hy hx, leave_bind]
theorem Den_two {f : Nat} {F : AFunc} {ys : List AV} (h : G f = some F) (hl : (AV.sl [] :: ys).length = F.nparams) (hy : F.own = .yesn) {r : AV × St}
    (h1 : (Run G σ.length F.body (initEnv 0 (.nil0 :: ys)) σ).bind (leaveR F.own F.results σ.length) = some r) (h2 : (Run G σ.length F.body (initEnv 0 (.nne :: ys)) σ).bind (leaveR F.own F.results σ.length) = some r) (ha : r.1.alike r.1 = true) (hs : alikes r.2 r.2 = true) (hx : F.ex = none := by rfl) : Den G f (.sl [] :: ys) σ = some r := by
  rw [Den_eq]
  simp only [h, hl, if_true, hx, hy, twice]
  rw [leave_bind, leave_bind, h1, h2]
  exact both_ok ha hs
theorem Den_one {f : Nat} {F : AFunc} {e : List AV} {es : List (List AV)} {ys : List AV} (h : G f = some F) (hl : (AV.sl (e :: es) :: ys).length = F.nparams) (hx : F.ex = none := by rfl) : Den G f (.sl (e :: es) :: ys) σ = (Run G σ.length F.body (initEnv 0 (.sl (e :: es) :: ys)) σ).bind (leaveR F.own F.results σ.length) := by
  rw [Den_eq]
  simp only [h, hl, if_true, hx]
  rw [← leave_bind]
  cases F.own <;> rfl
noncomputable def loopOn (G : Nat → Option AFunc) (base keep : Nat) (live : List Nat) (c : ACode) (x : Env × St) : Res := Run G base (.loop keep live c) x.1 x.2
theorem loopOn_eq (base keep : Nat) (live : List Nat) (c : ACode) (e : Env) (s : St) : loopOn G base keep live c (e, s) = Run G base (.loop keep live c) e s := (rfl)
theorem prune_mem {live : List Nat} {env : Env} : ∀ {t : Nat}, t ∈ live → (prune live env).get t = env.get t := by
  induction live with
  | nil => intro t h; simp at h
  | cons a r ih =>
    intro t h
    simp only [prune, Env.get]
    by_cases e : a = t
    · subst e; simp
    · rw [if_neg e]
      rcases List.mem_cons.1 h with h | h
      · exact absurd h.symm e
      · exact ih h
theorem prune_sub : ∀ {r live : List Nat} {env : Env}, (∀ t ∈ r, t ∈ live) → prune r (prune live env) = prune r env
  | [], _, _, _ => rfl
  | a :: r, live, env, h => by
    simp only [prune]
    rw [prune_mem (h a (by simp)), prune_sub (fun t ht => h t (by simp [ht]))]
theorem gc_idem {base keep : Nat} {live : List Nat} {env e : Env} {σ s : St} (h : gc base keep live env σ = some (e, s)) : gc base keep live e s = some (e, s) := by
  simp only [gc] at h ⊢
  split at h
  · rename_i hl
    simp at h; obtain ⟨rfl, rfl⟩ := h
    rw [if_pos hl, prune_sub (fun t ht => ht)]
  · split at h
    · simp at h; obtain ⟨rfl, rfl⟩ := h
      rw [if_pos (by simp; omega), prune_sub (fun t ht => ht)]
    · exact absurd h (by simp)
theorem Run_loop_gc (base keep : Nat) (live : List Nat) (c : ACode) (env : Env) (σ : St) : Run G base (.loop keep live c) env σ = (gc base keep live env σ).bind (loopOn G base keep live c) := by
  cases h : gc base keep live env σ with
  | none => rw [Run_loop, h]; rfl
  | some x =>
    obtain ⟨e, s⟩ := x
    simp only [Option.bind_some, loopOn_eq]
    rw [Run_loop, h, Run_loop G base keep live c e s, gc_idem h]
theorem again_gc (base keep : Nat) (live : List Nat) (c : ACode) (e : Env) (s : St) : again G base keep live c (.normal, e, s) = (gc base keep live e s).bind (loopOn G base keep live c) := by
  rw [again_normal, Run_loop_gc]
def gcV (m : Nat) (small : Bool) (ok : Bool) (env : Env) (σ : St) : Option (Env × St) := if small then some (env, σ) else if ok then some (env, σ.take m) else none
theorem gc_eq (base keep : Nat) (live : List Nat) (env : Env) (σ : St) : gc base keep live env σ = gcV (base + keep) (decide (σ.length ≤ base + keep)) (envUnder (base + keep) (prune live env) && obsUnder (base + keep) ((σ.take (base + keep)).drop base)) (prune live env) σ := by
  simp only [gc, gcV, decide_eq_true_eq]
theorem gcV_small (m : Nat) (ok : Bool) (env : Env) (σ : St) : gcV m true ok env σ = some (env, σ) := (rfl)
theorem gcV_ok (m : Nat) (env : Env) (σ : St) : gcV m false true env σ = some (env, σ.take m) := (rfl)
theorem envUnder_nil (m : Nat) : envUnder m [] = true := (rfl)
theorem envUnder_cons (m t : Nat) (v : AV) (r : Env) : envUnder m ((t, v) :: r) = (v.under m && envUnder m r) := (rfl)
theorem obsUnder_nil (m : Nat) : obsUnder m [] = true := (rfl)
theorem obsUnder_cons (m : Nat) (x : Ob) (r : List Ob) : obsUnder m (x :: r) = (x.under m && obsUnder m r) := (rfl)
theorem obUnder_cells (m : Nat) (cs : List AV) : (Ob.cells cs).under m = unders m cs := (rfl)
theorem obUnder_arr (m v sz : Nat) (es : List (List AV)) : (Ob.arr v sz es).under m = true := (rfl)
theorem obUnder_dead (m : Nat) : Ob.dead.under m = true := (rfl)
theorem unders_nil (m : Nat) : unders m [] = true := (rfl)
theorem unders_cons (m : Nat) (x : AV) (r : List AV) : unders m (x :: r) = (x.under m && unders m r) := (rfl)
theorem under_int (m : Nat) (k : IntKind) (n : Int) : (AV.int k n).under m = true := (rfl)
theorem under_bool (m : Nat) (b : Bool) : (AV.bool b).under m = true := (rfl)
theorem under_str (m : Nat) (s : ByteArray) : (AV.str s).under m = true := (rfl)
theorem under_nilp (m : Nat) : AV.nilp.under m = true := (rfl)
theorem under_rptr (m : Nat) (cs : List AV) : (AV.rptr cs).under m = true := (rfl)
theorem under_nils (m : Nat) : AV.nils.under m = true := (rfl)
theorem under_sl (m : Nat) (es : List (List AV)) : (AV.sl es).under m = true := (rfl)
theorem under_dead (m : Nat) : AV.dead.under m = true := (rfl)
theorem under_nilfn (m : Nat) : AV.nilfn.under m = true := (rfl)
theorem under_ref (m o f : Nat) : (AV.ref o f).under m = decide (o < m) := (rfl)
theorem under_eref (m o v n i f : Nat) : (AV.eref o v n i f).under m = decide (o < m) := (rfl)
theorem under_osl (m o v n f l : Nat) : (AV.osl o v n f l).under m = decide (o < m) := (rfl)
theorem under_fn (m f : Nat) (cs : List AV) : (AV.fn f cs).under m = unders m cs := (rfl)
theorem under_agg (m : Nat) (cs : List AV) : (AV.agg cs).under m = unders m cs := (rfl)
theorem under_tup (m : Nat) (cs : List AV) : (AV.tup cs).under m = unders m cs := (rfl)
def storeV (base sz : Nat) (v : AV) (ys : List AV) (σ : St) : Out := if ys.length = sz ∧ ys.all AV.scalar then
      match v with
      | .ref o off => match σ[o]? with
        | some (.cells cs) => if off + sz ≤ cs.length ∧ storable base o cs ys then some (.dead, σ.set o (.cells (over cs off ys)), true) else none
        | _ => none
      | .eref o ver n i off => match σ[o]? with
        | some (.arr ver' sz' es) => if ver' = ver ∧ es.length = n then (match es[i]? with
          | some e => if off + sz ≤ e.length then (match frzCells ys with
            | some zs => some (.dead, σ.set o (.arr ver' sz' (es.set i (over e off zs))), true)
            | none => none) else none
          | none => none) else none
        | _ => none
      | _ => none
    else none
theorem st_store (sz : Nat) (x y : Opd) : stepC call base (.store sz x y) env σ = storeV base sz (ev env x) (ev env y).cellsOf σ := (rfl)
def storeR (base sz o off : Nat) (ys : List AV) (σ : St) : Option Ob → Out
  | some (.cells cs) => if off + sz ≤ cs.length ∧ storable base o cs ys then some (.dead, σ.set o (.cells (over cs off ys)), true) else none
  | _ => none
def storeEl (o off sz ver sz' i : Nat) (es : List (List AV)) (σ : St) (ys : List AV) (e : List AV) : Out := if off + sz ≤ e.length then (match frzCells ys with
            | some zs => some (.dead, σ.set o (.arr ver sz' (es.set i (over e off zs))), true)
            | none => none) else none
def storeE (sz o ver n i off : Nat) (ys : List AV) (σ : St) : Option Ob → Out
  | some (.arr ver' sz' es) => if ver' = ver ∧ es.length = n then (es[i]?).bind (storeEl o off sz ver' sz' i es σ ys) else none
  | _ => none
theorem storeV_ref (sz o off : Nat) (ys : List AV) (h1 : ys.length = sz) (h2 : ys.all AV.scalar = true) : storeV base sz (.ref o off) ys σ = storeR base sz o off ys σ σ[o]? := by
  unfold storeV
  rw [if_pos ⟨h1, h2⟩]
  simp only [storeR]
theorem storeR_cells (sz o off : Nat) (ys cs : List AV) (h : off + sz ≤ cs.length) : storeR 0 sz o off ys σ (some (.cells cs)) = some (.dead, σ.set o (.cells (over cs off ys)), true) := by
  simp [storeR, h, storable]
theorem storeV_eref (sz o ver n i off : Nat) (ys : List AV) (h1 : ys.length = sz) (h2 : ys.all AV.scalar = true) : storeV base sz (.eref o ver n i off) ys σ = storeE sz o ver n i off ys σ σ[o]? := by
  unfold storeV
  rw [if_pos ⟨h1, h2⟩]
  simp only [storeE]
  rcases σ[o]? with _ | _ | ⟨v, z, es⟩ | _ | _ <;> try rfl
  simp only
  split
  · cases es[i]? <;> rfl
  · rfl
theorem storeE_arr (sz o ver n i off sz' : Nat) (ys : List AV) (es : List (List AV)) (h : es.length = n) : storeE sz o ver n i off ys σ (some (.arr ver sz' es)) = (es[i]?).bind (storeEl o off sz ver sz' i es σ ys) := by simp [storeE, h]
theorem storeEl_eq (o off sz ver sz' i : Nat) (es : List (List AV)) (ys e : List AV) (h : off + sz ≤ e.length) (h2 : norefs ys = true) : storeEl o off sz ver sz' i es σ ys e = some (.dead, σ.set o (.arr ver sz' (es.set i (over e off (norms ys)))), true) := by
  simp [storeEl, h, frzCells, h2]
theorem over_def (zs : List AV) (off : Nat) (cs : List AV) : over zs off cs = zs.take off ++ cs ++ zs.drop (off + cs.length) := (rfl)
def lenO (ver n off len : Nat) (σ : St) : Option Ob → Out
  | some (.arr ver' _ es) => if ver' = ver ∧ es.length = n ∧ off + len ≤ n then some (.int .i64 ((es.drop off).take len).length, σ, true) else none
  | _ => none
theorem lenV_osl (o ver n off len : Nat) : lenV (.osl o ver n off len) σ = lenO ver n off len σ σ[o]? := by
  simp only [lenV, elems, lenO]
  rcases σ[o]? with _ | _ | ⟨v, z, es⟩ | _ | _ <;> try rfl
  simp only
  split <;> rfl
theorem lenO_full (ver n sz : Nat) (es : List (List AV)) (h : es.length = n) : lenO ver n 0 n σ (some (.arr ver sz es)) = some (.int .i64 n, σ, true) := by
  subst h; simp [lenO]
def idxO (sz o ver n off len : Nat) (i : Int) (σ : St) : Option Ob → Out
  | some (.arr ver' sz' es) => if ver' = ver ∧ es.length = n ∧ sz' = sz ∧ 0 ≤ i ∧ i.toNat < len ∧ off + len ≤ n then some (.eref o ver n (off + i.toNat) 0, σ, true) else none
  | _ => none
theorem idxV_osl (sz o ver n off len : Nat) (k : IntKind) (i : Int) : idxV sz (.osl o ver n off len) (.int k i) σ = idxO sz o ver n off len i σ σ[o]? := by
  simp only [idxV, idxO]
theorem idxO_full (sz o ver n : Nat) (i : Int) (es : List (List AV)) (h : es.length = n) (h0 : 0 ≤ i) (h1 : i < n) : idxO sz o ver n 0 n i σ (some (.arr ver sz es)) = some (.eref o ver n i.toNat 0, σ, true) := by
  simp only [idxO]
  rw [if_pos ⟨trivial, h, trivial, h0, by omega, by omega⟩]; simp
def appV (pr : Bool) (sz bytes : Nat) (v : AV) (σ : St) (x : Option (List (List AV) × Bool)) : Out := match x with
  | none => none
  | some (ys, t) => if szOKb sz ys then match v with
        | .nils => if ys.length * bytes ≤ 140737488355328 ∧ 0 < sz then
            (if pr then some (.osl σ.length 0 ys.length 0 ys.length, σ ++ [Ob.arr 0 sz ys], true) else some (.sl ys, σ, t)) else none
        | .osl o ver n off len => match σ[o]? with
          | some (.arr ver' sz' es) =>
            if ver' = ver ∧ es.length = n ∧ sz' = sz ∧ off + len ≤ n ∧ (len + ys.length) * bytes ≤ 140737488355328 ∧ 0 < sz then
              (if off = 0 ∧ len = n then some (.osl o ver (n + ys.length) 0 (n + ys.length), σ.set o (.arr ver sz (es ++ ys)), true)
               else some (.osl o (ver + 1) (len + ys.length) 0 (len + ys.length), σ.set o (.arr (ver + 1) sz ((es.drop off).take len ++ ys)), true))
            else none
          | _ => none
        | _ => none
      else none
theorem st_append (pr : Bool) (sz bytes : Nat) (x y : Opd) : stepC call base (.append pr sz bytes x y) env σ = appV pr sz bytes (ev env x) σ (srcOf σ sz (ev env y)) := by
  simp only [stepC, step, appV]
  cases srcOf σ sz (ev env y) with
  | none => rfl
  | some p =>
    obtain ⟨ys, t⟩ := p
    simp only
    by_cases h0 : 0 < sz
    · by_cases h : szOK sz ys
      · rw [if_pos ⟨h, h0⟩, if_pos ((szOKb_iff sz ys).2 h)]
        simp only [h0, and_true]
        generalize ev env x = v
        cases v <;> rfl
      · rw [if_neg (fun e => h e.1), if_neg (fun e => h ((szOKb_iff sz ys).1 e))]
    · rw [if_neg (fun e => h0 e.2)]
      split
      · split
        · simp [h0]
        · split
          · simp [h0]
          · rfl
        · rfl
      · rfl
theorem srcOf_sl (sz : Nat) (es : List (List AV)) : srcOf σ sz (.sl es) = some (es, false) := (rfl)
theorem srcOf_nils (sz : Nat) : srcOf σ sz .nils = some ([], false) := (rfl)
theorem szOKb_nil (sz : Nat) : szOKb sz [] = true := (rfl)
theorem szOKb_cons (sz : Nat) (e : List AV) (r : List (List AV)) : szOKb sz (e :: r) = (e.length == sz && szOKb sz r) := (rfl)
def appO (sz bytes o ver n : Nat) (ys : List (List AV)) (σ : St) : Option Ob → Out
  | some (.arr ver' sz' es) => if ver' = ver ∧ es.length = n ∧ sz' = sz ∧ (n + ys.length) * bytes ≤ 140737488355328 ∧ 0 < sz then some (.osl o ver (n + ys.length) 0 (n + ys.length), σ.set o (.arr ver sz (es ++ ys)), true) else none
  | _ => none
theorem appV_full (pr : Bool) (sz bytes o ver n : Nat) (ys : List (List AV)) (t : Bool) (h : szOKb sz ys = true) : appV pr sz bytes (.osl o ver n 0 n) σ (some (ys, t)) = appO sz bytes o ver n ys σ σ[o]? := by
  simp only [appV, h, appO, if_true]
  rcases σ[o]? with _ | _ | ⟨v, z, es⟩ | _ | _ <;> try rfl
  simp only [Nat.zero_add, Nat.le_refl, true_and, and_self, if_true]
theorem appO_arr (sz bytes o ver n : Nat) (ys es : List (List AV)) (h : es.length = n) (h0 : 0 < sz) (hb : (n + ys.length) * bytes ≤ 140737488355328) : appO sz bytes o ver n ys σ (some (.arr ver sz es)) = some (.osl o ver (n + ys.length) 0 (n + ys.length), σ.set o (.arr ver sz (es ++ ys)), true) := by
  simp [appO, h, h0, hb]
def litV (pr : Bool) (sz len : Nat) (σ : St) : Option (List (List AV)) → Out
  | some es => if pr then (if 0 < sz then some (.osl σ.length 0 len 0 len, σ ++ [Ob.arr 0 sz es], true) else none) else some (if len = 0 then .nils else .sl es, σ, false)
  | none => none
theorem st_lit (pr : Bool) (sz : Nat) (zs : List AV) (len : Nat) (parts : List (Nat × Opd)) : stepC call base (.lit pr sz zs len parts) env σ = litV pr sz len σ ((fillParts env (litParts sz parts) (zerosN zs len)).bind (fun cs => frzElems (chop sz len cs))) := by
  simp only [stepC, step, litV]
  cases (fillParts env (litParts sz parts) (zerosN zs len)).bind (fun cs => frzElems (chop sz len cs)) <;> rfl
theorem has_nil (x : Nat) : ([] : List Nat).contains x = false := (rfl)
theorem has_cons (a : Nat) (l : List Nat) (x : Nat) : (a :: l).contains x = (x == a || l.contains x) := (rfl)
theorem fill_nil (zs : List AV) : fillParts env [] zs = some zs := (rfl)
def fillV (env : Env) (off size : Nat) (cs : List AV) (r : List (Nat × Nat × Opd)) (zs : List AV) : Option (List AV) := if cs.length = size ∧ off + size ≤ zs.length ∧ cs.all AV.scalar then fillParts env r (over zs off cs) else none
theorem fill_cons (off size : Nat) (x : Opd) (r : List (Nat × Nat × Opd)) (zs : List AV) : fillParts env ((off, size, x) :: r) zs = fillV env off size (ev env x).cellsOf r zs := (rfl)
theorem fillV_ok (off size : Nat) (cs : List AV) (r : List (Nat × Nat × Opd)) (zs : List AV) (h1 : cs.length = size) (h2 : off + size ≤ zs.length) (h3 : cs.all AV.scalar = true) : fillV env off size cs r zs = fillParts env r (over zs off cs) := by
  unfold fillV; rw [if_pos ⟨h1, h2, h3⟩]
theorem litParts_nil (sz : Nat) : litParts sz [] = [] := (rfl)
theorem litParts_cons (sz i : Nat) (x : Opd) (r : List (Nat × Opd)) : litParts sz ((i, x) :: r) = (i * sz, sz, x) :: litParts sz r := (rfl)
theorem zerosN_zero (zs : List AV) : zerosN zs 0 = [] := (rfl)
theorem zerosN_succ (zs : List AV) (n : Nat) : zerosN zs (n + 1) = zs ++ zerosN zs n := (rfl)
theorem chop_zero (sz : Nat) (cs : List AV) : chop sz 0 cs = [] := (rfl)
theorem chop_succ (sz n : Nat) (cs : List AV) : chop sz (n + 1) cs = cs.take sz :: chop sz n (cs.drop sz) := (rfl)
theorem frz_cells (cs : List AV) (h : norefs cs = true) : frzCells cs = some (norms cs) := by unfold frzCells; rw [if_pos h]
theorem frzElems_nil : frzElems [] = some [] := (rfl)
theorem frzElems_cons (e : List AV) (r : List (List AV)) : frzElems (e :: r) = (frzCells e).bind fun e' => (frzElems r).map (e' :: ·) := by
  simp only [frzElems]; cases frzCells e <;> cases frzElems r <;> rfl
theorem litV_zero (sz : Nat) (es : List (List AV)) : litV false sz 0 σ (some es) = some (.nils, σ, false) := (rfl)
theorem litV_succ (sz len : Nat) (es : List (List AV)) (h : len ≠ 0) : litV false sz len σ (some es) = some (.sl es, σ, false) := by simp [litV, h]
theorem litV_own (sz len : Nat) (es : List (List AV)) (h : 0 < sz) : litV true sz len σ (some es) = some (.osl σ.length 0 len 0 len, σ ++ [Ob.arr 0 sz es], true) := by simp [litV, h]
def frzO (ver n off len : Nat) : Option Ob → Option AV
  | some (.arr ver' _ es) => if ver' = ver ∧ es.length = n ∧ off + len ≤ n then some (.sl ((es.drop off).take len)) else none
  | _ => none
theorem frz_osl (o ver n off len : Nat) : frz σ (.osl o ver n off len) = frzO ver n off len σ[o]? := by
  simp only [frz, elems, frzO]
  rcases σ[o]? with _ | _ | ⟨v, z, es⟩ | _ | _ <;> try rfl
  simp only
  split <;> rfl
theorem frzO_full (ver n sz : Nat) (es : List (List AV)) (h : es.length = n) : frzO ver n 0 n (some (.arr ver sz es)) = some (.sl es) := by
  subst h; simp [frzO]
theorem kill_osl (o ver n off len : Nat) : kill σ (.osl o ver n off len) = σ.set o .dead := (rfl)
theorem at_end {α : Type} (l : List α) (x : α) (n : Nat) (h : l.length = n) : (l ++ [x])[n]? = some x := by subst h; simp
theorem set_end {α : Type} (l : List α) (x y : α) (n : Nat) (h : l.length = n) : (l ++ [x]).set n y = l ++ [y] := by subst h; simp
theorem brk_split {α β : Type} {t : Bool} {X Y : Option α} {K : α → Option β} {Z : Option β} (h1 : t = true → X.bind K = Z) (h0 : t = false → Y.bind K = Z) : (brk t X Y).bind K = Z := by
  cases t
  · rw [brk_false]; exact h0 rfl
  · rw [brk_true]; exact h1 rfl
end
attribute [go_sem] call4_eq st_call4 foot_call4 apart_wr lateOk_some lates_nil lates_cons isMk_call4 lateF_rd
attribute [go_sem] foot_slice foot_load foot_len foot_idxa foot_store objOf_ref objOf_eref objOf_osl hits_nil hits_cons aparts_nil aparts_cons apart_rs Run_skip Run_exit Run_ret Run_region' keepL_eq keepD_eq Run_dregion' Run_seq next_normal next_exit next_ret Run_cond' condR_true condR_false bind_bind kc_app Run_block outOf_normal outOf_ret outOf_exit again_exit again_ret thenOps_eq runOps_nil runOps_plain runOps_grd grd_skip grdD_skip grd_tt grd_tf grd_ft grd_ff thenD_true thenD_false runD_nil runD_plain runD_grd grdD_tt grdD_tf grdD_ft grdD_ff put_some put_none get_cons get_nil ev_t ev_c prune_nil prune_cons st_mov st_pick pickV_t pickV_f st_alloc promos_nil promos_cons promV_nils allocV_eq st_allocp aggV_eq promD_eq st_buildp st_movp st_box boxV st_build st_load loadV_agg loadV_one deref_rptr st_nilchk st_bin bin_lss bin_leq bin_gtr bin_geq bin_add bin_sub bin_mul bin_eql bin_neq eq2_int eq2_str eq2_bool eq2_agg eqc_int eqc_bool eqc_str eqc_nil st_not st_convi st_fld fldV_rptr fldV_ref fldV_eref st_field fieldV_agg fieldV_one getE_zero getE_map getE_mid gotE_eq st_idxa idxV_sl st_extract st_len lenV_sl lenV_nils st_lens st_min st_max st_mm3 st_mkfn st_call0 call0_eq backP_eq backR_eq norms_nil norms_cons norm_int norm_bool norm_str norm_nilp norm_rptr norm_ref norm_eref norm_nils norm_sl norm_osl norm_fn norm_nilfn norm_agg norm_tup norefs_nil norefs_cons noref_int noref_bool noref_str noref_nilp noref_rptr noref_ref noref_eref noref_nils noref_sl noref_osl noref_fn noref_nilfn noref_agg noref_tup evs_nil evs_cons resVals_nil resVals_t resVals_cell finV_one finV_two fin_false frz_int frz_bool frz_str frz_nilp frz_rptr frz_nils frz_sl frz_fn frz_agg frz_tup frzs_nil frzs_cons kill_int kill_bool kill_str kill_nilp kill_rptr kill_nils kill_sl kill_agg kill_tup kills_nil kills_cons brk_true brk_false Option.bind_some Option.bind_none Option.map_some Option.map_none List.length_cons List.length_nil List.take_succ_cons List.take_zero List.take_nil List.drop_succ_cons List.drop_zero List.drop_nil List.length_map Nat.zero_add Nat.add_zero Bool.true_and Bool.and_true Bool.false_and Bool.and_false List.isEmpty_nil List.isEmpty_cons initEnv scalar_int cellsOf_int scalar_bool cellsOf_bool scalar_str cellsOf_str scalar_nilp cellsOf_nilp scalar_rptr cellsOf_rptr scalar_ref cellsOf_ref scalar_eref cellsOf_eref scalar_nils cellsOf_nils scalar_sl cellsOf_sl scalar_osl cellsOf_osl scalar_fn cellsOf_fn scalar_nilfn cellsOf_nilfn scalar_mapr cellsOf_mapr scalar_nilmap cellsOf_nilmap scalar_iface cellsOf_iface scalar_nilif cellsOf_nilif scalar_agg cellsOf_agg scalar_tup cellsOf_tup List.all_cons List.all_nil and_self and_true true_and if_true decide_true decide_false drawOk Nat.le_refl Nat.zero_le Nat.one_ne_zero List.append_nil List.nil_append List.cons_append Int.lt_irrefl Int.le_refl List.length_append Int.natCast_add Int.cast_ofNat_Int Int.zero_add Int.add_zero List.append_assoc leaveR_normal leaveR_ret again_gc loopOn_eq gc_eq gcV_small gcV_ok envUnder_nil envUnder_cons obsUnder_nil obsUnder_cons obUnder_cells obUnder_arr obUnder_dead unders_nil unders_cons under_int under_bool under_str under_nilp under_rptr under_nils under_sl under_dead under_nilfn under_ref under_eref under_osl under_fn under_agg under_tup st_store storeV_ref over_def List.getElem?_cons_zero List.getElem?_cons_succ List.set_cons_zero List.set_cons_succ has_nil has_cons Bool.not_true Bool.not_false Bool.or_false Bool.or_true Bool.false_or Bool.true_or deref_ref derefR_cells offE_eq deref_eref derefE_arr storeR_cells storeV_eref storeE_arr storeEl_eq lenV_osl lenO_full idxV_osl idxO_full st_append srcOf_sl srcOf_nils szOKb_nil szOKb_cons appV_full appO_arr st_lit fill_nil fill_cons fillV_ok litParts_nil litParts_cons zerosN_zero zerosN_succ chop_zero chop_succ frz_cells frzElems_nil frzElems_cons litV_zero litV_succ litV_own Nat.zero_mul Nat.one_mul at_end set_end Int.toNat_natCast Int.natCast_nonneg List.map_append List.map_cons List.map_nil frz_osl frzO_full kill_osl
end Go.Den
