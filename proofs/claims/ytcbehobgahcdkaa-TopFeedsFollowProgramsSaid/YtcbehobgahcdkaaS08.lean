
import Derived.Test.YtcbehobgahcdkaaS06
/-! Made predicates: sets of values. -/
namespace Go.Den
open Go
set_option linter.unusedSimpArgs false
set_option linter.unusedVariables false
set_option maxRecDepth 100000
set_option maxHeartbeats 1000000
theorem R09_mod (x n : Int) (h0 : 0 < n) (h : n < 1000000000000000) : Den prog 72 [.int .i64 x, .int .i64 n] [] = some (.int .i64 (modI x n), []) := by
  rw [Den_ofK [] pr_R09_mod rfl]
  obtain ⟨t1, t2, t3⟩ := tmod_two (x := x) (n := n) (by omega)
  have hw : IntKind.wrap .i64 (x.tmod n + n) = x.tmod n + n := wrap_i64 (by omega) (by omega)
  have q : modI x n = x % n := by rw [modI, if_neg (by omega)]
  have hn : n ≠ 0 := by omega
  simp only [f_R09_mod, q, hn, hw, t1, go_sem]
/-- The elements below a value. -/
def kOf (v : Val) : List Val → Nat
  | [] => 0
  | x :: r => bif decide (cmpV x v < 0) then kOf v r + 1 else 0
def hit (out : List Val) (v : Val) : Bool := match out[kOf v out]? with
  | some y => decide (y = v)
  | none => false
def insV (out : List Val) (v : Val) : List Val := bif v.null || hit out v then out else out.take (kOf v out) ++ v :: out.drop (kOf v out)
def setS (l : List Val) (t : Int) : List Val := ((l.take 4).map fun v => madeV v t).foldl insV []
theorem kOf_le (v : Val) (out : List Val) : kOf v out ≤ out.length := by
  induction out with
  | nil => simp [kOf]
  | cons x r ih => rw [kOf]; cases decide (cmpV x v < 0) <;> simp <;> omega
theorem insV_len (out : List Val) (v : Val) : (insV out v).length ≤ out.length + 1 := by
  have := kOf_le v out
  unfold insV
  cases v.null || hit out v <;> simp <;> omega
def smallS (l : List Val) : Prop := ∀ v ∈ l, v.s.size < 1000000000000000
theorem madeV_size (v : Val) (t : Int) : (madeV v t).s.size ≤ 200 := by
  unfold madeV fitS nullV cutS
  have hc := cutI_ge (k := 200) v.s (by decide)
  have h2 : cutI 200 v.s ≤ 200 := by unfold cutI; split <;> omega
  have h3 : (v.s.extract 0 (cutI 200 v.s).toNat).size ≤ 200 := by rw [ByteArray.size_extract]; omega
  have z : (ByteArray.mk #[]).size ≤ 200 := by decide
  cases typeOk t <;> cases v.null <;> cases decide (t = 1) <;> cases decide (t = 2) <;> cases decide (t = 5) <;> cases decide (t = 4) <;> first | exact z | exact h3
theorem insV_small {out : List Val} {v : Val} (h : smallS out) (hv : v.s.size < 1000000000000000) : smallS (insV out v) := by
  unfold insV
  cases v.null || hit out v with
  | true => exact h
  | false =>
    intro x hx
    simp only [cond_false, List.mem_append, List.mem_cons] at hx
    rcases hx with hx | rfl | hx
    · exact h x (List.mem_of_mem_take hx)
    · exact hv
    · exact h x (List.mem_of_mem_drop hx)
theorem eqval (a b : Val) : ((a.null == b.null) && (decide (a.n = b.n) && decide (a.s = b.s))) = decide (a = b) := by
  obtain ⟨k, n, s⟩ := a
  obtain ⟨k', n', s'⟩ := b
  cases k <;> cases k' <;> cases h1 : decide (n = n') <;> cases h2 : decide (s = s') <;> simp at h1 h2 <;> simp [h1, h2]
theorem R09_set_l1 (L : List (List AV)) (t i : Int) (out : List Val) (v : Val) (hs : smallS out) (hL : out.length < 1000000) (K : Ex × Env × St → Option (AV × St)) (Z : Option (AV × St))
    (h : K (.exit 2, [(0, .sl L), (1, .int .i64 t), (5, .sl (out.map Val.cells)), (6, .int .i64 i), (7, .ref 0 0), (8, .int .i64 (kOf v out)), (39, .bool false)], [.cells v.cells]) = Z) :
    (Run prog 0 (.loop 1 [0, 1, 5, 6, 7, 8] f_R09_set_l1) [(0, .sl L), (1, .int .i64 t), (5, .sl (out.map Val.cells)), (6, .int .i64 i), (7, .ref 0 0), (8, .int .i64 0)] [.cells v.cells]).bind K = Z := by
  refine range_ind out (by omega) (fun j (_ : Unit) => (Run prog 0 (.loop 1 [0, 1, 5, 6, 7, 8] f_R09_set_l1) [(0, .sl L), (1, .int .i64 t), (5, .sl (out.map Val.cells)), (6, .int .i64 i), (7, .ref 0 0), (8, .int .i64 j)] [.cells v.cells]).bind K = Z) (fun j rest _ => j + kOf v rest = kOf v out) ?_ ?_ () (by simp)
  · intro _ hk
    simp only [kOf] at hk
    have hk : ((kOf v out : Nat) : Int) = out.length := by omega
    rw [hk] at h
    simp only [go_sem] at h
    rw [Run_loop]
    simp only [f_R09_set_l1_eq, f_R09_set_l1u, h, go_sem]
  · intro j pre rest x _ hp _ _ _ hx hc hw hk ih
    have hsx := hs x (by rw [hp]; simp)
    rw [Run_loop]
    rw [kOf] at hk
    cases hd : decide (cmpV x v < 0) with
    | true =>
      rw [hd, cond_true] at hk
      have ih := ih () (by omega)
      clear hk hp hs
      obtain ⟨vn, vi, vs⟩ := v
      simp only [go_sem] at ih
      have hd : decide (cmpV ⟨x.null, x.n, x.s⟩ ⟨vn, vi, vs⟩ < 0) = true := hd
      simp only [f_R09_set_l1_eq, f_R09_set_l1u, hx, hc, hw, hd, hsx, ih, go_sem]
    | false =>
      rw [hd, cond_false] at hk
      have hk : ((kOf v out : Nat) : Int) = j := by omega
      rw [hk] at h
      clear hk hp hs ih
      obtain ⟨vn, vi, vs⟩ := v
      simp only [go_sem] at h
      have hd : decide (cmpV ⟨x.null, x.n, x.s⟩ ⟨vn, vi, vs⟩ < 0) = false := hd
      simp only [f_R09_set_l1_eq, f_R09_set_l1u, hx, hc, hd, hsx, h, go_sem]
end Go.Den

/-! Made predicates: sets, on. -/
namespace Go.Den
open Go
set_option linter.unusedSimpArgs false
set_option linter.unusedVariables false
set_option maxRecDepth 100000
set_option maxHeartbeats 1000000
theorem R09_set_l0 (L : List Val) (hL : L.length < 1000000000000000) (t : Int) (K : Ex × Env × St → Option (AV × St)) (Z : Option (AV × St))
    (h : ∀ (i : Int) (b : Bool), K (.exit 0, [(0, .sl (L.map Val.cells)), (1, .int .i64 t), (5, .sl ((setS L t).map Val.cells)), (6, .int .i64 i), (18, .bool b)], []) = Z) :
    (Run prog 0 (.loop 0 [0, 1, 5, 6] f_R09_set_l0) [(0, .sl (L.map Val.cells)), (1, .int .i64 t), (5, .sl []), (6, .int .i64 0)] []).bind K = Z := by
  have key := range_ind L hL (fun i (out : List Val) => (Run prog 0 (.loop 0 [0, 1, 5, 6] f_R09_set_l0) [(0, .sl (L.map Val.cells)), (1, .int .i64 t), (5, .sl (out.map Val.cells)), (6, .int .i64 i)] []).bind K = Z)
    (fun i rest out => ((rest.take (4 - i).toNat).map fun v => madeV v t).foldl insV out = setS L t ∧ i ≤ 4 ∧ (out.length : Int) ≤ i ∧ smallS out) ?_ ?_ [] ⟨rfl, by decide, by simp, by intro v hv; simp at hv⟩
  · exact key
  · intro out ⟨hs, _⟩
    simp only [List.take_nil, List.map_nil, List.foldl_nil] at hs
    have h := h L.length false
    rw [← hs] at h
    rw [Run_loop]
    simp only [f_R09_set_l0_eq, f_R09_set_l0u, h, go_sem]
  · intro i pre rest x out hp _ hi0 hi1 hx hc hw ⟨hs, h4, hl, hsm⟩ ih
    rw [Run_loop]
    by_cases hlt : i < 4
    · have hd : decide (i < 4) = true := by simpa using hlt
      have et : (4 - i).toNat = (4 - (i + 1)).toNat + 1 := by clear hs hw hx hc ih h hp hd hsm; omega
      rw [et, List.take_succ_cons, List.map_cons, List.foldl_cons] at hs
      have hln : (out.length : Int) < 1000000 := by clear hs hw hx hc ih h hp hd hsm; omega
      have hsz := madeV_size x t
      have ih := ih (insV out (madeV x t)) ⟨hs, by omega, by have := insV_len out (madeV x t); omega, insV_small hsm (by omega)⟩
      have hl1 := fun K Z => R09_set_l1 (L.map Val.cells) t i out (madeV x t) hsm (by omega) K Z
      have hm := R05_Made x.null x.n x.s t
      have ex : (⟨x.null, x.n, x.s⟩ : Val) = x := rfl
      simp only [ex] at hm
      have hk := kOf_le (madeV x t) out
      have hkl : (kOf (madeV x t) out : Int) ≤ out.length := by omega
      clear hs h hp hsm hsz
      generalize madeV x t = v at *
      unfold insV at ih
      simp only [go_sem] at hl1
      cases hn : v.null with
      | true =>
        simp only [hn, Bool.true_or, cond_true] at ih
        simp only [hn] at hm hl1
        simp only [f_R09_set_l0_eq, f_R09_set_l0u, hx, hc, hw, hd, hm, go_sem]
        refine hl1 _ _ ?_
        simp only [hw, ih, go_sem]
      | false =>
        simp only [hn] at hm hl1
        have hit0 : hit out v = (match out[kOf v out]? with | some y => decide (y = v) | none => false) := rfl
        generalize kOf v out = k at *
        by_cases hkn : k < out.length
        · have hdk : decide ((k : Int) < out.length) = true := by simpa using hkn
          obtain ⟨y, hy⟩ : ∃ y, out[k]? = some y := ⟨out[k], by simp [hkn]⟩
          have hgy : getE out (k : Int) = some y := by rw [getE_nat, hy]
          simp only [hy] at hit0
          have eqv := eqval y v
          rw [hn] at eqv
          cases hyv : decide (y = v) with
          | true =>
            rw [hyv] at hit0 eqv
            simp only [hit0, hn, Bool.false_or, cond_true] at ih
            simp only [f_R09_set_l0_eq, f_R09_set_l0u, hx, hc, hw, hd, hm, go_sem]
            refine hl1 _ _ ?_
            simp only [hw, hdk, hgy, eqv, ih, go_sem]
          | false =>
            rw [hyv] at hit0 eqv
            simp only [hit0, hn, Bool.false_or, cond_false] at ih
            have b1 : k * 32 ≤ 140737488355328 := by omega
            have b2 : (k + 1) * 32 ≤ 140737488355328 := by omega
            have b3 : (k + 1 + (out.length - k)) * 32 ≤ 140737488355328 := by omega
            have hmin : min k out.length = k := by omega
            have z4 : k + (out.length - k + 1) = k + 1 + (out.length - k) := by omega
            have z0 : szOK 3 (out.map Val.cells) = True := szOK_map 3 Val.cells out fun _ => rfl
            have z1 : szOKb 3 ((out.map Val.cells).take k) = true := szOKb_take 3 k _ (by rw [z0]; trivial)
            have z2 : szOKb 3 ((out.map Val.cells).drop k) = true := szOKb_drop 3 k _ (by rw [z0]; trivial)
            have z3 : szOK 3 ((out.map Val.cells).drop k) = True := szOK_drop 3 k _ (by rw [z0]; trivial)
            simp only [hn, List.map_take, List.map_drop, go_sem] at ih
            simp only [f_R09_set_l0_eq, f_R09_set_l0u, hx, hc, hw, hd, hm, go_sem]
            refine hl1 _ _ ?_
            simp only [hw, hdk, hgy, eqv, hkl, b1, b2, b3, hmin, z0, z1, z2, z3, z4, Int.natCast_nonneg, Int.toNat_natCast, List.length_take, List.length_drop, ih, go_sem]
        · have hdk : decide ((k : Int) < out.length) = false := by simp; omega
          have hno : out[k]? = none := by simp; omega
          simp only [hno] at hit0
          simp only [hit0, hn, Bool.false_or, cond_false] at ih
          have b1 : k * 32 ≤ 140737488355328 := by omega
          have b2 : (k + 1) * 32 ≤ 140737488355328 := by omega
          have b3 : (k + 1 + (out.length - k)) * 32 ≤ 140737488355328 := by omega
          have hmin : min k out.length = k := by omega
          have z4 : k + (out.length - k + 1) = k + 1 + (out.length - k) := by omega
          have z0 : szOK 3 (out.map Val.cells) = True := szOK_map 3 Val.cells out fun _ => rfl
          have z1 : szOKb 3 ((out.map Val.cells).take k) = true := szOKb_take 3 k _ (by rw [z0]; trivial)
          have z2 : szOKb 3 ((out.map Val.cells).drop k) = true := szOKb_drop 3 k _ (by rw [z0]; trivial)
          have z3 : szOK 3 ((out.map Val.cells).drop k) = True := szOK_drop 3 k _ (by rw [z0]; trivial)
          simp only [hn, List.map_take, List.map_drop, go_sem] at ih
          simp only [f_R09_set_l0_eq, f_R09_set_l0u, hx, hc, hw, hd, hm, go_sem]
          refine hl1 _ _ ?_
          simp only [hw, hdk, hkl, b1, b2, b3, hmin, z0, z1, z2, z3, z4, Int.natCast_nonneg, Int.toNat_natCast, List.length_take, List.length_drop, ih, go_sem]
    · have hd : decide (i < 4) = false := by simpa using hlt
      have et : (4 - i).toNat = 0 := by clear hs hw hx hc ih h hp hsm; omega
      rw [et, List.take_zero, List.map_nil, List.foldl_nil] at hs
      have h := h i false
      rw [← hs] at h
      simp only [f_R09_set_l0_eq, f_R09_set_l0u, hx, hc, hd, h, go_sem]
@[go_sem] theorem R09_set (L : List Val) (hL : L.length < 1000000000000000) (t : Int) : Den prog 74 [.sl (L.map Val.cells), .int .i64 t] [] = some (.sl ((setS L t).map Val.cells), []) := by
  rw [Den_ofK [] pr_R09_set rfl]
  have hl := fun K Z => R09_set_l0 L hL t K Z
  simp only [f_R09_set, go_sem]
  refine hl _ _ fun i b => ?_
  simp only [go_sem]
end Go.Den

/-! Predicates, and those that are made. -/
namespace Go.Den
open Go
set_option linter.unusedSimpArgs false
set_option linter.unusedVariables false
set_option maxRecDepth 100000
set_option maxHeartbeats 1000000
inductive Prd where
  | mk (op id lo hi : Int) (set : List Val) (text : ByteArray) (kids : List Prd)
def Prd.cells : Prd → List AV
  | .mk op id lo hi set text kids => [.int .i64 op, .int .i64 id, .int .i64 lo, .int .i64 hi, .sl (set.map Val.cells), .str text, .sl (kids.map Prd.cells)]
theorem Prd.cells_mk (op id lo hi : Int) (set : List Val) (text : ByteArray) (kids : List Prd) : (Prd.mk op id lo hi set text kids).cells = [.int .i64 op, .int .i64 id, .int .i64 lo, .int .i64 hi, .sl (set.map Val.cells), .str text, .sl (kids.map Prd.cells)] := by
  rw [Prd.cells]
attribute [go_sem] Prd.cells_mk
theorem Prd.cells_len (p : Prd) : p.cells.length = 7 := by cases p; rw [Prd.cells_mk]; rfl
attribute [go_sem] Prd.cells_len
/-- What is asked of a raw predicate. -/
inductive POK : Prd → Prop
  | mk (op id lo hi : Int) (set : List Val) (text : ByteArray) (kids : List Prd) (hs : set.length < 100000000000000) (hk : kids.length < 100000000000000) (h : ∀ k ∈ kids, POK k) (hv : ∀ v ∈ set, v.s.size < 1000000000000000) (ht : text.size < 1000000000000000) : POK (.mk op id lo hi set text kids)
def voidP : Prd := .mk 0 0 0 0 [] ⟨#[]⟩ []
def leafAt (fs : List Fld) (x : Int) : Int := (getE (leavesS fs) (modI x (leavesS fs).length)).getD 0
def baseP (fs : List Fld) (op id lo hi : Int) (set : List Val) (text : ByteArray) : Prd :=
  bif decide ((leavesS fs).length = (0 : Int)) || decide (op = 0) then voidP else
  bif decide (op = 4) then .mk 4 (leafAt fs id) 0 0 [] ⟨#[]⟩ [] else
  bif decide (op = 2) && decide (0 < ((setS set (getF fs (leafAt fs id)).type).length : Int)) then .mk 2 (leafAt fs id) 0 0 (setS set (getF fs (leafAt fs id)).type) ⟨#[]⟩ [] else
  bif decide ((getF fs (leafAt fs id)).type = 4) then .mk 3 (leafAt fs id) 0 0 [] (cutS 3 text) [] else
  .mk 1 (leafAt fs id) (if hi < lo then hi else lo) (if lo < hi then hi else lo) [] ⟨#[]⟩ []
def orVoid : List Prd → List Prd
  | [] => [voidP]
  | x :: _ => [x]
def predS (fs : List Fld) : Nat → Prd → Prd
  | 0, .mk op id lo hi set text _ => baseP fs (modI op 8) id lo hi set text
  | d + 1, .mk op id lo hi set text kids => bif decide (5 ≤ modI op 8) then
      .mk (modI op 8) 0 0 0 [] ⟨#[]⟩ (bif decide (modI op 8 = 7) then orVoid ((kids.take 3).map (predS fs d)) else (kids.take 3).map (predS fs d))
    else baseP fs (modI op 8) id lo hi set text
theorem R09_Pred_base (fs : List Fld) (n : Int) (hF : fs.length < 1000000000) (op id lo hi : Int) (set : List Val) (text : ByteArray) (kids : List Prd) (d : Int) (hs : set.length < 100000000000000) (hc : (decide (5 ≤ modI op 8) && decide (0 < d)) = false) :
    Den prog 73 [.agg [.sl (fs.map Fld.cells), .int .i64 n], .agg (Prd.mk op id lo hi set text kids).cells, .int .i64 d] [] = some (.agg (baseP fs (modI op 8) id lo hi set text).cells, []) := by
  have hF1 : fs.length < 1000000000000 := by omega
  have hF2 : fs.length < 1000000000000000 := by omega
  have hs2 : set.length < 1000000000000000 := by omega
  have m8 := R09_mod op 8 (by decide) (by decide)
  have hll : (leavesS fs).length ≤ fs.length := by unfold leavesS; rw [List.length_map]; exact List.length_filter_le _ _
  have c1 := cutI_ge (k := 3) text (by decide)
  have c2 := cutI_le 3 text
  rw [Den_ofK [] pr_R09_Pred rfl]
  simp only [baseP]
  generalize modI op 8 = o at *
  cases e1 : decide ((leavesS fs).length = (0 : Int)) with
  | true =>
    cases d1 : decide (5 ≤ o) <;> cases d2 : decide (0 < d) <;> simp only [d1, d2, Bool.true_and, Bool.and_true, Bool.and_false, reduceCtorEq] at hc <;>
    simp only [f_R09_Pred, m8, hF1, d1, d2, e1, Bool.true_or, cond_true, voidP, go_sem]
  | false =>
  cases e2 : decide (o = 0) with
  | true =>
    cases d1 : decide (5 ≤ o) <;> cases d2 : decide (0 < d) <;> simp only [d1, d2, Bool.true_and, Bool.and_true, Bool.and_false, reduceCtorEq] at hc <;>
    simp only [f_R09_Pred, m8, hF1, d1, d2, e1, e2, Bool.or_true, cond_true, voidP, go_sem]
  | false =>
  have hpos : 0 < ((leavesS fs).length : Int) := by simp only [decide_eq_false_iff_not] at e1; omega
  have ml := R09_mod id (leavesS fs).length hpos (by omega)
  have hge : getE (leavesS fs) (modI id (leavesS fs).length) = some (leafAt fs id) := by
    have h1 := modI_ge id (leavesS fs).length
    have h2 := modI_lt id hpos
    unfold leafAt
    have : (modI id (leavesS fs).length).toNat < (leavesS fs).length := by omega
    simp [getE, h1, this]
  cases e3 : decide (o = 4) with
  | true =>
    cases d1 : decide (5 ≤ o) <;> cases d2 : decide (0 < d) <;> simp only [d1, d2, Bool.true_and, Bool.and_true, Bool.and_false, reduceCtorEq] at hc <;>
    simp only [f_R09_Pred, m8, ml, hge, hF1, hF2, d1, d2, e1, e2, e3, Bool.or_false, cond_true, cond_false, go_sem]
  | false =>
  cases e4 : decide (o = 2) && decide (0 < ((setS set (getF fs (leafAt fs id)).type).length : Int)) with
  | true =>
    simp only [Bool.and_eq_true] at e4
    obtain ⟨e4, e5⟩ := e4
    cases d1 : decide (5 ≤ o) <;> cases d2 : decide (0 < d) <;> simp only [d1, d2, Bool.true_and, Bool.and_true, Bool.and_false, reduceCtorEq] at hc <;>
    simp only [f_R09_Pred, m8, ml, hge, hF1, hF2, hs2, d1, d2, e1, e2, e3, e4, e5, Bool.or_false, cond_true, cond_false, go_sem]
  | false =>
  cases e6 : decide ((getF fs (leafAt fs id)).type = 4) with
  | true =>
    unfold cutI at c1 c2
    cases e4' : decide (o = 2) <;> cases e5 : decide (0 < ((setS set (getF fs (leafAt fs id)).type).length : Int)) <;> simp only [e4', e5, Bool.true_and, Bool.and_true, Bool.and_false, reduceCtorEq] at e4 <;>
    cases d1 : decide (5 ≤ o) <;> cases d2 : decide (0 < d) <;> simp only [d1, d2, Bool.true_and, Bool.and_true, Bool.and_false, reduceCtorEq] at hc <;>
    simp only [f_R09_Pred, m8, ml, hge, hF1, hF2, hs2, d1, d2, e1, e2, e3, e4', e5, e6, c1, c2, cutS, cutI, Bool.or_false, cond_true, cond_false, go_sem]
  | false =>
    cases e4' : decide (o = 2) <;> cases e5 : decide (0 < ((setS set (getF fs (leafAt fs id)).type).length : Int)) <;> simp only [e4', e5, Bool.true_and, Bool.and_true, Bool.and_false, reduceCtorEq] at e4 <;>
    cases d1 : decide (5 ≤ o) <;> cases d2 : decide (0 < d) <;> simp only [d1, d2, Bool.true_and, Bool.and_true, Bool.and_false, reduceCtorEq] at hc <;>
    simp only [f_R09_Pred, m8, ml, hge, hF1, hF2, hs2, d1, d2, e1, e2, e3, e4', e5, e6, Bool.or_false, cond_true, cond_false, go_sem]
end Go.Den

/-! Made predicates: the operands. -/
namespace Go.Den
open Go
set_option linter.unusedSimpArgs false
set_option linter.unusedVariables false
set_option maxRecDepth 100000
set_option maxHeartbeats 1000000
theorem orVoid_take (l : List Prd) (h : l ≠ []) : orVoid l = l.take 1 := by
  cases l with
  | nil => exact absurd rfl h
  | cons x r => rfl
theorem R09_Pred_l0 (fs : List Fld) (n : Int) (D : Nat) (op id lo hi : Int) (set : List Val) (text : ByteArray) (kids : List Prd) (hk : kids.length < 100000000000000) (hD : D < 1000000)
    (hr : ∀ k ∈ kids, Den prog 73 [.agg [.sl (fs.map Fld.cells), .int .i64 n], .agg k.cells, .int .i64 D] [] = some (.agg (predS fs D k).cells, []))
    (o : Int) (K : Ex × Env × St → Option (AV × St)) (Z : Option (AV × St))
    (h : ∀ (i : Int), K (.exit 0, [(2, .int .i64 (D + 1)), (3, .rptr [.sl (fs.map Fld.cells), .int .i64 n]), (4, .rptr [.int .i64 op, .int .i64 id, .int .i64 lo, .int .i64 hi, .sl (set.map Val.cells), .str text, .sl (kids.map Prd.cells)]), (6, .ref 0 0), (8, .int .i64 o), (9, .ref 1 0), (10, .int .i64 i), (36, .bool false)],
      [.cells [.int .i64 0, .int .i64 0, .int .i64 0, .int .i64 0, .nils, .str ⟨#[]⟩, .nils], .cells [.int .i64 o, .int .i64 0, .int .i64 0, .int .i64 0, .nils, .str ⟨#[]⟩, .osl 2 0 ((kids.take 3).map (predS fs D)).length 0 ((kids.take 3).map (predS fs D)).length], .arr 0 7 (((kids.take 3).map (predS fs D)).map Prd.cells)]) = Z) :
    (Run prog 0 (.loop 3 [2, 3, 4, 6, 8, 9, 10] f_R09_Pred_l0) [(2, .int .i64 (D + 1)), (3, .rptr [.sl (fs.map Fld.cells), .int .i64 n]), (4, .rptr [.int .i64 op, .int .i64 id, .int .i64 lo, .int .i64 hi, .sl (set.map Val.cells), .str text, .sl (kids.map Prd.cells)]), (6, .ref 0 0), (8, .int .i64 o), (9, .ref 1 0), (10, .int .i64 0)]
      [.cells [.int .i64 0, .int .i64 0, .int .i64 0, .int .i64 0, .nils, .str ⟨#[]⟩, .nils], .cells [.int .i64 o, .int .i64 0, .int .i64 0, .int .i64 0, .nils, .str ⟨#[]⟩, .osl 2 0 0 0 0], .arr 0 7 []]).bind K = Z := by
  have key := range_ind kids (by omega) (fun i (out : List Prd) => (Run prog 0 (.loop 3 [2, 3, 4, 6, 8, 9, 10] f_R09_Pred_l0) [(2, .int .i64 (D + 1)), (3, .rptr [.sl (fs.map Fld.cells), .int .i64 n]), (4, .rptr [.int .i64 op, .int .i64 id, .int .i64 lo, .int .i64 hi, .sl (set.map Val.cells), .str text, .sl (kids.map Prd.cells)]), (6, .ref 0 0), (8, .int .i64 o), (9, .ref 1 0), (10, .int .i64 i)]
      [.cells [.int .i64 0, .int .i64 0, .int .i64 0, .int .i64 0, .nils, .str ⟨#[]⟩, .nils], .cells [.int .i64 o, .int .i64 0, .int .i64 0, .int .i64 0, .nils, .str ⟨#[]⟩, .osl 2 0 out.length 0 out.length], .arr 0 7 (out.map Prd.cells)]).bind K = Z)
    (fun i rest out => out ++ (rest.take (3 - i).toNat).map (predS fs D) = (kids.take 3).map (predS fs D) ∧ i ≤ 3 ∧ (out.length : Int) ≤ i) ?_ ?_ [] ⟨rfl, by decide, by simp⟩
  · exact key
  · intro out ⟨hs, _⟩
    simp only [List.take_nil, List.map_nil, List.append_nil] at hs
    have h := h kids.length
    rw [← hs] at h
    rw [Run_loop]
    simp only [f_R09_Pred_l0_eq, f_R09_Pred_l0u, h, go_sem]
  · intro i pre rest x out hp _ hi0 hi1 hx hc hw ⟨hs, h4, hl⟩ ih
    rw [Run_loop]
    by_cases hlt : i < 3
    · have hd : decide (i < 3) = true := by simpa using hlt
      have et : (3 - i).toNat = (3 - (i + 1)).toNat + 1 := by clear hs hw hx hc ih h hp hd hr; omega
      rw [et, List.take_succ_cons, List.map_cons] at hs
      have hr := hr x (by rw [hp]; simp)
      have ih := ih (out ++ [predS fs D x]) ⟨by rw [← hs]; simp, by omega, by simp; omega⟩
      have hb : (out.length + 1) * 96 ≤ 140737488355328 := by clear hs hw hx hc ih h hp hd hr; omega
      have hwd : IntKind.wrap .i64 ((D : Int) + 1 - 1) = D := by rw [wrap_i64 (by clear hs hw hx hc ih h hp hd hr; omega) (by clear hs hw hx hc ih h hp hd hr; omega)]; clear hs hw hx hc ih h hp hd hr; omega
      clear hs h hp
      generalize predS fs D x = q at *
      obtain ⟨q1, q2, q3, q4, q5, q6, q7⟩ := q
      obtain ⟨x1, x2, x3, x4, x5, x6, x7⟩ := x
      simp only [go_sem] at ih hr
      simp only [f_R09_Pred_l0_eq, f_R09_Pred_l0u, hx, hc, hw, hd, hr, hb, hwd, ih, go_sem]
    · have hd : decide (i < 3) = false := by simpa using hlt
      have et : (3 - i).toNat = 0 := by clear hs hw hx hc ih h hp hr; omega
      rw [et, List.take_zero, List.map_nil, List.append_nil] at hs
      have h := h i
      rw [← hs] at h
      simp only [f_R09_Pred_l0_eq, f_R09_Pred_l0u, hx, hc, hd, h, go_sem]
theorem R09_Pred (fs : List Fld) (n : Int) (hF : fs.length < 1000000000) : ∀ (D : Nat) (p : Prd), D < 1000000 → POK p → Den prog 73 [.agg [.sl (fs.map Fld.cells), .int .i64 n], .agg p.cells, .int .i64 D] [] = some (.agg (predS fs D p).cells, [])
  | 0, .mk op id lo hi set text kids, _, h => by
    cases h with
    | mk _ _ _ _ _ _ _ hs hk _ _ _ => exact R09_Pred_base fs n hF op id lo hi set text kids _ hs (by simp)
  | D + 1, .mk op id lo hi set text kids, hD, h => by
    cases h with
    | mk _ _ _ _ _ _ _ hs hk hkk _ _ =>
    rw [predS]
    cases e1 : decide (5 ≤ modI op 8) with
    | false => exact R09_Pred_base fs n hF op id lo hi set text kids _ hs (by rw [e1]; try rfl)
    | true =>
      have hl := fun o K Z => R09_Pred_l0 fs n D op id lo hi set text kids hk (by omega) (fun k hm => R09_Pred fs n hF D k (by omega) (hkk k hm)) o K Z
      have m8 := R09_mod op 8 (by decide) (by decide)
      have hF1 : fs.length < 1000000000000 := by omega
      have d2 : decide ((0 : Int) < D + 1) = true := by rw [decide_eq_true_eq]; omega
      simp only [cond_true]
      rw [Den_ofK [] pr_R09_Pred rfl]
      generalize modI op 8 = o at *
      generalize (kids.take 3).map (predS fs D) = ks at *
      simp only [f_R09_Pred, m8, hF1, e1, d2, Int.natCast_add, Int.cast_ofNat_Int, go_sem]
      refine hl _ _ _ fun i => ?_
      cases e7 : decide (o = 7) with
      | false => simp only [e7, cond_false, go_sem]
      | true =>
        cases ks with
        | nil =>
          have z : decide ((0 : Int) = 0) = true := rfl
          simp only [e7, cond_true, orVoid, voidP, z, go_sem]
        | cons k r =>
          have z : decide (((r.length : Int) + 1) = 0) = false := by simp; omega
          have z2 : (1 : Int) ≤ r.length + 1 := by omega
          have z3 : (0 : Int) ≤ 1 := by decide
          have z4 : 1 ≤ r.length + 1 := by omega
          have z5 : ((r.length + 1 : Nat) : Int) = r.length + 1 := by omega
          simp only [e7, cond_true, orVoid, z, z2, z3, z4, z5, sliceO_to, frzO_part, Int.toNat_one, go_sem]
end Go.Den

/-! Predicates on rows. -/
namespace Go.Den
open Go
set_option linter.unusedSimpArgs false
set_option linter.unusedVariables false
set_option maxRecDepth 100000
set_option maxHeartbeats 1000000
def truth (b : Bool) : Int := bif b then 1 else 0
def withinB (n : Int) (s : ByteArray) (v : Val) : Bool := !v.null && (decide (v.n = n) && decide (v.s = s))
def beginsB (s t : ByteArray) : Bool := decide ((t.size : Int) ≤ s.size) && decide (s.extract 0 t.size = t)
def simpleS (op lo hi : Int) (set : List Val) (text : ByteArray) (v : Val) : Int :=
  bif decide (op = 4) then truth v.null else
  bif v.null then 2 else
  bif decide (op = 1) then truth (decide (lo ≤ v.n) && decide (v.n ≤ hi)) else
  bif decide (op = 2) then truth (set.any (withinB v.n v.s)) else truth (beginsB v.s text)
def cntI (k : Int) : List Int → Int
  | [] => 0
  | x :: r => bif decide (x = k) then cntI k r + 1 else cntI k r
theorem cntI_le (k : Int) (l : List Int) : 0 ≤ cntI k l ∧ cntI k l ≤ l.length := by
  induction l with
  | nil => simp [cntI]
  | cons x r ih => rw [cntI]; cases decide (x = k) <;> simp <;> omega
theorem cntI_two (l : List Int) : cntI 1 l + cntI 0 l ≤ l.length := by
  induction l with
  | nil => simp [cntI]
  | cons x r ih =>
    rw [cntI, cntI]
    cases h1 : decide (x = 1) <;> cases h0 : decide (x = 0) <;> simp at h1 h0 ⊢ <;> omega
def evalT (r : List Cell) (op id lo hi : Int) (set : List Val) (text : ByteArray) (n yes no : Int) : Int :=
  bif decide (op = 0) then 1 else
  bif decide (op = 1) || (decide (op = 2) || (decide (op = 3) || decide (op = 4))) then simpleS op lo hi set text (getC r id) else
  bif decide (op = 5) then (bif decide (0 < no) || decide (yes = n) then truth (decide (no = 0)) else 2) else
  bif decide (op = 6) then (bif decide (0 < yes) || decide (no = n) then truth (decide (0 < yes)) else 2) else
  bif decide (op = 7) then (bif decide (n = 1) && decide (yes + no = 1) then truth (decide (no = 1)) else 2) else 2
def evalS (r : List Cell) : Prd → Int
  | .mk op id lo hi set text kids => evalT r op id lo hi set text (kids.map (evalS r)).length (cntI 1 (kids.map (evalS r))) (cntI 0 (kids.map (evalS r)))
end Go.Den

/-! Predicates on rows: Eval and Match. -/
namespace Go.Den
open Go
set_option linter.unusedSimpArgs false
set_option linter.unusedVariables false
set_option maxRecDepth 100000
set_option maxHeartbeats 1000000
def matchP (p : Prd) (r : List Cell) : Bool := decide (evalS r p = 1)
end Go.Den
