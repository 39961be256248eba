/- Predicates on rows, the program's way: Eval and Match. -/
import Derived.Test.YtcbehobgahcdkaaS27
namespace Go.Den
open Go
set_option linter.unusedSimpArgs false
set_option linter.unusedVariables false
set_option maxRecDepth 100000
set_option maxHeartbeats 1000000
/-- Where the first element stands for which p says yes, counted from i; -1: nowhere. -/
def idxF {α : Type} (p : α → Bool) (i : Int) : List α → Int
  | [] => -1
  | x :: r => bif p x then i else idxF p (i + 1) r
theorem idxF_ge {α : Type} (p : α → Bool) : ∀ (L : List α) (i : Int), 0 ≤ i → (decide (0 ≤ idxF p i L)) = L.any p
  | [], i, h => by simp [idxF]
  | x :: r, i, h => by
    rw [idxF, List.any_cons]
    cases p x with
    | true => simp [h]
    | false => simpa using idxF_ge p r (i + 1) (by omega)
theorem idxF_lt {α : Type} (p : α → Bool) : ∀ (L : List α) (i : Int), idxF p i L < i + L.length ∨ idxF p i L = -1
  | [], i => .inr rfl
  | x :: r, i => by
    rw [idxF]
    cases p x with
    | true => left; simp; omega
    | false =>
      rcases idxF_lt p r (i + 1) with h | h
      · left; simp only [cond_false, List.length_cons]; omega
      · right; simpa using h
theorem slices_Index_Val (L : List Val) (v : Val) (hL : L.length < 1000000000000000) : Den prog 111 [.sl (L.map Val.cells), .agg [.bool v.null, .int .i64 v.n, .str v.s]] [] = some (.int .i64 (idxF (fun x => decide (v = x)) 0 L), []) := by
  rw [Den_ofK [] pr_slices_Index_api_Value_api_Value rfl]
  simp only [f_slices_Index_api_Value_api_Value, go_sem]
  refine range_ind L hL (fun i (_ : Unit) => (Run prog 0 (.loop 0 [0, 3, 7, 8] f_slices_Index_api_Value_api_Value_l0) [(0, .sl (L.map Val.cells)), (3, .rptr [.bool v.null, .int .i64 v.n, .str v.s]), (7, .int .i64 L.length), (8, .int .i64 i)] []).bind _ = _)
    (fun i rest _ => idxF (fun x => decide (v = x)) i rest = idxF (fun x => decide (v = x)) 0 L) ?_ ?_ () rfl
  · intro _ h
    rw [← h, Run_loop]
    simp only [f_slices_Index_api_Value_api_Value_l0_eq, f_slices_Index_api_Value_api_Value_l0u, idxF, go_sem]
  · intro i pre rest x _ hq _ hi0 hi1 hx hc hw h ih
    rw [idxF] at h
    have he := eqval v x
    rw [Run_loop]
    cases d : decide (v = x) with
    | true =>
      rw [d, cond_true] at h
      rw [d] at he
      rw [← h]
      simp only [f_slices_Index_api_Value_api_Value_l0_eq, f_slices_Index_api_Value_api_Value_l0u, hx, hc, hw, he, go_sem]
    | false =>
      rw [d, cond_false] at h
      rw [d] at he
      have ih := ih () h
      simp only [f_slices_Index_api_Value_api_Value_l0_eq, f_slices_Index_api_Value_api_Value_l0u, hx, hc, hw, he, ih, go_sem]
theorem slices_Contains_Val (L : List Val) (v : Val) (hL : L.length < 1000000000000000) : Den prog 118 [.sl (L.map Val.cells), .agg [.bool v.null, .int .i64 v.n, .str v.s]] [] = some (.bool (L.any fun x => decide (v = x)), []) := by
  have h := slices_Index_Val L v hL
  have h2 := idxF_ge (fun x => decide (v = x)) L 0 (by omega)
  rw [Den_ofK [] pr_slices_Contains_api_Value_api_Value rfl]
  simp only [f_slices_Contains_api_Value_api_Value, h, h2, go_sem]
theorem stringslite_HasPrefix (s t : ByteArray) : Den prog 112 [.str s, .str t] [] = some (.bool (beginsB s t), []) := by
  rw [Den_ofK [] pr_internal_stringslite_HasPrefix rfl]
  simp only [beginsB]
  by_cases h : (t.size : Int) ≤ s.size
  · have h0 : (0 : Int) ≤ t.size := by omega
    have hd : decide ((t.size : Int) ≤ s.size) = true := by simpa using h
    cases h2 : decide (s.extract 0 t.size = t) <;>
    simp only [f_internal_stringslite_HasPrefix, h, h0, hd, h2, go_sem]
  · have hd : decide ((t.size : Int) ≤ s.size) = false := by simpa using h
    simp only [f_internal_stringslite_HasPrefix, hd, go_sem]
theorem strings_HasPrefix (s t : ByteArray) : Den prog 119 [.str s, .str t] [] = some (.bool (beginsB s t), []) := by
  have h := stringslite_HasPrefix s t
  rw [Den_ofK [] pr_strings_HasPrefix rfl]
  simp only [f_strings_HasPrefix, h, go_sem]
theorem pred_truth (b : Bool) : Den prog 117 [.bool b] [] = some (.int .i64 (truth b), []) := by
  rw [Den_ofK [] pr_pred_truth rfl]
  cases b <;> simp only [f_pred_truth, truth, cond_true, cond_false, go_sem]
theorem pred_isAtom (op : Int) : Den prog 115 [.int .i64 op] [] = some (.bool (decide (1 ≤ op) && decide (op ≤ 4)), []) := by
  rw [Den_ofK [] pr_pred_isAtom rfl]
  cases d : decide (1 ≤ op) with
  | true => simp only [f_pred_isAtom, d, Bool.true_and, go_sem]
  | false => simp only [f_pred_isAtom, d, Bool.false_and, go_sem]
theorem pred_get (r : List Cell) (id : Int) (hL : r.length < 1000000000000000) : Den prog 116 [.agg [.sl (r.map Cell.cells)], .int .i64 id] [] = some (.agg [.bool (getC r id).null, .int .i64 (getC r id).n, .str (getC r id).s], []) := by
  rw [Den_ofK [] pr_pred_get rfl]
  simp only [f_pred_get, go_sem]
  refine range_ind r hL (fun i (_ : Unit) => (Run prog 0 (.loop 1 [1, 4, 8, 9, 10] f_pred_get_l0) [(1, .int .i64 id), (4, .ref 0 0), (8, .sl (r.map Cell.cells)), (9, .int .i64 r.length), (10, .int .i64 i)] [.cells [.bool false, .int .i64 0, .str ⟨#[]⟩]]).bind _ = _)
    (fun i rest _ => getC rest id = getC r id) ?_ ?_ () rfl
  · intro _ h
    rw [← h, Run_loop]
    simp only [f_pred_get_l0_eq, f_pred_get_l0u, getC, nullV, go_sem]
  · intro i pre rest x _ hq _ hi0 hi1 hx hc hw h ih
    rw [getC] at h
    rw [Run_loop]
    by_cases d : x.id = id
    · have d2 : decide (x.id = id) = true := by simp [d]
      rw [if_pos d] at h
      rw [← h]
      simp only [f_pred_get_l0_eq, f_pred_get_l0u, hx, hc, hw, d2, go_sem]
    · have d2 : decide (x.id = id) = false := by simp [d]
      rw [if_neg d] at h
      have ih := ih () h
      simp only [f_pred_get_l0_eq, f_pred_get_l0u, hx, hc, hw, d2, ih, go_sem]
def someL (stop : Int) : Int → List Int → Int
  | out, [] => out
  | out, t :: r => bif decide (t = stop) then stop else someL stop (bif decide (t = 2) then t else out) r
theorem pred_some (r : List Cell) (kids : List Prd) (hk : kids.length < 100000000000000) (stop : Int) (s0 : stop = 0 ∨ stop = 1)
    (hp : ∀ k ∈ kids, Den prog 110 [.agg k.cells, .agg [.sl (r.map Cell.cells)]] [] = some (.int .i64 (evalS r k), [])) :
    Den prog 114 [.sl (kids.map Prd.cells), .int .i64 stop, .fn 113 [.rptr [.sl (r.map Cell.cells)]]] [] = some (.int .i64 (someL stop (1 - stop) (kids.map (evalS r))), []) := by
  have hw1 : IntKind.wrap .i64 (1 - stop) = 1 - stop := wrap_i64 (by omega) (by omega)
  rw [Den_ofK [] pr_pred_some rfl]
  simp only [f_pred_some, hw1, go_sem]
  refine range_ind kids (by omega) (fun i (out : Int) => (Run prog 0 (.loop 0 [1, 2, 7, 13, 14, 15] f_pred_some_l0) [(1, .int .i64 stop), (2, .fn 113 [.rptr [.sl (r.map Cell.cells)]]), (7, .int .i64 out), (13, .sl (kids.map Prd.cells)), (14, .int .i64 kids.length), (15, .int .i64 i)] []).bind _ = _)
    (fun i rest out => someL stop out (rest.map (evalS r)) = someL stop (1 - stop) (kids.map (evalS r))) ?_ ?_ (1 - stop) rfl
  · intro out h
    rw [List.map_nil, someL] at h
    rw [← h, Run_loop]
    simp only [f_pred_some_l0_eq, f_pred_some_l0u, go_sem]
  · intro i pre rest x out hq _ hi0 hi1 hx hc hw h ih
    have he := hp x (by rw [hq]; simp)
    have h13 : Den prog 113 [.agg x.cells, .rptr [.sl (r.map Cell.cells)]] [] = some (.int .i64 (evalS r x), []) := by
      rw [Den_ofK [] pr_pred_Eval_1 rfl]
      obtain ⟨p1, p2, p3, p4, p5, p6, p7⟩ := x
      rw [Prd.cells_mk] at he ⊢
      simp only [f_pred_Eval_1, he, go_sem]
    rw [List.map_cons, someL] at h
    generalize evalS r x = t at *
    obtain ⟨p1, p2, p3, p4, p5, p6, p7⟩ := x
    rw [Prd.cells_mk] at h13
    clear hp he hq
    rw [Run_loop]
    cases d : decide (t = stop) with
    | true =>
      rw [d, cond_true] at h
      rw [← h]
      simp only [f_pred_some_l0_eq, f_pred_some_l0u, hx, hc, hw, h13, d, go_sem]
    | false =>
      rw [d, cond_false] at h
      have ih := ih _ h
      cases d2 : decide (t = 2) with
      | true =>
        rw [d2, cond_true] at ih
        simp only [f_pred_some_l0_eq, f_pred_some_l0u, hx, hc, hw, h13, d, d2, ih, go_sem]
      | false =>
        rw [d2, cond_false] at ih
        simp only [f_pred_some_l0_eq, f_pred_some_l0u, hx, hc, hw, h13, d, d2, ih, go_sem]
/-! What comes out is 0, 1 or 2. -/
theorem truth_rng (b : Bool) : truth b = 0 ∨ truth b = 1 := by cases b <;> simp [truth]
theorem bif_rng {b : Bool} {x y : Int} (hx : x = 0 ∨ x = 1 ∨ x = 2) (hy : y = 0 ∨ y = 1 ∨ y = 2) : (bif b then x else y) = 0 ∨ (bif b then x else y) = 1 ∨ (bif b then x else y) = 2 := by cases b <;> assumption
theorem simpleS_rng (op lo hi : Int) (set : List Val) (text : ByteArray) (v : Val) : simpleS op lo hi set text v = 0 ∨ simpleS op lo hi set text v = 1 ∨ simpleS op lo hi set text v = 2 := by
  have ht : ∀ b, truth b = 0 ∨ truth b = 1 ∨ truth b = 2 := fun b => by rcases truth_rng b with h | h <;> simp [h]
  unfold simpleS
  exact bif_rng (ht _) (bif_rng (by simp) (bif_rng (ht _) (bif_rng (ht _) (ht _))))
theorem evalT_rng (r : List Cell) (op id lo hi : Int) (set : List Val) (text : ByteArray) (n yes no : Int) : evalT r op id lo hi set text n yes no = 0 ∨ evalT r op id lo hi set text n yes no = 1 ∨ evalT r op id lo hi set text n yes no = 2 := by
  have ht : ∀ b, truth b = 0 ∨ truth b = 1 ∨ truth b = 2 := fun b => by rcases truth_rng b with h | h <;> simp [h]
  unfold evalT
  exact bif_rng (by simp) (bif_rng (simpleS_rng _ _ _ _ _ _) (bif_rng (bif_rng (ht _) (by simp)) (bif_rng (bif_rng (ht _) (by simp)) (bif_rng (bif_rng (ht _) (by simp)) (by simp)))))
theorem evalS_rng (r : List Cell) (p : Prd) : evalS r p = 0 ∨ evalS r p = 1 ∨ evalS r p = 2 := by
  cases p
  rw [evalS]
  exact evalT_rng _ _ _ _ _ _ _ _ _ _
def rng3 (l : List Int) : Prop := ∀ t ∈ l, t = 0 ∨ t = 1 ∨ t = 2
theorem someL_and : ∀ (l : List Int) (out : Int), rng3 l → (out = 1 ∨ out = 2) → someL 0 out l = bif decide (0 < cntI 0 l) then 0 else bif decide (cntI 1 l = l.length) then out else 2
  | [], out, _, _ => by simp [someL, cntI]
  | t :: r, out, h, ho => by
    have c0 := cntI_le 0 r
    have c1 := cntI_le 1 r
    have c2 := cntI_two r
    have ih := fun o ho => someL_and r o (fun z hz => h z (by simp [hz])) ho
    rw [someL]
    rcases h t (by simp) with rfl | rfl | rfl
    · have : decide (0 < cntI 0 (0 :: r)) = true := by simp [cntI]; omega
      rw [this]; rfl
    · have e0 : cntI 0 (1 :: r) = cntI 0 r := by simp [cntI]
      have e1 : cntI 1 (1 :: r) = cntI 1 r + 1 := by simp [cntI]
      rw [e0, e1]
      have e2 : decide (cntI 1 r + 1 = (((1 :: r).length : Nat) : Int)) = decide (cntI 1 r = (r.length : Int)) := by
        rw [List.length_cons]
        by_cases hq : cntI 1 r = (r.length : Int)
        · simp [hq]
        · have : ¬ cntI 1 r + 1 = (((r.length + 1 : Nat)) : Int) := by omega
          simp [hq, this]
      rw [e2]
      exact ih out ho
    · have e0 : cntI 0 (2 :: r) = cntI 0 r := by simp [cntI]
      have e1 : cntI 1 (2 :: r) = cntI 1 r := by simp [cntI]
      rw [e0, e1]
      have e2 : decide (cntI 1 r = (((2 :: r).length : Nat) : Int)) = false := by simp; omega
      rw [e2]
      have := ih 2 (by simp)
      change someL 0 2 r = _
      rw [this]
      cases decide (0 < cntI 0 r) <;> cases decide (cntI 1 r = (r.length : Int)) <;> rfl
theorem someL_or : ∀ (l : List Int) (out : Int), rng3 l → (out = 0 ∨ out = 2) → someL 1 out l = bif decide (0 < cntI 1 l) then 1 else bif decide (cntI 0 l = l.length) then out else 2
  | [], out, _, _ => by simp [someL, cntI]
  | t :: r, out, h, ho => by
    have c0 := cntI_le 0 r
    have c1 := cntI_le 1 r
    have c2 := cntI_two r
    have ih := fun o ho => someL_or r o (fun z hz => h z (by simp [hz])) ho
    rw [someL]
    rcases h t (by simp) with rfl | rfl | rfl
    · have e1 : cntI 1 (0 :: r) = cntI 1 r := by simp [cntI]
      have e0 : cntI 0 (0 :: r) = cntI 0 r + 1 := by simp [cntI]
      rw [e0, e1]
      have e2 : decide (cntI 0 r + 1 = (((0 :: r).length : Nat) : Int)) = decide (cntI 0 r = (r.length : Int)) := by
        rw [List.length_cons]
        by_cases hq : cntI 0 r = (r.length : Int)
        · simp [hq]
        · have : ¬ cntI 0 r + 1 = (((r.length + 1 : Nat)) : Int) := by omega
          simp [hq, this]
      rw [e2]
      exact ih out ho
    · have : decide (0 < cntI 1 (1 :: r)) = true := by simp [cntI]; omega
      rw [this]; rfl
    · have e0 : cntI 0 (2 :: r) = cntI 0 r := by simp [cntI]
      have e1 : cntI 1 (2 :: r) = cntI 1 r := by simp [cntI]
      rw [e0, e1]
      have e2 : decide (cntI 0 r = (((2 :: r).length : Nat) : Int)) = false := by simp; omega
      rw [e2]
      have := ih 2 (by simp)
      change someL 1 2 r = _
      rw [this]
      cases decide (0 < cntI 1 r) <;> cases decide (cntI 0 r = (r.length : Int)) <;> rfl
theorem any_within (v : Val) (hv : v.null = false) (set : List Val) : (set.any fun x => decide (v = x)) = set.any (withinB v.n v.s) := by
  refine congrArg (fun p => set.any p) ?_
  funext x
  unfold withinB
  obtain ⟨vn, vi, vs⟩ := v
  obtain ⟨xn, xi, xs⟩ := x
  simp only [] at hv
  subst hv
  cases xn
  · simp only [Val.mk.injEq, true_and, Bool.not_false, Bool.true_and]
    by_cases h1 : vi = xi
    · by_cases h2 : vs = xs
      · simp [h1, h2]
      · have : ¬ xs = vs := fun e => h2 e.symm
        simp [h2, this]
    · have : ¬ xi = vi := fun e => h1 e.symm
      simp [h1, this]
  · simp
theorem pred_Eval_mk (r : List Cell) (hr : r.length < 1000000000000) (op id lo hi : Int) (set : List Val) (text : ByteArray) (kids : List Prd) (hs : set.length < 100000000000000) (hk : kids.length < 100000000000000)
    (hp : ∀ k ∈ kids, Den prog 110 [.agg k.cells, .agg [.sl (r.map Cell.cells)]] [] = some (.int .i64 (evalS r k), [])) :
    Den prog 110 [.agg [.int .i64 op, .int .i64 id, .int .i64 lo, .int .i64 hi, .sl (set.map Val.cells), .str text, .sl (kids.map Prd.cells)], .agg [.sl (r.map Cell.cells)]] [] = some (.int .i64 (evalS r (.mk op id lo hi set text kids)), []) := by
  have g0 := pred_some r kids hk 0 (by simp) hp
  have g1 := pred_some r kids hk 1 (by simp) hp
  have z1 : (1 : Int) - 0 = 1 := rfl
  have z2 : (1 : Int) - 1 = 0 := rfl
  have h3 : rng3 (kids.map (evalS r)) := by
    intro t ht
    obtain ⟨k, _, rfl⟩ := List.mem_map.1 ht
    exact evalS_rng r k
  rw [z1, someL_and _ _ h3 (.inl rfl)] at g0
  rw [z2, someL_or _ _ h3 (.inl rfl)] at g1
  obtain ⟨R, hR⟩ : ∃ R, R = evalS r (.mk op id lo hi set text kids) := ⟨_, rfl⟩
  rw [← hR]
  rw [evalS, evalT] at hR
  have c0 := cntI_le 0 (kids.map (evalS r))
  have c1 := cntI_le 1 (kids.map (evalS r))
  have c2 := cntI_two (kids.map (evalS r))
  rw [Den_ofK [] pr_pred_Eval rfl]
  cases d0 : decide (op = 0) with
  | true =>
    rw [d0, cond_true] at hR
    rw [hR]
    simp only [f_pred_Eval, d0, go_sem]
  | false =>
    rw [d0, cond_false] at hR
    cases d5 : decide (op = 5) with
    | true =>
      have e5 : op = 5 := of_decide_eq_true d5
      subst e5
      have a1 : decide ((5 : Int) = 1) = false := rfl
      have a2 : decide ((5 : Int) = 2) = false := rfl
      have a3 : decide ((5 : Int) = 3) = false := rfl
      have a4 : decide ((5 : Int) = 4) = false := rfl
      have a5 : decide ((5 : Int) = 5) = true := rfl
      rw [a1, a2, a3, a4, a5] at hR
      simp only [Bool.or_false, cond_false, cond_true] at hR
      have e : (bif decide (0 < cntI 0 (kids.map (evalS r))) then (0 : Int) else bif decide (cntI 1 (kids.map (evalS r)) = ((kids.map (evalS r)).length : Int)) then 1 else 2) = R := by
        rw [hR]
        cases q1 : decide (0 < cntI 0 (kids.map (evalS r))) with
        | true =>
          have : decide (cntI 0 (kids.map (evalS r)) = 0) = false := by simp at q1 ⊢; omega
          simp [this, truth]
        | false =>
          have : decide (cntI 0 (kids.map (evalS r)) = 0) = true := by simp at q1 ⊢; omega
          cases decide (cntI 1 (kids.map (evalS r)) = ((kids.map (evalS r)).length : Int)) <;> simp [this, truth]
      rw [e] at g0
      clear hp hR c0 c1 c2 h3 e g1
      simp only [f_pred_Eval, d0, d5, g0, go_sem]
    | false =>
      cases d6 : decide (op = 6) with
      | true =>
        have e6 : op = 6 := of_decide_eq_true d6
        subst e6
        have a1 : decide ((6 : Int) = 1) = false := rfl
        have a2 : decide ((6 : Int) = 2) = false := rfl
        have a3 : decide ((6 : Int) = 3) = false := rfl
        have a4 : decide ((6 : Int) = 4) = false := rfl
        have a5 : decide ((6 : Int) = 5) = false := rfl
        have a6 : decide ((6 : Int) = 6) = true := rfl
        rw [a1, a2, a3, a4, a5, a6] at hR
        simp only [Bool.or_false, cond_false, cond_true] at hR
        have e : (bif decide (0 < cntI 1 (kids.map (evalS r))) then (1 : Int) else bif decide (cntI 0 (kids.map (evalS r)) = ((kids.map (evalS r)).length : Int)) then 0 else 2) = R := by
          rw [hR]
          cases q1 : decide (0 < cntI 1 (kids.map (evalS r))) with
          | true => simp [truth]
          | false => cases decide (cntI 0 (kids.map (evalS r)) = ((kids.map (evalS r)).length : Int)) <;> simp [truth]
        rw [e] at g1
        clear hp hR c0 c1 c2 h3 e g0
        simp only [f_pred_Eval, d0, d5, d6, g1, go_sem]
      | false =>
        cases d7 : decide (op = 7) with
        | true =>
          have e7 : op = 7 := of_decide_eq_true d7
          subst e7
          have a1 : decide ((7 : Int) = 1) = false := rfl
          have a2 : decide ((7 : Int) = 2) = false := rfl
          have a3 : decide ((7 : Int) = 3) = false := rfl
          have a4 : decide ((7 : Int) = 4) = false := rfl
          have a5 : decide ((7 : Int) = 5) = false := rfl
          have a6 : decide ((7 : Int) = 6) = false := rfl
          have a7 : decide ((7 : Int) = 7) = true := rfl
          rw [a1, a2, a3, a4, a5, a6, a7] at hR
          simp only [Bool.or_false, cond_false, cond_true] at hR
          cases dl : decide ((kids.length : Int) = 1) with
          | false =>
            rw [List.length_map, dl, Bool.false_and, cond_false] at hR
            rw [hR]
            clear hp c0 c1 c2 h3 g0 g1
            simp only [f_pred_Eval, d0, d5, d6, d7, dl, go_sem]
          | true =>
            rw [List.length_map, dl, Bool.true_and] at hR
            have hl : kids.length = 1 := by simp at dl; omega
            obtain ⟨k, rfl⟩ := List.length_eq_one_iff.1 hl
            have he := hp k (by simp)
            have h13 : Den prog 113 [.agg k.cells, .rptr [.sl (r.map Cell.cells)]] [] = some (.int .i64 (evalS r k), []) := by
              rw [Den_ofK [] pr_pred_Eval_1 rfl]
              obtain ⟨p1, p2, p3, p4, p5, p6, p7⟩ := k
              rw [Prd.cells_mk] at he ⊢
              simp only [f_pred_Eval_1, he, go_sem]
            have hrg := evalS_rng r k
            simp only [List.map_cons, List.map_nil] at hR
            generalize evalS r k = t at *
            obtain ⟨p1, p2, p3, p4, p5, p6, p7⟩ := k
            rw [Prd.cells_mk] at h13
            clear hp c0 c1 c2 h3 g0 g1 he hl
            simp only [List.length_cons, List.length_nil] at dl
            rcases hrg with rfl | rfl | rfl
            · have e : R = 1 := by rw [hR]; rfl
              have w1 : IntKind.wrap .i64 1 = 1 := rfl
              have b2 : decide ((0 : Int) = 2) = false := rfl
              subst e
              simp only [f_pred_Eval, d0, d5, d6, d7, dl, h13, w1, b2, go_sem]
            · have e : R = 0 := by rw [hR]; rfl
              have w1 : IntKind.wrap .i64 0 = 0 := rfl
              have b2 : decide ((1 : Int) = 2) = false := rfl
              subst e
              simp only [f_pred_Eval, d0, d5, d6, d7, dl, h13, w1, b2, go_sem]
            · have e : R = 2 := by rw [hR]; rfl
              have b2 : decide ((2 : Int) = 2) = true := rfl
              subst e
              simp only [f_pred_Eval, d0, d5, d6, d7, dl, h13, b2, go_sem]
        | false =>
          rw [d5, d6, d7] at hR
          simp only [cond_false] at hR
          have hat := pred_isAtom op
          have hatom : (decide (op = 1) || (decide (op = 2) || (decide (op = 3) || decide (op = 4)))) = (decide (1 ≤ op) && decide (op ≤ 4)) := by
            rw [Bool.eq_iff_iff]
            simp
            omega
          rw [hatom] at hR
          clear hp c0 c1 c2 h3 g0 g1
          cases da : (decide (1 ≤ op) && decide (op ≤ 4)) with
          | false =>
            rw [da] at hat
            rw [da, cond_false] at hR
            rw [hR]
            simp only [f_pred_Eval, d0, d5, d6, d7, hat, go_sem]
          | true =>
            rw [da] at hat
            rw [da, cond_true] at hR
            have hg := pred_get r id (by omega)
            have t0 := pred_truth (getC r id).null
            have t1 := pred_truth (decide (lo ≤ (getC r id).n) && decide ((getC r id).n ≤ hi))
            have t2 := pred_truth (set.any fun x => decide (getC r id = x))
            have t3 := pred_truth (beginsB (getC r id).s text)
            have hct := slices_Contains_Val set (getC r id) (by omega)
            have hpf := strings_HasPrefix (getC r id).s text
            have hany := any_within (getC r id)
            unfold simpleS at hR
            generalize getC r id = v at *
            clear hatom da
            cases d4 : decide (op = 4) with
            | true =>
              rw [d4, cond_true] at hR
              rw [hR]
              simp only [f_pred_Eval, d0, d5, d6, d7, d4, hat, hg, t0, go_sem]
            | false =>
              rw [d4, cond_false] at hR
              cases dn : v.null with
              | true =>
                rw [dn, cond_true] at hR
                rw [dn] at hg
                rw [hR]
                simp only [f_pred_Eval, d0, d5, d6, d7, d4, hat, hg, go_sem]
              | false =>
                have hany := hany dn set
                rw [dn, cond_false] at hR
                rw [dn] at hg hct
                cases d1 : decide (op = 1) with
                | true =>
                  rw [d1, cond_true] at hR
                  rw [hR]
                  cases q1 : decide (lo ≤ v.n) with
                  | true =>
                    rw [q1, Bool.true_and] at t1
                    simp only [f_pred_Eval, d0, d5, d6, d7, d4, d1, q1, hat, hg, t1, Bool.true_and, go_sem]
                  | false =>
                    rw [q1, Bool.false_and] at t1
                    simp only [f_pred_Eval, d0, d5, d6, d7, d4, d1, q1, hat, hg, t1, Bool.false_and, go_sem]
                | false =>
                  rw [d1, cond_false] at hR
                  cases d2 : decide (op = 2) with
                  | true =>
                    rw [d2, cond_true] at hR
                    rw [hany] at hct t2
                    rw [hR]
                    simp only [f_pred_Eval, d0, d5, d6, d7, d4, d1, d2, hat, hg, hct, t2, go_sem]
                  | false =>
                    rw [d2, cond_false] at hR
                    rw [hR]
                    simp only [f_pred_Eval, d0, d5, d6, d7, d4, d1, d2, hat, hg, hpf, t3, go_sem]
theorem pred_Eval (r : List Cell) (hr : r.length < 1000000000000) : ∀ (p : Prd), POK p → Den prog 110 [.agg p.cells, .agg [.sl (r.map Cell.cells)]] [] = some (.int .i64 (evalS r p), [])
  | .mk op id lo hi set text kids, h => by
    cases h with
    | mk _ _ _ _ _ _ _ hs hk hkk _ _ =>
    rw [Prd.cells_mk]
    exact pred_Eval_mk r hr op id lo hi set text kids hs hk (fun k hm => pred_Eval r hr k (hkk k hm))
termination_by p => SizeOf.sizeOf p
decreasing_by
  have := List.sizeOf_lt_of_mem hm
  simp
  omega
theorem pred_Match (r : List Cell) (hr : r.length < 1000000000000) (p : Prd) (h : POK p) : Den prog 120 [.agg p.cells, .agg [.sl (r.map Cell.cells)]] [] = some (.bool (matchP p r), []) := by
  have he := pred_Eval r hr p h
  rw [Den_ofK [] pr_pred_Match rfl]
  unfold matchP
  obtain ⟨p1, p2, p3, p4, p5, p6, p7⟩ := p
  rw [Prd.cells_mk] at he ⊢
  simp only [f_pred_Match, he, go_sem]
end Go.Den
