import Derived.Test.YtjdnmifdkkohnaaS09
/-! Predicates on rows. -/
namespace Go.Den
open Go
set_option linter.unusedSimpArgs false
set_option linter.unusedVariables false
set_option maxRecDepth 100000
set_option maxHeartbeats 1000000
def truth (b : Bool) : Int := bif b then 1 else 0
@[go_sem] theorem R08_truth (b : Bool) : Den prog 77 [.bool b] [] = some (.int .i64 (truth b), []) := by
  rw [Den_ofK [] pr_R08_truth rfl]
  cases b <;> simp only [f_R08_truth, truth, cond_true, cond_false, go_sem]
def withinB (n : Int) (s : ByteArray) (v : Val) : Bool := !v.null && (decide (v.n = n) && decide (v.s = s))
theorem R08_within (b : Bool) (n : Int) (s : ByteArray) (L : List Val) (hL : L.length < 1000000000000000) : Den prog 78 [.agg [.bool b, .int .i64 n, .str s], .sl (L.map Val.cells)] [] = some (.bool (L.any (withinB n s)), []) := by
  rw [Den_ofK [] pr_R08_within rfl]
  simp only [f_R08_within, go_sem]
  refine range_ind L hL (fun i (_ : Unit) => (Run prog 0 (.loop 0 [1, 2, 5] f_R08_within_l0) [(1, .sl (L.map Val.cells)), (2, .rptr [.bool b, .int .i64 n, .str s]), (5, .int .i64 i)] []).bind _ = _) (fun i rest _ => rest.any (withinB n s) = L.any (withinB n s)) ?_ ?_ () rfl
  · intro _ h
    have h : L.any (withinB n s) = false := h.symm
    rw [Run_loop]
    simp only [f_R08_within_l0_eq, f_R08_within_l0u, h, go_sem]
  · intro i pre rest x _ hp _ _ _ hx hc hw h ih
    rw [Run_loop]
    cases hk : withinB n s x with
    | true =>
      have h : L.any (withinB n s) = true := by rw [← h]; simp [hk]
      clear hp ih
      simp only [withinB, Bool.and_eq_true, Bool.not_eq_true'] at hk
      obtain ⟨k1, k2, k3⟩ := hk
      simp only [f_R08_within_l0_eq, f_R08_within_l0u, hx, hc, h, k1, k2, k3, go_sem]
    | false =>
      have ih := ih () (by rw [← h]; simp [hk])
      clear hp h
      simp only [withinB] at hk
      cases k1 : x.null with
      | true => simp only [f_R08_within_l0_eq, f_R08_within_l0u, hx, hc, hw, k1, ih, go_sem]
      | false => cases k2 : decide (x.n = n) with
        | false => simp only [f_R08_within_l0_eq, f_R08_within_l0u, hx, hc, hw, k1, k2, ih, go_sem]
        | true => cases k3 : decide (x.s = s) with
          | false => simp only [f_R08_within_l0_eq, f_R08_within_l0u, hx, hc, hw, k1, k2, k3, ih, go_sem]
          | true => simp [k1, k2, k3] at hk
def beginsB (s t : ByteArray) : Bool := decide ((t.size : Int) ≤ s.size) && decide (s.extract 0 t.size = t)
@[go_sem] theorem R08_begins (s t : ByteArray) : Den prog 79 [.str s, .str t] [] = some (.bool (beginsB s t), []) := by
  rw [Den_ofK [] pr_R08_begins rfl]
  simp only [beginsB]
  by_cases h : (t.size : Int) ≤ s.size
  · have h0 : (0 : Int) ≤ t.size := by omega
    have hd : decide ((t.size : Int) ≤ s.size) = true := by simpa using h
    cases h2 : decide (s.extract 0 t.size = t) <;>
    simp only [f_R08_begins, h, h0, hd, h2, go_sem]
  · have hd : decide ((t.size : Int) ≤ s.size) = false := by simpa using h
    simp only [f_R08_begins, hd, go_sem]
def simpleS (op lo hi : Int) (set : List Val) (text : ByteArray) (v : Val) : Int :=
  bif decide (op = 4) then truth v.null else
  bif v.null then 2 else
  bif decide (op = 1) then truth (decide (lo ≤ v.n) && decide (v.n ≤ hi)) else
  bif decide (op = 2) then truth (set.any (withinB v.n v.s)) else truth (beginsB v.s text)
@[go_sem] theorem R08_simple (op id lo hi : Int) (set : List Val) (text : ByteArray) (kids : List Prd) (b : Bool) (n : Int) (s : ByteArray) (hs : set.length < 1000000000000000) :
    Den prog 82 [.agg [.int .i64 op, .int .i64 id, .int .i64 lo, .int .i64 hi, .sl (set.map Val.cells), .str text, .sl (kids.map Prd.cells)], .agg [.bool b, .int .i64 n, .str s]] [] = some (.int .i64 (simpleS op lo hi set text ⟨b, n, s⟩), []) := by
  have hw := R08_within b n s set hs
  rw [Den_ofK [] pr_R08_simple rfl]
  simp only [simpleS]
  cases e4 : decide (op = 4) with
  | true => simp only [f_R08_simple, e4, cond_true, go_sem]
  | false => cases b with
    | true => simp only [f_R08_simple, e4, cond_true, cond_false, go_sem]
    | false => cases e1 : decide (op = 1) with
      | true => cases d1 : decide (lo ≤ n) <;> cases d2 : decide (n ≤ hi) <;> simp only [f_R08_simple, e4, e1, d1, d2, cond_true, cond_false, go_sem]
      | false => cases e2 : decide (op = 2) <;> simp only [f_R08_simple, e4, e1, e2, hw, cond_true, cond_false, go_sem]
@[go_sem] theorem R08_Value (r : List Cell) (id : Int) (hL : r.length < 1000000000000000) : Den prog 81 [.agg [.sl (r.map Cell.cells)], .int .i64 id] [] = some (.agg [.bool (getC r id).null, .int .i64 (getC r id).n, .str (getC r id).s], []) := by
  rw [Den_ofK [] pr_R08_Value rfl]
  simp only [f_R08_Value, go_sem]
  refine range_ind r hL (fun i (_ : Unit) => (Run prog 0 (.loop 1 [1, 2, 4, 5] f_R08_Value_l0) [(1, .int .i64 id), (2, .rptr [.sl (r.map Cell.cells)]), (4, .ref 0 0), (5, .int .i64 i)] [.cells [.bool false, .int .i64 0, .str ⟨#[]⟩]]).bind _ = _) (fun i rest _ => getC rest id = getC r id) ?_ ?_ () rfl
  · intro _ h
    have h : getC r id = nullV := h.symm
    rw [Run_loop]
    simp only [f_R08_Value_l0_eq, f_R08_Value_l0u, h, nullV, go_sem]
  · intro i pre rest x _ hp _ _ _ hx hc hw h ih
    rw [Run_loop]
    by_cases hn : x.id = id
    · have hd : decide (x.id = id) = true := by simpa using hn
      have h : getC r id = x.v := by rw [← h]; simp [getC, hn]
      simp only [f_R08_Value_l0_eq, f_R08_Value_l0u, hx, hc, hd, h, go_sem]
    · have hd : decide (x.id = id) = false := by simpa using hn
      have ih := ih () (by rw [← h]; simp [getC, hn])
      simp only [f_R08_Value_l0_eq, f_R08_Value_l0u, hx, hc, hw, hd, ih, go_sem]
def cntI (k : Int) : List Int → Int
  | [] => 0
  | x :: r => bif decide (x = k) then cntI k r + 1 else cntI k r
theorem cntI_le (k : Int) (l : List Int) : 0 ≤ cntI k l ∧ cntI k l ≤ l.length := by
  induction l with
  | nil => simp [cntI]
  | cons x r ih => rw [cntI]; cases decide (x = k) <;> simp <;> omega
theorem cntI_two (l : List Int) : cntI 1 l + cntI 0 l ≤ l.length := by
  induction l with
  | nil => simp [cntI]
  | cons x r ih =>
    rw [cntI, cntI]
    cases h1 : decide (x = 1) <;> cases h0 : decide (x = 0) <;> simp at h1 h0 ⊢ <;> omega
def evalT (r : List Cell) (op id lo hi : Int) (set : List Val) (text : ByteArray) (n yes no : Int) : Int :=
  bif decide (op = 0) then 1 else
  bif decide (op = 1) || (decide (op = 2) || (decide (op = 3) || decide (op = 4))) then simpleS op lo hi set text (getC r id) else
  bif decide (op = 5) then (bif decide (0 < no) || decide (yes = n) then truth (decide (no = 0)) else 2) else
  bif decide (op = 6) then (bif decide (0 < yes) || decide (no = n) then truth (decide (0 < yes)) else 2) else
  bif decide (op = 7) then (bif decide (n = 1) && decide (yes + no = 1) then truth (decide (no = 1)) else 2) else 2
def evalS (r : List Cell) : Prd → Int
  | .mk op id lo hi set text kids => evalT r op id lo hi set text (kids.map (evalS r)).length (cntI 1 (kids.map (evalS r))) (cntI 0 (kids.map (evalS r)))
end Go.Den

/-! Predicates on rows: Eval and Match. -/
namespace Go.Den
open Go
set_option linter.unusedSimpArgs false
set_option linter.unusedVariables false
set_option maxRecDepth 100000
set_option maxHeartbeats 1000000
theorem R08_Eval_fin (op id lo hi : Int) (set : List Val) (text : ByteArray) (kids : List Prd) (hk : kids.length < 100000000000000) (hs : set.length < 100000000000000) (r : List Cell) (hr : r.length < 1000000000000)
    (hl : ∀ (K : Ex × Env × St → Option (AV × St)) (Z : Option (AV × St)) (yes no : Int), yes + no ≤ kids.length → 0 ≤ yes → 0 ≤ no → True → K (.exit 0, [(2, .rptr [.int .i64 op, .int .i64 id, .int .i64 lo, .int .i64 hi, .sl (set.map Val.cells), .str text, .sl (kids.map Prd.cells)]), (3, .rptr [.sl (r.map Cell.cells)]), (5, .int .i64 yes), (6, .int .i64 no), (7, .int .i64 kids.length), (13, .bool false)], []) = Z → True)
    (yes no : Int) (h0 : 0 ≤ yes) (h1 : 0 ≤ no) (h2 : yes + no ≤ kids.length)
    (hrun : ∀ (K : Ex × Env × St → Option (AV × St)) (Z : Option (AV × St)), K (.exit 0, [(2, .rptr [.int .i64 op, .int .i64 id, .int .i64 lo, .int .i64 hi, .sl (set.map Val.cells), .str text, .sl (kids.map Prd.cells)]), (3, .rptr [.sl (r.map Cell.cells)]), (5, .int .i64 yes), (6, .int .i64 no), (7, .int .i64 kids.length), (13, .bool false)], []) = Z →
      (Run prog 0 (.loop 0 [2, 3, 5, 6, 7] f_R08_Eval_l0) [(2, .rptr [.int .i64 op, .int .i64 id, .int .i64 lo, .int .i64 hi, .sl (set.map Val.cells), .str text, .sl (kids.map Prd.cells)]), (3, .rptr [.sl (r.map Cell.cells)]), (5, .int .i64 0), (6, .int .i64 0), (7, .int .i64 0)] []).bind K = Z) :
    Den prog 80 [.agg [.int .i64 op, .int .i64 id, .int .i64 lo, .int .i64 hi, .sl (set.map Val.cells), .str text, .sl (kids.map Prd.cells)], .agg [.sl (r.map Cell.cells)]] [] = some (.int .i64 (evalT r op id lo hi set text kids.length yes no), []) := by
  have hr2 : r.length < 1000000000000000 := by omega
  have hs2 : set.length < 1000000000000000 := by omega
  have hw : IntKind.wrap .i64 (yes + no) = yes + no := wrap_i64 (by omega) (by omega)
  rw [Den_ofK [] pr_R08_Eval rfl]
  simp only [f_R08_Eval, go_sem]
  refine hrun _ _ ?_
  clear hl hrun h0 h1 h2
  simp only [evalT]
  cases e0 : decide (op = 0) with
  | true => simp only [e0, cond_true, go_sem]
  | false => 
  cases e1 : decide (op = 1) with
  | true => simp only [e0, e1, cond_true, cond_false, Bool.true_or, hr2, hs2, go_sem]
  | false => 
  cases e2 : decide (op = 2) with
  | true => simp only [e0, e1, e2, cond_true, cond_false, Bool.true_or, Bool.false_or, hr2, hs2, go_sem]
  | false => 
  cases e3 : decide (op = 3) with
  | true => simp only [e0, e1, e2, e3, cond_true, cond_false, Bool.true_or, Bool.false_or, hr2, hs2, go_sem]
  | false => 
  cases e4 : decide (op = 4) with
  | true => simp only [e0, e1, e2, e3, e4, cond_true, cond_false, Bool.true_or, Bool.false_or, hr2, hs2, go_sem]
  | false => 
  cases e5 : decide (op = 5) with
  | true => 
    cases d1 : decide (0 < no) with
    | true => simp only [e0, e1, e2, e3, e4, e5, d1, cond_true, cond_false, Bool.true_or, Bool.false_or, go_sem]
    | false => cases d2 : decide (yes = (kids.length : Int)) <;> simp only [e0, e1, e2, e3, e4, e5, d1, d2, cond_true, cond_false, Bool.true_or, Bool.false_or, go_sem]
  | false => 
  cases e6 : decide (op = 6) with
  | true => 
    cases d1 : decide (0 < yes) with
    | true => simp only [e0, e1, e2, e3, e4, e5, e6, d1, cond_true, cond_false, Bool.true_or, Bool.false_or, go_sem]
    | false => cases d2 : decide (no = (kids.length : Int)) <;> simp only [e0, e1, e2, e3, e4, e5, e6, d1, d2, cond_true, cond_false, Bool.true_or, Bool.false_or, go_sem]
  | false => 
  cases e7 : decide (op = 7) with
  | true => 
    cases d1 : decide ((kids.length : Int) = 1) with
    | false => simp only [e0, e1, e2, e3, e4, e5, e6, e7, d1, cond_true, cond_false, Bool.true_or, Bool.false_or, go_sem]
    | true => cases d2 : decide (yes + no = 1) <;> simp only [e0, e1, e2, e3, e4, e5, e6, e7, d1, d2, hw, cond_true, cond_false, Bool.true_or, Bool.false_or, go_sem]
  | false => simp only [e0, e1, e2, e3, e4, e5, e6, e7, cond_true, cond_false, Bool.true_or, Bool.false_or, go_sem]
theorem R08_Eval_l0 (op id lo hi : Int) (set : List Val) (text : ByteArray) (kids : List Prd) (hk : kids.length < 100000000000000) (r : List Cell)
    (hc : ∀ k ∈ kids, Den prog 80 [.agg k.cells, .agg [.sl (r.map Cell.cells)]] [] = some (.int .i64 (evalS r k), []))
    (K : Ex × Env × St → Option (AV × St)) (Z : Option (AV × St))
    (h : K (.exit 0, [(2, .rptr [.int .i64 op, .int .i64 id, .int .i64 lo, .int .i64 hi, .sl (set.map Val.cells), .str text, .sl (kids.map Prd.cells)]), (3, .rptr [.sl (r.map Cell.cells)]), (5, .int .i64 (cntI 1 (kids.map (evalS r)))), (6, .int .i64 (cntI 0 (kids.map (evalS r)))), (7, .int .i64 kids.length), (13, .bool false)], []) = Z) :
      (Run prog 0 (.loop 0 [2, 3, 5, 6, 7] f_R08_Eval_l0) [(2, .rptr [.int .i64 op, .int .i64 id, .int .i64 lo, .int .i64 hi, .sl (set.map Val.cells), .str text, .sl (kids.map Prd.cells)]), (3, .rptr [.sl (r.map Cell.cells)]), (5, .int .i64 0), (6, .int .i64 0), (7, .int .i64 0)] []).bind K = Z := by
  have key := range_ind kids (by omega) (fun i (a : Int × Int) => (Run prog 0 (.loop 0 [2, 3, 5, 6, 7] f_R08_Eval_l0) [(2, .rptr [.int .i64 op, .int .i64 id, .int .i64 lo, .int .i64 hi, .sl (set.map Val.cells), .str text, .sl (kids.map Prd.cells)]), (3, .rptr [.sl (r.map Cell.cells)]), (5, .int .i64 a.1), (6, .int .i64 a.2), (7, .int .i64 i)] []).bind K = Z)
    (fun i rest a => a.1 + cntI 1 (rest.map (evalS r)) = cntI 1 (kids.map (evalS r)) ∧ a.2 + cntI 0 (rest.map (evalS r)) = cntI 0 (kids.map (evalS r)) ∧ 0 ≤ a.1 ∧ 0 ≤ a.2 ∧ a.1 ≤ i ∧ a.2 ≤ i) ?_ ?_ (0, 0) ⟨by simp, by simp, by simp, by simp, by simp, by simp⟩
  · exact key
  · intro a ⟨h1, h2, _⟩
    simp only [List.map_nil, cntI, Int.add_zero] at h1 h2
    rw [← h1, ← h2] at h
    rw [Run_loop]
    simp only [f_R08_Eval_l0_eq, f_R08_Eval_l0u, h, go_sem]
  · intro i pre rest x a hp _ hi0 hi1 hx hcc hw ⟨h1, h2, a1, a2, a3, a4⟩ ih
    obtain ⟨yes, no⟩ := a
    simp only [] at a1 a2 a3 a4 h1 h2
    have hcx := hc x (by rw [hp]; simp)
    rw [List.map_cons, cntI] at h1 h2
    have w1 : IntKind.wrap .i64 (yes + 1) = yes + 1 := wrap_i64 (by clear hw hx hcc ih h hp hcx h1 h2 hc; omega) (by clear hw hx hcc ih h hp hcx h1 h2 hc; omega)
    have w2 : IntKind.wrap .i64 (no + 1) = no + 1 := wrap_i64 (by clear hw hx hcc ih h hp hcx h1 h2 hc w1; omega) (by clear hw hx hcc ih h hp hcx h1 h2 hc w1; omega)
    generalize evalS r x = e at *
    clear hc hp h
    rw [Run_loop]
    obtain ⟨x1, x2, x3, x4, x5, x6, x7⟩ := x
    simp only [go_sem] at hcx
    cases d1 : decide (e = 1) with
    | true =>
      have d0 : decide (e = 0) = false := by simp at d1 ⊢; omega
      rw [d1, cond_true] at h1
      rw [d0, cond_false] at h2
      have ih := ih (yes + 1, no) ⟨by simp only []; clear hw hx hcc hcx w1 w2; omega, h2, by simp only []; clear hw hx hcc hcx w1 w2; omega, a2, by simp only []; clear hw hx hcc hcx w1 w2; omega, by simp only []; clear hw hx hcc hcx w1 w2; omega⟩
      simp only [f_R08_Eval_l0_eq, f_R08_Eval_l0u, hx, hcc, hw, hcx, d1, w1, ih, go_sem]
    | false =>
      rw [d1, cond_false] at h1
      cases d0 : decide (e = 0) with
      | true =>
        rw [d0, cond_true] at h2
        have ih := ih (yes, no + 1) ⟨h1, by simp only []; clear hw hx hcc hcx w1 w2; omega, a1, by simp only []; clear hw hx hcc hcx w1 w2; omega, by simp only []; clear hw hx hcc hcx w1 w2; omega, by simp only []; clear hw hx hcc hcx w1 w2; omega⟩
        simp only [f_R08_Eval_l0_eq, f_R08_Eval_l0u, hx, hcc, hw, hcx, d1, d0, w2, ih, go_sem]
      | false =>
        rw [d0, cond_false] at h2
        have ih := ih (yes, no) ⟨h1, h2, a1, a2, by simp only []; clear hw hx hcc hcx w1 w2; omega, by simp only []; clear hw hx hcc hcx w1 w2; omega⟩
        simp only [f_R08_Eval_l0_eq, f_R08_Eval_l0u, hx, hcc, hw, hcx, d1, d0, ih, go_sem]
theorem R08_Eval (r : List Cell) (hr : r.length < 1000000000000) : ∀ (p : Prd), POK p → Den prog 80 [.agg p.cells, .agg [.sl (r.map Cell.cells)]] [] = some (.int .i64 (evalS r p), [])
  | .mk op id lo hi set text kids, h => by
    cases h with
    | mk _ _ _ _ _ _ _ hs hk hkk _ _ =>
    have hl := R08_Eval_l0 op id lo hi set text kids hk r (fun k hm => R08_Eval r hr k (hkk k hm))
    have c1 := cntI_le 1 (kids.map (evalS r))
    have c2 := cntI_le 0 (kids.map (evalS r))
    have c3 := cntI_two (kids.map (evalS r))
    rw [List.length_map] at c3
    have := R08_Eval_fin op id lo hi set text kids hk hs r hr (fun _ _ _ _ _ _ _ _ _ => trivial) _ _ c1.1 c2.1 c3 hl
    rw [Prd.cells_mk, evalS, List.length_map]
    exact this
termination_by p => SizeOf.sizeOf p
decreasing_by
  have := List.sizeOf_lt_of_mem hm
  simp
  omega
def matchP (p : Prd) (r : List Cell) : Bool := decide (evalS r p = 1)
theorem R08_Match (r : List Cell) (hr : r.length < 1000000000000) (p : Prd) (h : POK p) : Den prog 83 [.agg p.cells, .agg [.sl (r.map Cell.cells)]] [] = some (.bool (matchP p r), []) := by
  have he := R08_Eval r hr p h
  rw [Den_ofK [] pr_R08_Match rfl]
  unfold matchP
  generalize evalS r p = e at *
  obtain ⟨x1, x2, x3, x4, x5, x6, x7⟩ := p
  simp only [go_sem] at he
  simp only [f_R08_Match, he, go_sem]
end Go.Den
