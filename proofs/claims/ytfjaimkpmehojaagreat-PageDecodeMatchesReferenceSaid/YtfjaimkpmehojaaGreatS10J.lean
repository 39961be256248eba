/- Ch. 10: the reference's encoders. -/
import Derived.Test.YtfjaimkpmehojaaGreatS10H
import Derived.Test.YtfjaimkpmehojaaGreatS10I
import Derived.Test.YtfjaimkpmehojaaGreatS10N
namespace Go.Den
open Go
set_option linter.unusedSimpArgs false
set_option linter.unusedVariables false
set_option maxRecDepth 100000
set_option maxHeartbeats 1000000
theorem R10_numbers (t k : Int) : Den prog 546 [.int .i64 t, .int .i64 k] [] = some (.bool (typeOk t && !(decide (k = 3) && decide (t = 4))), []) := by
  rw [Den_ofK [] pr_R10_numbers rfl]
  cases d1 : typeOk t <;> cases d2 : decide (k = 3) <;> cases d3 : decide (t = 4) <;>
  simp only [f_R10_numbers, d1, d2, d3, Bool.and_self, Bool.and_true, Bool.and_false, Bool.true_and, Bool.false_and, go_sem]
theorem maskB_add (l : List Bool) (i : Nat) (h : l[i]? = some false) : ∃ c d : UInt8, (maskB l)[i / 8]? = some c ∧ d.toNat = c.toNat + 2 ^ (i % 8) ∧ maskB (l.set i true) = (maskB l).set (i / 8) d := by
  obtain ⟨c, d, q1, q2, q3⟩ := maskB_set l i h
  obtain ⟨c', r1, r2⟩ := maskB_bit l i false h
  rw [q1] at r1
  cases r1
  have e := bit_or_all ⟨c.toNat, c.toNat_lt⟩ ⟨i % 8, by omega⟩ r2
  refine ⟨c, d, q1, ?_, q3⟩
  have e1 := e.1
  simp only [] at e1
  rw [q2] at e1
  exact Int.ofNat.inj e1
theorem pow8 (j : Nat) (h : j < 8) : (j = 7 ∧ IntKind.wrap .u8 (((2 ^ j : Nat) : Int) * 2) = 0) ∨ (j < 7 ∧ IntKind.wrap .u8 (((2 ^ j : Nat) : Int) * 2) = ((2 ^ (j + 1) : Nat) : Int) ∧ decide (((2 ^ (j + 1) : Nat) : Int) = 0) = false) := by
  have : j = 0 ∨ j = 1 ∨ j = 2 ∨ j = 3 ∨ j = 4 ∨ j = 5 ∨ j = 6 ∨ j = 7 := by omega
  rcases this with rfl | rfl | rfl | rfl | rfl | rfl | rfl | rfl
  all_goals first | exact .inl ⟨rfl, rfl⟩ | exact .inr ⟨by decide, rfl, rfl⟩
theorem R10_Mask (l : List Val) (hl : l.length < 100000) : Den prog 545 [.sl (l.map Val.cells)] [] = some (.sl ((maskOf l).map bcell), []) := by
  rw [Den_ofK [] pr_R10_Mask rfl]
  obtain ⟨m, hm⟩ : ∃ m, m = (l.length + 7) / 8 := ⟨_, rfl⟩
  have w1 : IntKind.wrap .i64 ((l.length : Int) + 7) = (l.length : Int) + 7 := wrap_i64 (by omega) (by omega)
  have w2 : IntKind.wrap .i64 (((l.length : Int) + 7).tdiv 8) = (m : Int) := by
    have : ((l.length : Int) + 7).tdiv 8 = (((l.length + 7) / 8 : Nat) : Int) := rfl
    rw [this, ← hm, wrap_i64 (by omega) (by omega)]
  have hb : (m : Int) * 1 ≤ 140737488355328 := by omega
  simp only [f_R10_Mask, w1, w2, z8, hb, go_sem]
  have hM0 : List.replicate m [AV.int .u8 0] = (maskB (l.map fun _ => false)).map bcell := by
    rw [show (l.map fun _ => false) = List.replicate l.length false from List.map_const' .., maskB_false _ _ (Nat.le_refl _), ← hm, List.map_replicate]; rfl
  have hml : (maskB (l.map fun _ => false)).length = m := by rw [maskB_len _ _ (Nat.le_refl _), List.length_map, hm]
  rw [hM0]
  refine range_ind l (by omega) (fun i (a : List UInt8 × Nat) => (Run prog 0 (.loop 1 [0, 3, 4, 5] f_R10_Mask_l0) [(0, .sl (l.map Val.cells)), (3, .osl 0 0 m 0 m), (4, .int .u8 ((2 ^ a.2 : Nat) : Int)), (5, .int .i64 i)] [.arr 0 1 (a.1.map bcell)]).bind _ = some (AV.sl ((maskOf l).map bcell), []))
    (fun i rest a => ∃ pre, l = pre ++ rest ∧ i = pre.length ∧ a.1 = maskB (pre.map (·.null) ++ rest.map fun _ => false) ∧ a.2 = pre.length % 8) ?_ ?_ (_, 0) ⟨[], rfl, rfl, rfl, rfl⟩
  · intro ⟨M, j⟩ ⟨pre, h1, h2, h3, h4⟩
    have e : M = maskOf l := by
      rw [List.append_nil] at h1
      subst h1
      simp only [] at h3
      rw [h3]; simp [maskOf]
    have hMl : M.length = m := by rw [e, maskOf_len, hm]
    subst e
    clear h1 h2 h3 h4
    simp only []
    rw [Run_loop]
    simp only [f_R10_Mask_l0_eq, f_R10_Mask_l0u, hMl, go_sem]
  · intro i pre0 rest x ⟨M, j⟩ _ _ hi0 hi1 hx hc hw ⟨pre, h1, h2, h3, h4⟩ ih
    simp only [] at h3 h4 ⊢
    have hMl : M.length = m := by
      have := congrArg List.length h1
      simp only [List.length_append, List.length_cons] at this
      rw [h3, maskB_len _ _ (Nat.le_refl _), hm]; simp; omega
    have hml2 : (M.map bcell).length = m := by rw [List.length_map, hMl]
    obtain ⟨nu, n, s⟩ := x
    rw [Run_loop]
    have hp8 := pow8 j (by omega)
    cases nu with
    | false =>
      have ih := fun j' hj' => ih (M, j') ⟨pre ++ [⟨false, n, s⟩], by simp [h1], by simp; omega, by simp only []; rw [h3]; simp, hj'⟩
      simp only [List.length_append, List.length_cons, List.length_nil, Nat.zero_add] at ih
      rcases hp8 with ⟨g1, g2⟩ | ⟨g1, g2, g3⟩
      · have ih := ih 0 (by omega)
        clear h1 h2 h3 h4
        generalize 2 ^ j = P at *
        have e0 : decide ((0 : Int) = 0) = true := rfl
        simp only [Nat.pow_zero, Int.natCast_one] at ih
        simp only [f_R10_Mask_l0_eq, f_R10_Mask_l0u, hx, hc, hw, g2, e0, ih, Val.cells, go_sem]
      · have ih := ih (j + 1) (by omega)
        clear h1 h2 h3 h4
        generalize 2 ^ (j + 1) = P' at *
        generalize 2 ^ j = P at *
        simp only [f_R10_Mask_l0_eq, f_R10_Mask_l0u, hx, hc, hw, g2, g3, ih, Val.cells, go_sem]
    | true =>
      have hl0 : (pre.map (·.null) ++ ((⟨true, n, s⟩ : Val) :: rest).map fun _ => false)[pre.length]? = some false := by
        rw [List.getElem?_append_right (by simp)]; simp
      obtain ⟨c, d, q1, q2, q3⟩ := maskB_add _ pre.length hl0
      have hk : ((pre.length / 8 : Nat) : Int) < (m : Int) := by omega
      have ih := fun j' hj' => ih (M.set (pre.length / 8) d, j') ⟨pre ++ [⟨true, n, s⟩], by simp [h1], by simp; omega, by
        simp only []
        rw [h3, ← q3]
        congr 1
        rw [List.set_append_right _ _ (by simp)]
        simp, hj'⟩
      simp only [List.length_append, List.length_cons, List.length_nil, Nat.zero_add] at ih
      rw [← h3] at q1
      have wq : IntKind.wrap .i64 ((pre.length : Int).tdiv 8) = ((pre.length / 8 : Nat) : Int) := by
        rw [quo8, wrap_i64 (by omega) (by omega)]
      have wd : IntKind.wrap .u8 ((c.toNat : Int) + ((2 ^ j : Nat) : Int)) = (d.toNat : Int) := by
        have := d.toNat_lt
        rw [← h4] at q2
        rw [wrap_u8 (by omega) (by omega)]; omega
      have hget : (M.map bcell)[pre.length / 8]? = some [.int .u8 c.toNat] := by rw [List.getElem?_map, q1]; rfl
      have hset : (M.map bcell).set (pre.length / 8) [.int .u8 d.toNat] = (M.set (pre.length / 8) d).map bcell := by rw [List.map_set]; rfl
      subst h2
      rcases hp8 with ⟨g1, g2⟩ | ⟨g1, g2, g3⟩
      · have ih := ih 0 (by omega)
        clear h1 h3 hl0 q3 h4 q2
        generalize pre.length / 8 = k at *
        generalize 2 ^ j = P at *
        have e0 : decide ((0 : Int) = 0) = true := rfl
        generalize (M.set k d).map bcell = R2 at *
        generalize M.map bcell = R at *
        simp only [Nat.pow_zero, Int.natCast_one] at ih
        simp only [f_R10_Mask_l0_eq, f_R10_Mask_l0u, hx, hc, hw, g2, e0, wq, wd, z8, hget, hset, hml2, hk, ih, Val.cells, go_sem]
      · have ih := ih (j + 1) (by omega)
        clear h1 h3 hl0 q3 h4 q2
        generalize pre.length / 8 = k at *
        generalize 2 ^ (j + 1) = P' at *
        generalize 2 ^ j = P at *
        generalize (M.set k d).map bcell = R2 at *
        generalize M.map bcell = R at *
        simp only [f_R10_Mask_l0_eq, f_R10_Mask_l0u, hx, hc, hw, g2, g3, wq, wd, z8, hget, hset, hml2, hk, ih, Val.cells, go_sem]
theorem R10_dict_l1 (l D : List Val) (O0 : List UInt8) (hl : l.length ≤ 1024) (hD : SInc D) (hDl : D.length ≤ 1024) (hs : ∀ x ∈ D, x.s.size < 1000000000000000) (hO : O0.length < 10000000) {K : Ex × Env × St → Option (AV × St)} {Z : Option (AV × St)}
    (hK : K (.exit 2, [(0, .sl (l.map Val.cells)), (5, .sl (D.map Val.cells)), (6, .sl ((O0 ++ l.flatMap fun v => leb (idxD D v)).map bcell)), (8, .int .i64 l.length), (32, .bool false)], [.dead]) = Z) :
    (Run prog 0 (.loop 1 [0, 5, 6, 8] f_R10_dict_l1) [(0, .sl (l.map Val.cells)), (5, .sl (D.map Val.cells)), (6, .sl (O0.map bcell)), (8, .int .i64 0)] [.dead]).bind K = Z := by
  refine range_ind l (by omega) (fun i (O : List UInt8) => (Run prog 0 (.loop 1 [0, 5, 6, 8] f_R10_dict_l1) [(0, .sl (l.map Val.cells)), (5, .sl (D.map Val.cells)), (6, .sl (O.map bcell)), (8, .int .i64 i)] [.dead]).bind K = Z)
    (fun i rest O => ∃ pre, l = pre ++ rest ∧ i = pre.length ∧ O = O0 ++ pre.flatMap fun v => leb (idxD D v)) ?_ ?_ O0 ⟨[], rfl, rfl, by simp⟩
  · intro O ⟨pre, h1, h2, h3⟩
    rw [List.append_nil] at h1
    subst h1
    rw [← h3] at hK
    clear h3
    rw [Run_loop]
    simp only [f_R10_dict_l1_eq, f_R10_dict_l1u, hK, go_sem]
  · intro i pre0 rest x O _ _ hi0 hi1 hx hcx hw ⟨pre, h1, h2, h3⟩ ih
    have hpl : pre.length ≤ 1024 := by
      have := congrArg List.length h1
      simp only [List.length_append] at this; omega
    have hfl := flatX_len D (by omega) pre
    have hO2 : O.length < 100000000 := by rw [h3, List.length_append]; omega
    obtain ⟨nu, m, s⟩ := x
    have hix := idxD_le D ⟨nu, m, s⟩
    have hu := R01_U2 O (idxD D ⟨nu, m, s⟩) (by omega) (by omega)
    have ih := ih (O ++ leb (idxD D ⟨nu, m, s⟩)) ⟨pre ++ [⟨nu, m, s⟩], by simp [h1], by simp; omega, by rw [h3]; simp⟩
    clear h1 h2 h3 hfl
    have hb := R10_place D ⟨nu, m, s⟩ hD.le (by omega) hs
    rw [Run_loop]
    cases nu with
    | true =>
      have e : idxD D ⟨true, m, s⟩ = 0 := rfl
      rw [e] at hu ih
      generalize O ++ leb 0 = O2 at *
      have w0 : IntKind.wrap .u64 0 = 0 := rfl
      simp only [go_sem] at hu
      simp only [f_R10_dict_l1_eq, f_R10_dict_l1u, hx, hcx, hw, hu, ih, w0, Val.cells, go_sem]
    | false =>
      have e : idxD D ⟨false, m, s⟩ = rankV D ⟨false, m, s⟩ + 1 := rfl
      rw [e] at hu ih hix
      generalize rankV D ⟨false, m, s⟩ = r at *
      generalize O ++ leb (r + 1) = O2 at *
      have w1 : IntKind.wrap .i64 (1 + (r : Int)) = (r : Int) + 1 := by rw [wrap_i64 (by omega) (by omega)]; omega
      have w2 : IntKind.wrap .u64 ((r : Int) + 1) = (r : Int) + 1 := wrap_u64 (by omega) (by omega)
      simp only [go_sem] at hu
      simp only [f_R10_dict_l1_eq, f_R10_dict_l1u, hx, hcx, hw, hu, hb, ih, w1, w2, Val.cells, go_sem]
theorem R10_dict_l0 (l D : List Val) (t : Int) (O0 : List UInt8) (hc : Col D t) (hn : D.length ≤ 1024) (hO : O0.length < 1000000) {K : Ex × Env × St → Option (AV × St)} {Z : Option (AV × St)}
    (hK : K (.exit 0, [(0, .sl (l.map Val.cells)), (1, .int .i64 t), (5, .sl (D.map Val.cells)), (6, .sl ((O0 ++ D.flatMap (bareB · t)).map bcell)), (7, .int .i64 D.length), (19, .bool false)], [.dead]) = Z) :
    (Run prog 0 (.loop 1 [0, 1, 5, 6, 7] f_R10_dict_l0) [(0, .sl (l.map Val.cells)), (1, .int .i64 t), (5, .sl (D.map Val.cells)), (6, .sl (O0.map bcell)), (7, .int .i64 0)] [.dead]).bind K = Z := by
  refine range_ind D (by omega) (fun i (O : List UInt8) => (Run prog 0 (.loop 1 [0, 1, 5, 6, 7] f_R10_dict_l0) [(0, .sl (l.map Val.cells)), (1, .int .i64 t), (5, .sl (D.map Val.cells)), (6, .sl (O.map bcell)), (7, .int .i64 i)] [.dead]).bind K = Z)
    (fun i rest O => ∃ pre, D = pre ++ rest ∧ i = pre.length ∧ O = O0 ++ pre.flatMap (bareB · t)) ?_ ?_ O0 ⟨[], rfl, rfl, by simp⟩
  · intro O ⟨pre, h1, h2, h3⟩
    rw [List.append_nil] at h1
    subst h1
    rw [← h3] at hK
    clear h3
    rw [Run_loop]
    simp only [f_R10_dict_l0_eq, f_R10_dict_l0u, hK, go_sem]
  · intro i pre0 rest x O _ _ hi0 hi1 hx hcx hw ⟨pre, h1, h2, h3⟩ ih
    have hcp : Col pre t := (h1 ▸ hc : Col (pre ++ x :: rest) t).left
    have hcv := (h1 ▸ hc : Col (pre ++ x :: rest) t).right x (List.mem_cons_self ..)
    have hpl : pre.length ≤ 1024 := by
      have := congrArg List.length h1
      simp only [List.length_append] at this; omega
    have hfl := flatB_len t hcp
    have hO2 : O.length < 100000000 := by rw [h3, List.length_append]; omega
    have hsz := okV_size hcv.1
    obtain ⟨nu, m, s⟩ := x
    have hb := R10_Bare O nu m s t (by omega) (by simp only [] at hsz; omega) hcv.2
    have ih := ih (O ++ bareB ⟨nu, m, s⟩ t) ⟨pre ++ [⟨nu, m, s⟩], by simp [h1], by simp; omega, by rw [h3]; simp⟩
    clear h1 h2 h3 hfl
    generalize O ++ bareB ⟨nu, m, s⟩ t = O2 at *
    rw [Run_loop]
    simp only [f_R10_dict_l0_eq, f_R10_dict_l0u, hx, hcx, hw, hb, ih, Val.cells, go_sem]
theorem R10_dict (l : List Val) (t : Int) (hl : l.length ≤ 1024) (hc : Col l t) : Den prog 543 [.sl (l.map Val.cells), .int .i64 t] [] = some (.sl ((dictP l t).map bcell), []) := by
  rw [Den_ofK [] pr_R10_dict rfl]
  have hsz : ∀ x ∈ l, x.s.size < 1000000000000000 := fun x hx => by have := okV_size (hc x hx).1; omega
  have hDi := R10_Distinct l (by omega) hsz
  have hdl := distV_len l
  have hsd : ∀ x ∈ distV l, x.s.size < 1000000000000000 := fun x hx => hsz x ((distV_mem l x).1 hx).1
  have hu := R01_U2 [] (distV l).length (by omega) (by simp)
  rw [List.map_nil, List.nil_append] at hu
  have hlb := leb_len10 (show (distV l).length < 18446744073709551616 by omega)
  have hcd : Col (distV l) t := fun v hv => hc v ((distV_mem l v).1 hv).1
  have k0 := fun K Z => R10_dict_l0 l (distV l) t (leb (distV l).length) hcd (by omega) (by omega) (K := K) (Z := Z)
  have hf := flatB_len t hcd
  have k1 := fun K Z => R10_dict_l1 l (distV l) (leb (distV l).length ++ (distV l).flatMap (bareB · t)) hl (distV_inc l) (by omega) hsd (by rw [List.length_append]; omega) (K := K) (Z := Z)
  have eP : (leb (distV l).length ++ (distV l).flatMap (bareB · t)) ++ (l.flatMap fun v => leb (idxD (distV l) v)) = dictP l t := by rw [List.append_assoc]; rfl
  rw [eP] at k1
  have w1 : IntKind.wrap .u64 ((distV l).length : Int) = ((distV l).length : Int) := wrap_u64 (by omega) (by omega)
  clear eP hcd hf
  generalize leb (distV l).length ++ (distV l).flatMap (bareB · t) = O1 at *
  generalize leb (distV l).length = O0 at *
  generalize distV l = D at *
  simp only [f_R10_dict, hDi, hu, w1, go_sem]
  refine k0 _ _ ?_
  simp only [go_sem]
  refine k1 _ _ ?_
  simp only [go_sem]
theorem cntA_pre (v : Val) : ∀ (p : List Val) (r : List Val), (∀ x ∈ p, x = v) → cntA v (p ++ r) = p.length + cntA v r
  | [], r, _ => by simp
  | y :: p, r, h => by
    have hy : y = v := h y (List.mem_cons_self ..)
    rw [List.cons_append, cntA_cons, if_pos hy, cntA_pre v p r fun x hx => h x (List.mem_cons_of_mem _ hx), List.length_cons]; omega
theorem R10_runs_l1 (v : Val) (t : Int) (O : AV) (l : List Val) (i : Nat) (hO : O.noref = true) (hiv : l[i]? = some v) (hl : l.length ≤ 1024) (hs : ∀ x ∈ l, x.s.size < 1000000000000000) {K : Ex × Env × St → Option (AV × St)} {Z : Option (AV × St)} (c : Nat) (hc : c = i + cntA v (l.drop i))
    (hK : K (.exit 2, [(0, .sl (l.map Val.cells)), (1, .int .i64 t), (5, O), (6, .int .i64 i), (7, .int .i64 c), (28, .bool false)], []) = Z) :
    ∀ (rest p : List Val), l.drop i = p ++ rest → (∀ x ∈ p, x = v) → (Run prog 0 (.loop 0 [0, 1, 5, 6, 7] f_R10_runs_l1) [(0, .sl (l.map Val.cells)), (1, .int .i64 t), (5, O), (6, .int .i64 i), (7, .int .i64 ((i + p.length : Nat) : Int))] []).bind K = Z
  | [], p, h1, h2 => by
    have hlen := congrArg List.length h1
    simp only [List.length_drop, List.append_nil] at hlen
    have hil : i < l.length := (List.getElem?_eq_some_iff.1 hiv).1
    have e : c = i + p.length := by rw [hc, h1, cntA_pre v p [] h2]; rfl
    subst e
    have d : decide (((i + p.length : Nat) : Int) < (l.length : Int)) = false := by simp; omega
    generalize i + p.length = k at *
    rw [Run_loop]
    simp only [f_R10_runs_l1_eq, f_R10_runs_l1u, d, hO, hK, go_sem]
  | y :: rest, p, h1, h2 => by
    have hlen := congrArg List.length h1
    simp only [List.length_drop, List.length_append, List.length_cons] at hlen
    have hky : l[i + p.length]? = some y := by
      rw [← List.getElem?_drop, h1]; simp
    have d : decide (((i + p.length : Nat) : Int) < (l.length : Int)) = true := by simp; omega
    have hgy : getE l ((i + p.length : Nat) : Int) = some y := by rw [getE_nat]; exact hky
    have hgi : getE l (i : Int) = some v := by rw [getE_nat]; exact hiv
    have hS := R05_SameV y.null y.n y.s v.null v.n v.s (hs y (List.mem_of_getElem? hky))
    have w1 : IntKind.wrap .i64 (((i + p.length : Nat) : Int) + 1) = ((i + p.length + 1 : Nat) : Int) := by rw [wrap_i64 (by omega) (by omega)]; simp
    by_cases e : y = v
    · rw [decide_eq_true (show (⟨y.null, y.n, y.s⟩ : Val) = ⟨v.null, v.n, v.s⟩ from e)] at hS
      have ih := R10_runs_l1 v t O l i hO hiv hl hs c hc hK rest (p ++ [y]) (by rw [h1]; simp) (by
        intro x hx
        rcases List.mem_append.1 hx with h | h
        · exact h2 x h
        · simp at h; rw [h, e])
      rw [List.length_append, List.length_singleton, ← Nat.add_assoc] at ih
      clear hK h1 h2 hc hlen hky
      generalize i + p.length + 1 = k1 at *
      generalize i + p.length = k at *
      rw [Run_loop]
      simp only [f_R10_runs_l1_eq, f_R10_runs_l1u, d, hgy, hgi, hS, w1, hO, ih, Val.cells, go_sem]
    · rw [decide_eq_false (show ¬ (⟨y.null, y.n, y.s⟩ : Val) = ⟨v.null, v.n, v.s⟩ from e)] at hS
      have ec : c = i + p.length := by rw [hc, h1, cntA_pre v p _ h2, cntA_cons, if_neg e]; rfl
      rw [ec] at hK
      clear h1 h2 hc hlen hky ec
      generalize i + p.length = k at *
      rw [Run_loop]
      simp only [f_R10_runs_l1_eq, f_R10_runs_l1u, d, hgy, hgi, hS, hO, hK, Val.cells, go_sem]
theorem R10_runs (l : List Val) (t : Int) (hl : l.length ≤ 1024) (hc : Col l t) : Den prog 544 [.sl (l.map Val.cells), .int .i64 t] [] = some (.sl ((runsP l t).map bcell), []) := by
  rw [Den_ofK [] pr_R10_runs rfl]
  have hsz : ∀ x ∈ l, x.s.size < 1000000000000000 := fun x hx => by have := okV_size (hc x hx).1; omega
  simp only [f_R10_runs, go_sem]
  have key : ∀ (f i : Nat) (O : List UInt8), l.length ≤ i + f → O.length + 300 * (l.length - i) ≤ 1000000 → i ≤ l.length → ∀ (K : Ex × Env × St → Option (AV × St)) (Z : Option (AV × St)),
      K (.exit 0, [(0, .sl (l.map Val.cells)), (1, .int .i64 t), (5, .sl ((O ++ runsP (l.drop i) t).map bcell)), (6, .int .i64 l.length), (12, .bool false)], []) = Z →
      (Run prog 0 (.loop 0 [0, 1, 5, 6] f_R10_runs_l0) [(0, .sl (l.map Val.cells)), (1, .int .i64 t), (5, .sl (O.map bcell)), (6, .int .i64 i)] []).bind K = Z := by
    intro f
    induction f with
    | zero =>
      intro i O h1 _ h3 K Z hK
      have e : i = l.length := by omega
      subst e
      have d : decide ((l.length : Int) < (l.length : Int)) = false := by simp
      rw [List.drop_length, show runsP [] t = [] from rfl, List.append_nil] at hK
      rw [Run_loop]
      simp only [f_R10_runs_l0_eq, f_R10_runs_l0u, d, hK, go_sem]
    | succ f ih =>
      intro i O h1 h2 h3 K Z hK
      by_cases hi : i = l.length
      · subst hi
        have d : decide ((l.length : Int) < (l.length : Int)) = false := by simp
        rw [List.drop_length, show runsP [] t = [] from rfl, List.append_nil] at hK
        clear ih
        rw [Run_loop]
        simp only [f_R10_runs_l0_eq, f_R10_runs_l0u, d, hK, go_sem]
      · obtain ⟨v, hv⟩ : ∃ v, l[i]? = some v := ⟨_, List.getElem?_eq_getElem (by omega)⟩
        have hdr : l.drop i = v :: l.drop (i + 1) := by
          have q : i < l.length := by omega
          have := List.getElem?_eq_getElem q
          rw [hv] at this
          rw [List.drop_eq_getElem_cons q, ← Option.some.inj this]
        have hcn : cntA v (l.drop i) = cntA v (l.drop (i + 1)) + 1 := by rw [hdr, cntA_cons, if_pos rfl]
        have hcl := cntA_le v (l.drop i)
        rw [List.length_drop] at hcl
        have hcv := hc v (List.mem_of_getElem? hv)
        have hel := encV_len2 hcv.1 hcv.2
        obtain ⟨c, hcc⟩ : ∃ c, cntA v (l.drop i) = c := ⟨_, rfl⟩
        have hlb := leb_len10 (show c < 18446744073709551616 by omega)
        have hu := R01_U2 O c (by omega) (by omega)
        have hvs := okV_size hcv.1
        have he := R05_Encode (O ++ leb c) v.null v.n v.s t (by rw [List.length_append]; omega) (by omega) hcv.2
        have ec : (O ++ leb c) ++ encV ⟨v.null, v.n, v.s⟩ t = O ++ runB t (c, v) := by rw [List.append_assoc]; rfl
        rw [ec] at he
        have hrl : O ++ runB t (c, v) ++ runsP (l.drop (i + c)) t = O ++ runsP (l.drop i) t := by
          rw [hdr, show i + c = i + 1 + cntA v (l.drop (i + 1)) by omega, ← List.drop_drop]
          unfold runsP
          rw [runs_cons, List.flatMap_cons, List.append_assoc, show cntA v (l.drop (i + 1)) + 1 = c by omega]
        have hrb : (runB t (c, v)).length ≤ 221 := by
          show (leb c ++ encV v t).length ≤ 221
          rw [List.length_append]; omega
        have ih := ih (i + c) (O ++ runB t (c, v)) (by omega) (by rw [List.length_append]; omega) (by omega) K Z (by rw [hrl]; exact hK)
        have hl1 := fun K Z hK => R10_runs_l1 v t (.sl (O.map bcell)) l i rfl hv hl hsz (K := K) (Z := Z) (i + c) (by rw [hcc]) hK (l.drop i) [] rfl (by simp)
        have d : decide ((i : Int) < (l.length : Int)) = true := by simp; omega
        have w0 : IntKind.wrap .i64 (((i + c : Nat) : Int) - (i : Int)) = (c : Int) := by rw [wrap_i64 (by omega) (by omega)]; omega
        have w1 : IntKind.wrap .u64 (c : Int) = (c : Int) := wrap_u64 (by omega) (by omega)
        have hgi : getE l (i : Int) = some v := by rw [getE_nat]; exact hv
        simp only [List.length_nil, Nat.add_zero] at hl1
        clear hK hrl ec hlb hel hrb hdr hcn hcl h1 h2 h3
        generalize O ++ runB t (c, v) = O2 at *
        generalize O ++ leb c = O1 at *
        generalize i + c = k at *
        rw [Run_loop]
        simp only [f_R10_runs_l0_eq, f_R10_runs_l0u, d, go_sem]
        refine hl1 _ _ ?_
        simp only [w0, w1, hu, he, hgi, ih, Val.cells, go_sem]
  refine key l.length 0 [] (by omega) (by simp; omega) (by omega) _ _ ?_
  simp only [List.drop_zero, List.nil_append, go_sem]
end Go.Den
