/- Ch. 10: the reference's parsers. -/
import Derived.Test.YtfjaimkpmehojaaGreatS10Z
import Derived.Test.YtfjaimkpmehojaaGreatS10J
namespace Go.Den
open Go
set_option linter.unusedSimpArgs false
set_option linter.unusedVariables false
set_option maxRecDepth 100000
set_option maxHeartbeats 1000000
theorem R10_read (b : List UInt8) (a t : Int) (hb : b.length < 10000000000) : Den prog 550 [.sl (b.map bcell), .int .i64 a, .int .i64 t] [] = some (.tup [.agg (readB b a t).1.cells, .int .i64 (readB b a t).2.1, .int .i64 (readB b a t).2.2], []) := by
  rw [Den_ofK [] pr_R10_read rfl]
  unfold readB
  cases d4 : decide (t = 4) with
  | true =>
    have h := R01_ReadText b a (by omega)
    simp only [cond_true]
    generalize rT b a = r at *
    simp only [f_R10_read, d4, h, Val.cells, ba, go_sem]
  | false =>
    have h := R01_ReadS b a (by omega)
    simp only [cond_false]
    generalize rS b a = r at *
    simp only [f_R10_read, d4, h, Val.cells, go_sem]
theorem R10_dict_p0 (kd rw_ : Int) (b : List UInt8) (t : Int) (n : Nat) (a0 : Int) (hbl : b.length < 1000000000) (hn : n ≤ 1024) {K : Ex × Env × St → Option (AV × St)} {Z : Option (AV × St)}
    (hS : ∀ L a', getV b t n a0 = some (L, a') → L.length = n → K (.exit 0, [(1, .int .i64 t), (2, .rptr [.int .i64 kd, .int .i64 rw_, .sl (b.map bcell)]), (6, .int .u64 n), (7, .int .i64 a'), (9, .osl 0 0 (n + 1) 0 (n + 1)), (10, .osl 1 0 0 0 0), (11, .int .u64 n), (40, .bool false)], [.arr 0 3 ((nullV :: L).map Val.cells), .arr 0 3 []]) = Z)
    (hN : getV b t n a0 = none → ∀ τ, K (.ret, [(4, .nils), (5, .bool false)], τ) = Z) :
    ∀ (k : Nat) (done : List Val) (a : Int) (m : Nat), m = done.length + 1 → done.length + k = n → getV b t n a0 = (getV b t k a).map (fun q => (done ++ q.1, q.2)) →
    (Run prog 0 (.loop 2 [1, 2, 6, 7, 9, 10, 11] f_R10_parseDict_l0) [(1, .int .i64 t), (2, .rptr [.int .i64 kd, .int .i64 rw_, .sl (b.map bcell)]), (6, .int .u64 n), (7, .int .i64 a), (9, .osl 0 0 m 0 m), (10, .osl 1 0 0 0 0), (11, .int .u64 done.length)] [.arr 0 3 ((nullV :: done).map Val.cells), .arr 0 3 []]).bind K = Z := by
  intro k
  induction k with
  | zero =>
    intro done a m hm h1 h2
    have hS := hS done a (by rw [h2]; simp [getV]) (by omega)
    have e : done.length = n := by omega
    have d : decide ((n : Int) < (n : Int)) = false := by simp
    have em : n + 1 = m := by omega
    rw [em] at hS
    rw [e]
    clear h1 h2 hN
    rw [Run_loop]
    generalize (nullV :: done).map Val.cells = E at *
    simp only [f_R10_parseDict_l0_eq, f_R10_parseDict_l0u, d, hS, go_sem]
  | succ k ih =>
    intro done a m hm h1 h2
    rw [getV] at h2
    have d : decide ((done.length : Int) < (n : Int)) = true := by simp; omega
    have w1 : IntKind.wrap .u64 ((done.length : Int) + 1) = ((done.length + 1 : Nat) : Int) := by rw [wrap_u64 (by omega) (by omega)]; simp
    have hr := R10_read b a t (by omega)
    have hE : ((nullV :: done).map Val.cells).length = m := by simp; omega
    have hb : (m + 1) * 32 ≤ 140737488355328 := by omega
    generalize readB b a t = r at *
    obtain ⟨⟨nu, x, s⟩, nx, e⟩ := r
    simp only [Val.cells] at hr h2
    rw [Run_loop]
    cases de : decide (e = 0) with
    | true =>
      rw [de, cond_true] at h2
      have ih := ih (done ++ [⟨nu, x, s⟩]) nx (m + 1) (by simp; omega) (by simp; omega) (by
        rw [h2]
        cases getV b t k nx <;> simp)
      have el : (done ++ [(⟨nu, x, s⟩ : Val)]).length = done.length + 1 := by simp
      have hap : (nullV :: (done ++ [(⟨nu, x, s⟩ : Val)])).map Val.cells = (nullV :: done).map Val.cells ++ [[AV.bool nu, AV.int .i64 x, AV.str s]] := by simp [Val.cells]
      rw [el, hap] at ih
      clear hS hN h2 h1 hap
      generalize (nullV :: done).map Val.cells = E at *
      simp only [go_sem] at ih
      simp only [f_R10_parseDict_l0_eq, f_R10_parseDict_l0u, d, w1, hr, de, hE, hb, ih, go_sem]
    | false =>
      rw [de, cond_false, Option.map_none] at h2
      have hN := hN h2
      clear hS h2 h1 ih
      generalize (nullV :: done).map Val.cells = E at *
      simp only [f_R10_parseDict_l0_eq, f_R10_parseDict_l0u, d, hr, de, hN, go_sem]
theorem R10_dict_p1 (kd : Int) (b : List UInt8) (D : List Val) (n rows : Nat) (a0 : Int) (hbl : b.length < 1000000000) (hn : n ≤ 1024) (hD : D.length = n + 1) (hr : rows ≤ 1024) {K : Ex × Env × St → Option (AV × St)} {Z : Option (AV × St)}
    (hS : ∀ L, getX b D rows a0 = some L → L.length = rows → ∀ a' : Int, K (.exit 2, [(2, .rptr [.int .i64 kd, .int .i64 rows, .sl (b.map bcell)]), (7, .int .i64 a'), (9, .osl 0 0 (n + 1) 0 (n + 1)), (10, .osl 1 0 rows 0 rows), (15, .int .i64 rows), (62, .bool false)], [.arr 0 3 (D.map Val.cells), .arr 0 3 (L.map Val.cells)]) = Z)
    (hN : getX b D rows a0 = none → ∀ τ, K (.ret, [(4, .nils), (5, .bool false)], τ) = Z) :
    ∀ (k : Nat) (done : List Val) (a : Int) (m : Nat), m = done.length → done.length + k = rows → getX b D rows a0 = (getX b D k a).map (done ++ ·) →
    (Run prog 0 (.loop 2 [2, 7, 9, 10, 15] f_R10_parseDict_l1) [(2, .rptr [.int .i64 kd, .int .i64 rows, .sl (b.map bcell)]), (7, .int .i64 a), (9, .osl 0 0 (n + 1) 0 (n + 1)), (10, .osl 1 0 m 0 m), (15, .int .i64 m)] [.arr 0 3 (D.map Val.cells), .arr 0 3 (done.map Val.cells)]).bind K = Z := by
  intro k
  induction k with
  | zero =>
    intro done a m hm h1 h2
    have hS := hS done (by rw [h2]; simp [getX]) (by omega) a
    have e : rows = m := by omega
    subst e
    have d : decide ((rows : Int) < (rows : Int)) = false := by simp
    clear h1 h2 hN
    rw [Run_loop]
    generalize done.map Val.cells = E at *
    simp only [f_R10_parseDict_l1_eq, f_R10_parseDict_l1u, d, hS, go_sem]
  | succ k ih =>
    intro done a m hm h1 h2
    rw [getX] at h2
    have d : decide ((m : Int) < (rows : Int)) = true := by simp; omega
    have w1 : IntKind.wrap .i64 ((m : Int) + 1) = ((m + 1 : Nat) : Int) := by rw [wrap_i64 (by omega) (by omega)]; simp
    have hu := R01_ReadU b a (by omega)
    have hE : (done.map Val.cells).length = m := by simp; omega
    have hDl : (D.map Val.cells).length = n + 1 := by simp [hD]
    have wn : IntKind.wrap .u64 ((n : Int) + 1) = (n : Int) + 1 := wrap_u64 (by omega) (by omega)
    have hb : (m + 1) * 32 ≤ 140737488355328 := by omega
    generalize rU b a = r at *
    obtain ⟨j, nx, e⟩ := r
    simp only [t3] at hu h2
    rw [Run_loop]
    cases de : decide (e = 0) with
    | false =>
      rw [de, cond_false, Option.map_none] at h2
      have hN := hN h2
      clear hS h2 h1 ih
      generalize done.map Val.cells = E at *
      generalize D.map Val.cells = F at *
      simp only [f_R10_parseDict_l1_eq, f_R10_parseDict_l1u, d, hu, de, hN, go_sem]
    | true =>
      rw [de, cond_true] at h2
      by_cases hj : n < j
      · have dj : decide ((n : Int) + 1 ≤ (j : Int)) = true := by simp; omega
        rw [List.getElem?_eq_none (by omega)] at h2
        have hN := hN h2
        clear hS h2 h1 ih
        generalize done.map Val.cells = E at *
        generalize D.map Val.cells = F at *
        simp only [f_R10_parseDict_l1_eq, f_R10_parseDict_l1u, d, hu, de, dj, wn, hDl, hN, go_sem]
      · have dj : decide ((n : Int) + 1 ≤ (j : Int)) = false := by simp; omega
        obtain ⟨v, hv⟩ : ∃ v, D[j]? = some v := ⟨_, List.getElem?_eq_getElem (by omega)⟩
        rw [hv] at h2
        simp only [] at h2
        have hgv : (D.map Val.cells)[j]? = some [.bool v.null, .int .i64 v.n, .str v.s] := by rw [List.getElem?_map, hv]; rfl
        have hjI : (j : Int) < (n : Int) + 1 := by omega
        have ih := ih (done ++ [v]) nx (m + 1) (by simp; omega) (by simp; omega) (by
          rw [h2]
          cases getX b D k nx <;> simp)
        have hap : (done ++ [v]).map Val.cells = done.map Val.cells ++ [[AV.bool v.null, AV.int .i64 v.n, AV.str v.s]] := by simp [Val.cells]
        rw [hap] at ih
        clear hS hN h2 h1 hap
        generalize done.map Val.cells = E at *
        generalize D.map Val.cells = F at *
        simp only [go_sem] at ih
        simp only [f_R10_parseDict_l1_eq, f_R10_parseDict_l1u, d, w1, wn, hu, de, dj, hgv, hE, hDl, hjI, hb, ih, go_sem]
theorem R10_parseDict (kd : Int) (b : List UInt8) (t : Int) (rows : Nat) (hbl : b.length < 1000000000) (hr : rows ≤ 1024) : Den prog 551 [.agg [.int .i64 kd, .int .i64 rows, .sl (b.map bcell)], .int .i64 t] [] = some (parR (valsD b rows t), []) := by
  rw [Den_ofK [] pr_R10_parseDict rfl]
  have hu := R01_ReadU b 0 (by omega)
  have hlt := rU_lt b 0
  unfold valsD
  generalize rU b 0 = r at *
  obtain ⟨n, a, e⟩ := r
  simp only [t3] at hu hlt ⊢
  have w1 : IntKind.wrap .u64 (rows : Int) = rows := wrap_u64 (by omega) (by omega)
  cases de : decide (e = 0) with
  | false => simp only [f_R10_parseDict, hu, de, Bool.not_false, Bool.true_or, cond_true, parR, go_sem]
  | true =>
    cases dn : decide (rows < n) with
    | true =>
      have dn' : decide ((rows : Int) < (n : Int)) = true := by simp at dn ⊢; omega
      simp only [f_R10_parseDict, hu, de, w1, dn', Bool.not_true, Bool.or_true, cond_true, parR, go_sem]
    | false =>
      have dn' : decide ((rows : Int) < (n : Int)) = false := by simp at dn ⊢; omega
      have hn : n ≤ 1024 := by simp at dn; omega
      have k0 := fun K Z hS hN => R10_dict_p0 kd rows b t n a hbl hn (K := K) (Z := Z) hS hN n [] a 1 rfl (by simp) (by simp)
      have e0 : [nullV].map Val.cells = [[AV.bool true, AV.int .i64 0, AV.str ⟨#[]⟩]] := rfl
      rw [e0] at k0
      simp only [List.length_nil, Int.natCast_zero] at k0
      simp only [Bool.not_true, Bool.or_self, cond_false]
      simp only [f_R10_parseDict, hu, de, w1, dn', go_sem]
      refine k0 _ _ ?_ ?_
      · intro L a' hL hLl
        rw [hL]
        simp only [Option.bind_some]
        have k1 := fun K Z hS hN => R10_dict_p1 kd b (nullV :: L) n rows a' hbl hn (by simp [hLl]) hr (K := K) (Z := Z) hS hN rows [] a' 0 rfl (by simp) (by simp)
        simp only [List.map_nil, Int.natCast_zero] at k1
        have hFl : ((nullV :: L).map Val.cells).length = n + 1 := by simp [hLl]
        clear k0
        generalize (nullV :: L).map Val.cells = F at *
        simp only [go_sem]
        refine k1 _ _ ?_ ?_
        · intro M hM hMl a''
          rw [hM]
          simp only [hMl, parR, go_sem]
        · intro hM τ
          rw [hM]
          simp only [parR, go_sem]
      · intro hL τ
        rw [hL]
        simp only [Option.bind_none, parR, go_sem]
end Go.Den
