/- Package page: Dict and Runs pages read. -/
import Derived.Test.YtfjaimkpmehojaaGreatS10X
namespace Go.Den
open Go
set_option linter.unusedSimpArgs false
set_option linter.unusedVariables false
set_option maxRecDepth 100000
set_option maxHeartbeats 1000000
theorem dict_p0 (b : List UInt8) (t : Int) (rows n : Nat) (a0 : Int) (hbl : b.length < 1000000000) (hn : n ≤ 1024) {K : Ex × Env × St → Option (AV × St)} {Z : Option (AV × St)}
    (hS : ∀ L a', getV b t n a0 = some (L, a') → L.length = n → K (.exit 0, [(1, .sl (b.map bcell)), (2, .int .i64 rows), (3, .int .i64 t), (10, .int .u64 n), (11, .int .i64 a'), (13, .osl 0 0 (n + 1) 0 (n + 1)), (38, .int .u64 n), (39, .int .u64 n), (40, .bool false)], [.arr 0 3 ((nullV :: L).map Val.cells)]) = Z)
    (hN : getV b t n a0 = none → ∀ E o, K (.ret, [(8, .nils), (9, .bool false)], [.arr 0 3 E, o]) = Z) :
    ∀ (k : Nat) (done : List Val) (a : Int) (m : Nat), m = done.length + 1 → done.length + k = n → getV b t n a0 = (getV b t k a).map (fun q => (done ++ q.1, q.2)) →
    (Run prog 0 (.loop 1 [1, 2, 3, 10, 11, 13, 38, 39] f_page_dict_parse_l0) [(1, .sl (b.map bcell)), (2, .int .i64 rows), (3, .int .i64 t), (10, .int .u64 n), (11, .int .i64 a), (13, .osl 0 0 m 0 m), (38, .int .u64 n), (39, .int .u64 done.length)] [.arr 0 3 ((nullV :: done).map Val.cells)]).bind K = Z := by
  intro k
  induction k with
  | zero =>
    intro done a m hm h1 h2
    have hS := hS done a (by rw [h2]; simp [getV]) (by omega)
    have e : done.length = n := by omega
    have d : decide ((n : Int) < (n : Int)) = false := by simp
    have em : n + 1 = m := by omega
    rw [em] at hS
    rw [e]
    clear h1 h2 hN
    rw [Run_loop]
    generalize (nullV :: done).map Val.cells = E at *
    simp only [f_page_dict_parse_l0_eq, f_page_dict_parse_l0u, d, hS, go_sem]
  | succ k ih =>
    intro done a m hm h1 h2
    rw [getV] at h2
    have d : decide ((done.length : Int) < (n : Int)) = true := by simp; omega
    have w1 : IntKind.wrap .u64 ((done.length : Int) + 1) = ((done.length + 1 : Nat) : Int) := by rw [wrap_u64 (by omega) (by omega)]; simp
    have hr := page_read b a t (by omega)
    have hE : ((nullV :: done).map Val.cells).length = m := by simp; omega
    have hb : (m + 1) * 32 ≤ 140737488355328 := by omega
    generalize readB b a t = r at *
    obtain ⟨⟨nu, x, s⟩, nx, e⟩ := r
    simp only [Val.cells] at hr h2
    rw [Run_loop]
    cases de : decide (e = 0) with
    | true =>
      rw [de, cond_true] at h2
      have ih := ih (done ++ [⟨nu, x, s⟩]) nx (m + 1) (by simp; omega) (by simp; omega) (by
        rw [h2]
        cases getV b t k nx <;> simp)
      have el : (done ++ [(⟨nu, x, s⟩ : Val)]).length = done.length + 1 := by simp
      have hap : (nullV :: (done ++ [(⟨nu, x, s⟩ : Val)])).map Val.cells = (nullV :: done).map Val.cells ++ [[AV.bool nu, AV.int .i64 x, AV.str s]] := by simp [Val.cells]
      rw [el, hap] at ih
      rw [de] at hr
      clear hS hN h2 h1 hap
      generalize (nullV :: done).map Val.cells = E at *
      simp only [go_sem] at ih
      simp only [f_page_dict_parse_l0_eq, f_page_dict_parse_l0u, d, w1, hr, hE, hb, ih, go_sem]
    | false =>
      rw [de, cond_false, Option.map_none] at h2
      have hN := hN h2
      rw [de] at hr
      clear hS h2 h1 ih
      generalize (nullV :: done).map Val.cells = E at *
      simp only [f_page_dict_parse_l0_eq, f_page_dict_parse_l0u, d, hr, hN, go_sem]
theorem dict_p1 (b : List UInt8) (D : List Val) (n rows : Nat) (a0 : Int) (hbl : b.length < 1000000000) (hn : n ≤ 1024) (hD : D.length = n + 1) (hr : rows ≤ 1024) {K : Ex × Env × St → Option (AV × St)} {Z : Option (AV × St)}
    (hS : ∀ L, getX b D rows a0 = some L → L.length = rows → ∀ a' : Int, K (.exit 2, [(1, .sl (b.map bcell)), (10, .int .u64 n), (11, .int .i64 a'), (13, .osl 0 0 (n + 1) 0 (n + 1)), (17, .osl 1 0 rows 0 rows), (60, .int .i64 rows), (61, .int .i64 rows), (62, .bool false)], [.arr 0 3 (D.map Val.cells), .arr 0 3 (L.map Val.cells)]) = Z)
    (hN : getX b D rows a0 = none → ∀ E F, K (.ret, [(8, .nils), (9, .bool false)], [E, F]) = Z) :
    ∀ (k : Nat) (done : List Val) (a : Int), done.length + k = rows → getX b D rows a0 = (getX b D k a).map (done ++ ·) →
    (Run prog 0 (.loop 2 [1, 10, 11, 13, 17, 60, 61] f_page_dict_parse_l1) [(1, .sl (b.map bcell)), (10, .int .u64 n), (11, .int .i64 a), (13, .osl 0 0 (n + 1) 0 (n + 1)), (17, .osl 1 0 rows 0 rows), (60, .int .i64 rows), (61, .int .i64 done.length)] [.arr 0 3 (D.map Val.cells), .arr 0 3 ((done ++ List.replicate k noVz).map Val.cells)]).bind K = Z := by
  intro k
  induction k with
  | zero =>
    intro done a h1 h2
    have hS := hS done (by rw [h2]; simp [getX]) (by omega) a
    have e : done.length = rows := by omega
    have d : decide ((rows : Int) < (rows : Int)) = false := by simp
    rw [e]
    clear h1 h2 hN
    rw [List.replicate_zero, List.append_nil, Run_loop]
    generalize done.map Val.cells = E at *
    simp only [f_page_dict_parse_l1_eq, f_page_dict_parse_l1u, d, hS, go_sem]
  | succ k ih =>
    intro done a h1 h2
    rw [getX] at h2
    obtain ⟨i, hi⟩ : ∃ i, i = done.length := ⟨_, rfl⟩
    have hiI : (i : Int) < (rows : Int) := by omega
    have d : decide ((i : Int) < (rows : Int)) = true := by simp; omega
    have w1 : IntKind.wrap .i64 ((i : Int) + 1) = ((i + 1 : Nat) : Int) := by rw [wrap_i64 (by omega) (by omega)]; simp
    have hu := wire_ReadU b a (by omega)
    have hE : ((done ++ List.replicate (k + 1) noVz).map Val.cells).length = rows := by simp; omega
    have hDl : (D.map Val.cells).length = n + 1 := by simp [hD]
    have hset : ∀ v : Val, ((done ++ List.replicate (k + 1) noVz).map Val.cells).set i v.cells = ((done ++ [v]) ++ List.replicate k noVz).map Val.cells := by
      intro v
      have : i = (done.map Val.cells).length := by simp [hi]
      rw [List.map_append, this, List.set_append_right _ _ (Nat.le_refl _), Nat.sub_self, List.replicate_succ, List.map_cons, List.set_cons_zero]
      simp
    have hget : ((done ++ List.replicate (k + 1) noVz).map Val.cells)[i]? = some [.bool false, .int .i64 0, .str ⟨#[]⟩] := by
      rw [List.getElem?_map, List.getElem?_append_right (by omega), show i - done.length = 0 by omega, List.replicate_succ]; rfl
    rw [← hi]
    generalize rU b a = r at *
    obtain ⟨j, nx, e⟩ := r
    simp only [t3] at hu h2
    rw [Run_loop]
    cases de : decide (e = 0) with
    | false =>
      rw [de, cond_false, Option.map_none] at h2
      have hN := hN h2
      clear hS h2 h1 ih hset
      generalize (done ++ List.replicate (k + 1) noVz).map Val.cells = E at *
      generalize D.map Val.cells = F at *
      simp only [f_page_dict_parse_l1_eq, f_page_dict_parse_l1u, d, hu, de, hN, go_sem]
    | true =>
      rw [de, cond_true] at h2
      by_cases hj : n < j
      · have dj : decide ((n : Int) < (j : Int)) = true := by simp; omega
        rw [List.getElem?_eq_none (by omega)] at h2
        have hN := hN h2
        clear hS h2 h1 ih hset
        generalize (done ++ List.replicate (k + 1) noVz).map Val.cells = E at *
        generalize D.map Val.cells = F at *
        simp only [f_page_dict_parse_l1_eq, f_page_dict_parse_l1u, d, hu, de, dj, hN, go_sem]
      · have dj : decide ((n : Int) < (j : Int)) = false := by simp; omega
        obtain ⟨v, hv⟩ : ∃ v, D[j]? = some v := ⟨_, List.getElem?_eq_getElem (by omega)⟩
        rw [hv] at h2
        simp only [] at h2
        have hgv : (D.map Val.cells)[j]? = some [.bool v.null, .int .i64 v.n, .str v.s] := by rw [List.getElem?_map, hv]; rfl
        have hjI : (j : Int) < (n : Int) + 1 := by omega
        have ih := ih (done ++ [v]) nx (by simp; omega) (by
          rw [h2]
          cases getX b D k nx <;> simp)
        have hsn := hset v
        have el : (done ++ [v]).length = i + 1 := by simp [hi]
        rw [el] at ih
        clear hS hN h2 h1 hset
        generalize (done ++ List.replicate (k + 1) noVz).map Val.cells = E at *
        generalize ((done ++ [v]) ++ List.replicate k noVz).map Val.cells = E2 at *
        generalize D.map Val.cells = F at *
        simp only [Val.cells] at hsn
        simp only [go_sem] at ih
        simp only [f_page_dict_parse_l1_eq, f_page_dict_parse_l1u, d, w1, hu, de, dj, hgv, hget, hsn, hE, hDl, hiI, hjI, ih, go_sem]
theorem getV_len (b : List UInt8) (t : Int) : ∀ (k : Nat) (a : Int) (L : List Val) (a' : Int), getV b t k a = some (L, a') → L.length = k
  | 0, _, L, _, h => by simp [getV] at h; rw [h.1]; rfl
  | k + 1, a, L, a', h => by
    rw [getV] at h
    cases hd : decide ((readB b a t).2.2 = 0) with
    | false => rw [hd] at h; simp at h
    | true =>
      rw [hd, cond_true] at h
      obtain ⟨⟨r, q⟩, hr, e⟩ := Option.map_eq_some_iff.1 h
      simp at e
      rw [← e.1, List.length_cons, getV_len b t k _ r q hr]
theorem dict_parse (b : List UInt8) (t : Int) (rows : Nat) (hbl : b.length < 1000000000) (hr : rows ≤ 1024) : Den prog 522 [.agg [], .sl (b.map bcell), .int .i64 rows, .int .i64 t] [] = some (parR (valsD b rows t), []) := by
  rw [Den_ofK [] pr_page_dict_parse rfl]
  have hu := wire_ReadU b 0 (by omega)
  have hlt := rU_lt b 0
  unfold valsD
  generalize rU b 0 = r at *
  obtain ⟨n, a, e⟩ := r
  simp only [t3] at hu hlt ⊢
  have w1 : IntKind.wrap .u64 (rows : Int) = rows := wrap_u64 (by omega) (by omega)
  cases de : decide (e = 0) with
  | false => simp only [f_page_dict_parse, hu, de, Bool.not_false, Bool.true_or, cond_true, parR, go_sem]
  | true =>
    cases dn : decide (rows < n) with
    | true =>
      have dn' : decide ((rows : Int) < (n : Int)) = true := by simp at dn ⊢; omega
      simp only [f_page_dict_parse, hu, de, w1, dn', Bool.not_true, Bool.or_true, cond_true, parR, go_sem]
    | false =>
      have dn' : decide ((rows : Int) < (n : Int)) = false := by simp at dn ⊢; omega
      have hn : n ≤ 1024 := by simp at dn; omega
      have k0 := fun K Z hS hN => dict_p0 b t rows n a hbl hn (K := K) (Z := Z) hS hN n [] a 1 rfl (by simp) (by simp)
      have e0 : [nullV].map Val.cells = [[AV.bool true, AV.int .i64 0, AV.str ⟨#[]⟩]] := rfl
      rw [e0] at k0
      simp only [List.length_nil, Int.natCast_zero] at k0
      simp only [Bool.not_true, Bool.or_self, cond_false]
      simp only [f_page_dict_parse, hu, de, w1, dn', go_sem]
      refine k0 _ _ ?_ ?_
      · intro L a' hL hLl
        rw [hL]
        simp only [Option.bind_some]
        have k1 := fun K Z hS hN => dict_p1 b (nullV :: L) n rows a' hbl hn (by simp [hLl]) hr (K := K) (Z := Z) hS hN rows [] a' (by simp) (by simp)
        have e1 : (([] : List Val) ++ List.replicate rows noVz).map Val.cells = List.replicate rows [AV.bool false, AV.int .i64 0, AV.str ⟨#[]⟩] := by simp [Val.cells, noVz]
        rw [e1] at k1
        simp only [List.length_nil, Int.natCast_zero] at k1
        have h2 : (rows : Int) * 32 ≤ 140737488355328 := by omega
        have hFl : ((nullV :: L).map Val.cells).length = n + 1 := by simp [hLl]
        clear k0
        generalize (nullV :: L).map Val.cells = F at *
        simp only [h2, List.length_replicate, go_sem]
        refine k1 _ _ ?_ ?_
        · intro M hM hMl a''
          rw [hM]
          simp only [hMl, parR, go_sem]
        · intro hM E G
          rw [hM]
          simp only [parR, go_sem]
      · intro hL E o
        rw [hL]
        simp only [Option.bind_none, parR, go_sem]
end Go.Den
