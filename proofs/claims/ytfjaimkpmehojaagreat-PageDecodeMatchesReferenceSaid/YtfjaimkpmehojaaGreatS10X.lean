/- Package page: Dict and Runs pages read. -/
import Derived.Test.YtfjaimkpmehojaaGreatS10V
namespace Go.Den
open Go
set_option linter.unusedSimpArgs false
set_option linter.unusedVariables false
set_option maxRecDepth 100000
set_option maxHeartbeats 1000000
theorem srcO_part (ver n off len sz : Nat) (es : List (List AV)) (h : es.length = n) (h2 : off + len ≤ n) : srcO ver n off len (some (.arr ver sz es)) = some ((es.drop off).take len, true) := by
  subst h; simp [srcO, h2]
theorem bits_Mul64_one (y : Nat) (hy : y < 4294967296) : Den prog 513 [.int .u64 1, .int .u64 y] [] = some (.tup [.int .u64 0, .int .u64 y], []) := by
  rw [Den_ofK [] pr_math_bits_Mul64 rfl]
  have a1 : andI .u64 1 4294967295 = 1 := by decide +kernel
  have s1 : shrI .u64 1 32 = 0 := by decide +kernel
  have a2 : andI .u64 (y : Int) 4294967295 = y := by
    unfold andI
    have e1 : (BitVec.ofInt IntKind.u64.bits (y : Int)).toNat = y := ofInt_nat 64 (by omega)
    have e2 : (BitVec.ofInt IntKind.u64.bits (4294967295 : Int)).toNat = 4294967295 := by decide
    rw [BitVec.toNat_and, e1, e2, show (4294967295 : Nat) = 2 ^ 32 - 1 by decide, Nat.and_two_pow_sub_one_eq_mod, Nat.mod_eq_of_lt (by omega), wrap_u64 (by omega) (by omega)]
  have s2 : shrI .u64 (y : Int) 32 = 0 := by
    have := shr_nat .u64 y 32 (by decide)
    have e : y / 2 ^ 32 = 0 := Nat.div_eq_of_lt (by omega)
    rw [e] at this
    exact this
  have w1 : IntKind.wrap .u64 (1 * (y : Int)) = y := by rw [Int.one_mul, wrap_u64 (by omega) (by omega)]
  have w2 : IntKind.wrap .u64 (0 * (y : Int)) = 0 := by rw [Int.zero_mul]; rfl
  have w3 : IntKind.wrap .u64 0 = 0 := rfl
  have w4 : IntKind.wrap .u64 (1 * 0) = 0 := rfl
  have w5 : IntKind.wrap .u64 (0 * 0) = 0 := rfl
  have w6 : IntKind.wrap .u64 (0 + 0) = 0 := rfl
  have a0 : andI .u64 0 4294967295 = 0 := by decide +kernel
  have s0 : shrI .u64 0 32 = 0 := by decide +kernel
  simp only [f_math_bits_Mul64, a1, s1, a2, s2, w1, w2, w3, w4, w5, w6, a0, s0, go_sem]
theorem bits_Mul_one (y : Nat) (hy : y < 4294967296) : Den prog 514 [.int .u64 1, .int .u64 y] [] = some (.tup [.int .u64 0, .int .u64 y], []) := by
  rw [Den_ofK [] pr_math_bits_Mul rfl]
  have h := bits_Mul64_one y hy
  simp only [f_math_bits_Mul, h, go_sem]
theorem slices_Repeat (v : Val) (n : Nat) (hn : n ≤ 100000) : Den prog 515 [.sl [[.bool v.null, .int .i64 v.n, .str v.s]], .int .i64 n] [] = some (.sl ((List.replicate n v).map Val.cells), []) := by
  rw [Den_ofK [] pr_slices_Repeat_api_Value_api_Value rfl]
  have d0 : decide ((n : Int) < 0) = false := by simp
  have w1 : IntKind.wrap .u64 1 = 1 := rfl
  have w2 : IntKind.wrap .u64 (n : Int) = n := wrap_u64 (by omega) (by omega)
  have hm := bits_Mul_one n (by omega)
  have d1 : decide ((0 : Int) < 0) = false := rfl
  have d2 : decide ((9223372036854775807 : Int) < (n : Int)) = false := by simp; omega
  have w3 : IntKind.wrap .i64 (n : Int) = n := wrap_i64 (by omega) (by omega)
  have hb : (n : Int) * 32 ≤ 140737488355328 := by omega
  have hz1 : szOKb 3 [[AV.bool v.null, AV.int .i64 v.n, AV.str v.s]] = true := rfl
  by_cases hn0 : n = 0
  · have hcut := fun (σ : St) => copyO_cut σ 0 3 0 (List.replicate n [AV.bool false, AV.int .i64 0, AV.str ⟨#[]⟩]) [[AV.bool v.null, AV.int .i64 v.n, AV.str v.s]] false n 0 n (by simp) (by omega) (by simp; omega) hz1
    have e3 : (List.replicate n [AV.bool false, AV.int .i64 0, AV.str ⟨#[]⟩]).take 0 ++ (([[AV.bool v.null, AV.int .i64 v.n, AV.str v.s]] : List (List AV)).take n ++ (List.replicate n [AV.bool false, AV.int .i64 0, AV.str ⟨#[]⟩]).drop (0 + n)) = (List.replicate n v).map Val.cells := by
      rw [hn0]; rfl
    rw [e3] at hcut
    have hlz : (List.replicate n [AV.bool false, AV.int .i64 0, AV.str ⟨#[]⟩]).length = n := by simp
    have hl2 : ((List.replicate n v).map Val.cells).length = n := by simp
    have d3 : decide ((n : Int) < (n : Int)) = false := by simp
    generalize hE0 : List.replicate n [AV.bool false, AV.int .i64 0, AV.str ⟨#[]⟩] = E0 at *
    generalize (List.replicate n v).map Val.cells = E1 at *
    simp only [f_slices_Repeat_api_Value_api_Value, d0, w1, w2, hm, d1, d2, w3, hb, hE0, hcut, hlz, go_sem]
    rw [Run_loop]
    simp only [f_slices_Repeat_api_Value_api_Value_l0_eq, f_slices_Repeat_api_Value_api_Value_l0u, d3, hl2, go_sem]
  · have key : ∀ (f m : Nat), 1 ≤ m → m ≤ n → n < m + f → ∀ (K : Ex × Env × St → Option (AV × St)) (Z : Option (AV × St)),
        (K (.exit 0, [(7, .osl 0 0 n 0 n), (8, .int .i64 n), (37, .bool false)], [.arr 0 3 ((List.replicate n v).map Val.cells)]) = Z) →
        (Run prog 0 (.loop 1 [7, 8] f_slices_Repeat_api_Value_api_Value_l0) [(7, .osl 0 0 n 0 n), (8, .int .i64 m)] [.arr 0 3 ((List.replicate m v ++ List.replicate (n - m) noVz).map Val.cells)]).bind K = Z := by
      intro f
      induction f with
      | zero => intro m _ h2 h3; omega
      | succ f ih =>
        intro m h1 h2 h3 K Z hK
        rw [Run_loop]
        by_cases e : m = n
        · subst e
          have d : decide ((m : Int) < (m : Int)) = false := by simp
          have hl : ((List.replicate m v ++ List.replicate (m - m) noVz).map Val.cells) = (List.replicate m v).map Val.cells := by simp
          have hl2 : ((List.replicate m v).map Val.cells).length = m := by simp
          rw [hl]
          clear ih
          generalize (List.replicate m v).map Val.cells = E at *
          simp only [f_slices_Repeat_api_Value_api_Value_l0_eq, f_slices_Repeat_api_Value_api_Value_l0u, d, hl2, hK, go_sem]
        · have d : decide ((m : Int) < (n : Int)) = true := by simp; omega
          have hE : ((List.replicate m v ++ List.replicate (n - m) noVz).map Val.cells).length = n := by simp; omega
          have htk : ((List.replicate m v ++ List.replicate (n - m) noVz).map Val.cells).take m = (List.replicate m v).map Val.cells := by
            rw [List.map_append, List.take_left' (by simp)]
          have hmI : (m : Int) ≤ (n : Int) := by omega
          have hsum : m + (n - m) ≤ n := by omega
          have hyl : ((List.replicate m v).map Val.cells).length = m := by simp
          have hyz : szOKb 3 ((List.replicate m v).map Val.cells) = true := szOKb_map 3 Val.cells _ (fun _ => rfl)
          by_cases hc : m ≤ n - m
          · have ih := ih (m + m) (by omega) (by omega) (by omega) K Z hK
            have w4 : IntKind.wrap .i64 ((m : Int) + (m : Int)) = ((m + m : Nat) : Int) := by rw [wrap_i64 (by omega) (by omega)]; simp
            have hin := fun (σ : St) => copyO_in σ 0 3 0 ((List.replicate m v ++ List.replicate (n - m) noVz).map Val.cells) ((List.replicate m v).map Val.cells) true n m (n - m) hE hsum (by rw [hyl]; exact hc) hyz
            have e2 : ((List.replicate m v ++ List.replicate (n - m) noVz).map Val.cells).take m ++ ((List.replicate m v).map Val.cells ++ ((List.replicate m v ++ List.replicate (n - m) noVz).map Val.cells).drop (m + ((List.replicate m v).map Val.cells).length)) = (List.replicate (m + m) v ++ List.replicate (n - (m + m)) noVz).map Val.cells := by
              rw [htk, hyl, List.map_append, List.drop_append]
              have q1 : ((List.replicate m v).map Val.cells).drop (m + m) = [] := List.drop_of_length_le (by simp)
              rw [q1, List.length_map, List.length_replicate, List.nil_append, ← List.map_drop, List.drop_replicate, show n - m - (m + m - m) = n - (m + m) by omega, ← List.append_assoc, ← List.map_append, List.replicate_append_replicate, ← List.map_append]
            rw [e2, hyl] at hin
            clear hK e2
            generalize (List.replicate m v ++ List.replicate (n - m) noVz).map Val.cells = E at *
            generalize (List.replicate (m + m) v ++ List.replicate (n - (m + m)) noVz).map Val.cells = E2 at *
            generalize (List.replicate m v).map Val.cells = Y at *
            simp only [go_sem] at ih
            simp only [f_slices_Repeat_api_Value_api_Value_l0_eq, f_slices_Repeat_api_Value_api_Value_l0u, d, hE, hmI, hsum, h2, sliceO_low, sliceO_to, srcO_part, htk, hin, w4, ih, go_sem]
          · have w4 : IntKind.wrap .i64 ((m : Int) + ((n - m : Nat) : Int)) = (n : Int) := by rw [wrap_i64 (by omega) (by omega)]; omega
            have ih := ih n (by omega) (by omega) (by omega) K Z hK
            have hin := fun (σ : St) => copyO_cut σ 0 3 0 ((List.replicate m v ++ List.replicate (n - m) noVz).map Val.cells) ((List.replicate m v).map Val.cells) true n m (n - m) hE hsum (by rw [hyl]; omega) hyz
            have e2 : ((List.replicate m v ++ List.replicate (n - m) noVz).map Val.cells).take m ++ (((List.replicate m v).map Val.cells).take (n - m) ++ ((List.replicate m v ++ List.replicate (n - m) noVz).map Val.cells).drop (m + (n - m))) = (List.replicate n v ++ List.replicate (n - n) noVz).map Val.cells := by
              rw [htk, List.drop_of_length_le (by rw [hE]; omega), List.append_nil, ← List.map_take, List.take_replicate, ← List.map_append, List.replicate_append_replicate, show m + min (n - m) m = n by omega]
              simp
            rw [e2] at hin
            clear hK e2
            generalize (List.replicate m v ++ List.replicate (n - m) noVz).map Val.cells = E at *
            generalize (List.replicate n v ++ List.replicate (n - n) noVz).map Val.cells = E2 at *
            generalize (List.replicate m v).map Val.cells = Y at *
            simp only [f_slices_Repeat_api_Value_api_Value_l0_eq, f_slices_Repeat_api_Value_api_Value_l0u, d, hE, hmI, hsum, h2, sliceO_low, sliceO_to, srcO_part, htk, hin, w4, ih, go_sem]
    obtain ⟨p, hp⟩ : ∃ p, n = p + 1 := ⟨n - 1, by omega⟩
    have k0 := fun K Z hK => key (n + 1) 1 (Nat.le_refl _) (by omega) (by omega) K Z hK
    have hin := fun (σ : St) => copyO_in σ 0 3 0 (List.replicate n [AV.bool false, AV.int .i64 0, AV.str ⟨#[]⟩]) [[AV.bool v.null, AV.int .i64 v.n, AV.str v.s]] false n 0 n (by simp) (by omega) (by simp; omega) hz1
    have e3 : (List.replicate n [AV.bool false, AV.int .i64 0, AV.str ⟨#[]⟩]).take 0 ++ ([[AV.bool v.null, AV.int .i64 v.n, AV.str v.s]] ++ (List.replicate n [AV.bool false, AV.int .i64 0, AV.str ⟨#[]⟩]).drop (0 + [[AV.bool v.null, AV.int .i64 v.n, AV.str v.s]].length)) = (List.replicate 1 v ++ List.replicate (n - 1) noVz).map Val.cells := by
      simp [Val.cells, noVz]
    rw [e3] at hin
    have hlz : (List.replicate n [AV.bool false, AV.int .i64 0, AV.str ⟨#[]⟩]).length = n := by simp
    have hl2 : ((List.replicate n v).map Val.cells).length = n := by simp
    generalize (List.replicate 1 v ++ List.replicate (n - 1) noVz).map Val.cells = E at *
    generalize hE0 : List.replicate n [AV.bool false, AV.int .i64 0, AV.str ⟨#[]⟩] = E0 at *
    generalize (List.replicate n v).map Val.cells = E1 at *
    simp only [List.length_cons, List.length_nil, Nat.zero_add] at hin
    simp only [go_sem] at k0
    simp only [f_slices_Repeat_api_Value_api_Value, d0, w1, w2, hm, d1, d2, w3, hb, hE0, hin, hlz, go_sem]
    refine k0 _ _ ?_
    simp only [hl2, go_sem]
end Go.Den
