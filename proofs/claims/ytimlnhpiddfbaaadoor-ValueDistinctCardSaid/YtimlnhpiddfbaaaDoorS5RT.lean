/- Ch. 05: ValueRoundTrip. -/
import Derived.Test.YtimlnhpiddfbaaaDoorS5O
namespace Go.Den
open Go Go.Proofs
set_option linter.unusedSimpArgs false
set_option linter.unusedVariables false
set_option maxRecDepth 100000
set_option maxHeartbeats 1000000
theorem wrap5_i32 (a : Int) : -2147483648 ≤ IntKind.wrap .i32 a ∧ IntKind.wrap .i32 a ≤ 2147483647 := by
  simp [IntKind.wrap, IntKind.bits, IntKind.signed]
  split <;> omega
theorem and1_5 (a : Int) : andI .i64 a 1 = a % 2 := by
  change IntKind.wrap .i64 ((BitVec.ofInt 64 a &&& BitVec.ofInt 64 1).toNat : Int) = a % 2
  have e : (BitVec.ofInt 64 a &&& BitVec.ofInt 64 1).toNat = (a % 2).toNat := by
    rw [BitVec.toNat_and]
    have h7 : (BitVec.ofInt 64 1).toNat = 2 ^ 1 - 1 := by decide
    rw [h7, Nat.and_two_pow_sub_one_eq_mod, BitVec.toNat_ofInt]
    omega
  rw [e, wrap_i64 (by omega) (by omega)]
  omega
theorem tmod5_day (n : Int) : -1000000 ≤ n.tmod 1000001 ∧ n.tmod 1000001 ≤ 1000000 := by
  have h1 := Int.tmod_lt_of_pos n (show (0 : Int) < 1000001 by decide)
  have h2 : -1000001 < n.tmod 1000001 := by
    rcases Int.le_total 0 n with h | h
    · have := Int.tmod_nonneg 1000001 h; omega
    · have := Int.tmod_lt_of_pos (-n) (show (0 : Int) < 1000001 by decide)
      rw [Int.neg_tmod] at this; omega
  omega
theorem cut5_size (s : ByteArray) : ((cutS 200 s).size : Int) ≤ 200 := by
  have h1 := cutI_ge (k := 200) s (by decide)
  have h2 := cutI_le 200 s
  have h3 : cutI 200 s ≤ 200 := by unfold cutI; split <;> omega
  unfold cutS
  rw [ByteArray.size_extract]
  omega
theorem fitS_ok (v : Val) (t : Int) (ht : typeOk t = true) (hi : InB v) : okV (fitS v t) t = true ∧ InB (fitS v t) := by
  unfold fitS
  cases hn : v.null with
  | true => exact ⟨rfl, by unfold InB nullV; simp⟩
  | false =>
    simp only [cond_false]
    rcases typeOk_cases ht with rfl | rfl | rfl | rfl | rfl
    · rw [decide_eq_true rfl, cond_true, and1_5]
      unfold okV InB loT hiT
      have : 0 ≤ v.n % 2 ∧ v.n % 2 ≤ 1 := by omega
      refine ⟨?_, by simp only []; omega⟩
      simp; omega
    · have hw := wrap5_i32 v.n
      rw [decide_eq_false (by omega), decide_eq_true rfl, cond_false, cond_true, wrap_i64 (by omega) (by omega)]
      unfold okV InB loT hiT
      refine ⟨?_, by simp only []; omega⟩
      simp; omega
    · rw [decide_eq_false (by omega), decide_eq_false (by omega), decide_eq_false (by omega), decide_eq_false (by omega)]
      simp only [cond_false]
      exact ⟨rfl, hi⟩
    · have hc := cut5_size v.s
      rw [decide_eq_false (by omega), decide_eq_false (by omega), decide_eq_false (by omega), decide_eq_true rfl]
      simp only [cond_false, cond_true]
      unfold okV InB
      refine ⟨?_, by simp⟩
      simp; omega
    · have hw := tmod5_day v.n
      rw [decide_eq_false (by omega), decide_eq_false (by omega), decide_eq_true rfl]
      simp only [cond_false, cond_true]
      unfold okV InB loT hiT
      refine ⟨?_, by simp only []; omega⟩
      simp; omega
theorem sgnL_le (n : Int) (k : Nat) : (sgnL n k).length ≤ 26 := by
  have := padF_le 25 n.natAbs k
  unfold sgnL
  cases decide (n < 0) <;> simp <;> omega
theorem showV_len (v : Val) (t : Int) : (showV v t).length ≤ 1000 := by
  cases hb : (typeOk t && okV v t) with
  | false => rw [showV_bad hb]; simp
  | true =>
    simp only [Bool.and_eq_true] at hb
    rw [showV_ok hb.1 hb.2]
    cases hn : v.null with
    | true => simp [nullB]
    | false =>
      simp only [cond_false]
      cases decide (t = 1) with
      | true => simp only [cond_true, boolB]; cases decide (v.n = 1) <;> simp
      | false =>
        simp only [cond_false]
        have hs := okV_size hb.2
        have hl : v.s.data.toList.length = v.s.size := rfl
        have hq := quoteC_len v.s.data.toList
        have h1 := sgnL_le (yearZ (v.n + 719468)) 4
        have h2 := sgnL_le (monZ (v.n + 719468)) 2
        have h3 := sgnL_le (domZ (v.n + 719468) + 1) 2
        have h4 := sgnL_le v.n 1
        cases decide (t = 4) <;> cases decide (t = 5) <;> simp only [cond_true, cond_false, quoteL, dayB, List.length_append, List.length_cons, List.length_nil] <;> omega
theorem k5 (t : Int) (h0 : 0 ≤ t) (h1 : t ≤ 255) : ∃ r k : Int, IntKind.wrap .i64 t = t ∧ t.tmod 5 = r ∧ IntKind.wrap .i64 (1 + r) = k ∧ typeOk k = true := by
  have hr : t.tmod 5 = t % 5 := Int.tmod_eq_emod_of_nonneg h0
  refine ⟨_, _, wrap_i64 (by omega) (by omega), rfl, rfl, ?_⟩
  rw [hr, wrap_i64 (by omega) (by omega)]
  unfold typeOk
  simp only [Bool.and_eq_true, decide_eq_true_eq]
  omega
theorem law_VRT (p q : List UInt8) (b : Bool) (n : Int) (s : ByteArray) (t : Int) (hn : -9223372036854775808 ≤ n ∧ n ≤ 9223372036854775807) (t0 : 0 ≤ t) (t1 : t ≤ 255) : Den prog 446 [.agg [.sl (p.map bcell), .sl (q.map bcell)], .agg [.bool b, .int .i64 n, .str s], .int .u8 t] [] = some (.bool true, []) := by
  rw [Den_ofK [] pr_L05_ValueRoundTrip rfl]
  have hsan := sanity05
  cases g1 : decide ((400 : Int) < (p.length : Int)) with
  | true => simp only [f_L05_ValueRoundTrip, hsan, g1, go_sem]
  | false =>
  cases g2 : decide ((400 : Int) < (q.length : Int)) with
  | true => simp only [f_L05_ValueRoundTrip, hsan, g1, g2, go_sem]
  | false =>
  cases g3 : decide ((400 : Int) < (s.size : Int)) with
  | true => simp only [f_L05_ValueRoundTrip, hsan, g1, g2, g3, go_sem]
  | false =>
    have hp : p.length ≤ 400 := by simp at g1; omega
    have hq : q.length ≤ 400 := by simp at g2; omega
    obtain ⟨r, k, w1, w2, w3, hk⟩ := k5 t t0 t1
    have nz : (5 : Int) ≠ 0 := by decide
    have hfit := R05_Fit b n s k
    obtain ⟨o1, o2⟩ := fitS_ok ⟨b, n, s⟩ k hk hn
    generalize fitS ⟨b, n, s⟩ k = x at *
    obtain ⟨xb, xn, xs⟩ := x
    simp only [Val.cells] at hfit
    have hsz := okV_size o1
    simp only [] at hsz
    have hE := value_Encode p xb xn xs k (by omega) (by omega) o2
    have hX := encV_len ⟨xb, xn, xs⟩ k o2 (by simp only []; omega)
    simp only [] at hX
    have hD := value_Decode (p ++ (encV ⟨xb, xn, xs⟩ k ++ q)) p.length k (by simp; omega)
    rw [dec_enc p q _ k hk o1 o2] at hD
    simp only [V3, Val.cells] at hD
    have hS := value_Show xb xn xs k o2
    have hSl := showV_len ⟨xb, xn, xs⟩ k
    obtain ⟨w, e, hP, pR⟩ := value_Parse (showV ⟨xb, xn, xs⟩ k) (by omega) k
    obtain ⟨rfl, rfl⟩ := parR_fun pR (.inr (.inl ⟨hk, o1, o2, rfl, rfl⟩))
    simp only [] at hP
    have hV := value_Valid xb xn xs k o2
    rw [hk, o1] at hV
    rw [← List.append_assoc] at hD
    have hlen : (p ++ encV ⟨xb, xn, xs⟩ k).length = p.length + (encV ⟨xb, xn, xs⟩ k).length := List.length_append
    rw [hlen] at hE
    rw [List.map_append] at hD
    generalize p ++ encV ⟨xb, xn, xs⟩ k = C at *
    generalize showV ⟨xb, xn, xs⟩ k = Y at *
    obtain ⟨c, hc⟩ : ∃ c, p.length + (encV ⟨xb, xn, xs⟩ k).length = c := ⟨_, rfl⟩
    rw [hc] at hE hlen
    rw [show (p.length : Int) + ((encV ⟨xb, xn, xs⟩ k).length : Int) = (c : Int) by omega] at hD
    have hb : (c + q.length) * 1 ≤ 140737488355328 := by omega
    simp only [f_L05_ValueRoundTrip, hsan, g1, g2, g3, w1, w2, w3, nz, hfit, hE, hD, hS, hP, hV, hb, hlen, beq_self_eq_true, go_sem]
theorem row_VRT (xs : List AV) (h : Args Tryd.prog [23, 25, 5] xs) : Den prog 446 xs [] = some (.bool true, []) := by
  obtain ⟨n, x, ys, rfl, h1, h⟩ := h.one
  obtain ⟨n2, x2, ys2, rfl, h2, h⟩ := h.one
  obtain ⟨n3, x3, ys3, rfl, h3, h⟩ := h.one
  cases h.none
  obtain ⟨ps, m, hl, rfl, hp⟩ := Sh.array h1 Tryd.underlying23
  obtain ⟨a, b, rfl⟩ : ∃ a b, ps = [a, b] := by
    match ps, hl with
    | [a, b], _ => exact ⟨a, b, rfl⟩
  obtain ⟨L, rfl, hL⟩ := sh_bytes (hp a (by simp))
  obtain ⟨M, rfl, hM⟩ := sh_bytes (hp b (by simp))
  obtain ⟨c, j, s, rfl, hj, hs⟩ := sh_valb h2
  obtain ⟨t, rfl, ht0, ht1⟩ := sh_u8 h3
  simp only [avOf, Tryd.underlying23, Tryd.underlying25, Tryd.underlying5, List.flatten_cons, List.flatten_nil, List.cons_append, List.nil_append, List.append_nil]
  exact law_VRT L M c j s t hj ht0 ht1
end Go.Den
