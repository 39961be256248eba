
/- Ch. 10: the laws' own functions. -/
import Derived.Test.YtfjaimkpmehojaaGreatS10U
namespace Go.Den
open Go
set_option linter.unusedSimpArgs false
set_option linter.unusedVariables false
set_option maxRecDepth 100000
set_option maxHeartbeats 1000000
theorem mall {α : Type} (p : α → Bool) (x : α) (r : List α) : (x :: r).all p = (p x && r.all p) := rfl
def smallB (l : List Val) : Bool := l.all (fun v => decide ((v.s.size : Int) ≤ 1000)) && decide ((l.length : Int) ≤ 3000)
def madeL (l : List Val) (t : Int) : List Val := (l.take 1024).map fun v => madeV v t
theorem z5 : (5 : Int) ≠ 0 := by decide
def typT (n : Int) : Int := 1 + n.tmod 5
theorem typT_ok {n : Int} (h : 0 ≤ n) : typeOk (typT n) = true := by
  unfold typT typeOk
  have h1 := Int.tmod_nonneg 5 h
  have h2 := Int.tmod_lt_of_pos n (by decide : (0 : Int) < 5)
  simp only [Bool.and_eq_true, decide_eq_true_eq]; omega
theorem R10_SameValues (a b : List Val) (ha : a.length < 1000000000000000) (hb : b.length < 1000000000000000) : Den prog 489 [.sl (a.map Val.cells), .sl (b.map Val.cells)] [] = some (.bool (decide (a = b)), []) := by
  rw [Den_ofK [] pr_R10_SameValues rfl]
  by_cases hl : a.length = b.length
  · have dl : decide ((a.length : Int) = (b.length : Int)) = true := by simp; omega
    simp only [f_R10_SameValues, dl, go_sem]
    refine range_ind a (by omega) (fun i (_ : Unit) => (Run prog 0 (.loop 0 [0, 1, 5] f_R10_SameValues_l0) [(0, .sl (a.map Val.cells)), (1, .sl (b.map Val.cells)), (5, .int .i64 i)] []).bind _ = some (AV.bool (decide (a = b)), []))
      (fun i rest _ => ∃ p rb, a = p ++ rest ∧ b = p ++ rb ∧ i = p.length) ?_ ?_ () ⟨[], b, rfl, rfl, rfl⟩
    · intro _ ⟨p, rb, h1, h2, h3⟩
      have e1 : a = p := by simpa using h1
      have e2 : rb = [] := by
        have := congrArg List.length h2
        simp only [List.length_append] at this
        exact List.length_eq_zero_iff.1 (by rw [← e1] at this; omega)
      have e : a = b := by rw [h2, e2, ← e1]; simp
      have d : decide (a = b) = true := decide_eq_true e
      clear h1 h2 h3
      rw [d, Run_loop]
      simp only [f_R10_SameValues_l0_eq, f_R10_SameValues_l0u, go_sem]
    · intro i pre0 rest x _ _ _ hi0 hi1 hx hc hw ⟨p, rb, h1, h2, h3⟩ ih
      obtain ⟨y, r2, hy⟩ : ∃ y r2, rb = y :: r2 := by
        cases rb with
        | nil =>
          have g1 := congrArg List.length h1
          have g2 := congrArg List.length h2
          simp at g1 g2; omega
        | cons y r2 => exact ⟨y, r2, rfl⟩
      subst hy
      have hyb : getE b i = some y := getE_prev h2 h3
      rw [Run_loop]
      cases de : decide (x = y) with
      | true =>
        have exy : x = y := by simpa using de
        subst exy
        have ih := ih () ⟨p ++ [x], r2, by simp [h1], by simp [h2], by simp; omega⟩
        clear h1 h2 h3
        have hs : (x.null == x.null) = true := by cases x.null <;> rfl
        simp only [f_R10_SameValues_l0_eq, f_R10_SameValues_l0u, hx, hyb, hc, hw, ih, val_eq, hs, Val.cells, go_sem]
      | false =>
        have hne : x ≠ y := by simpa using de
        have d : decide (a = b) = false := by
          rw [decide_eq_false_iff_not, h1, h2]
          intro e
          exact hne (List.cons.inj (List.append_cancel_left e)).1
        clear h1 h2 h3 ih
        rw [d]
        simp only [f_R10_SameValues_l0_eq, f_R10_SameValues_l0u, hx, hyb, hc, hw, val_eq, de, Val.cells, go_sem]
  · have dl : decide ((a.length : Int) = (b.length : Int)) = false := by simp; omega
    have d : decide (a = b) = false := decide_eq_false fun e => hl (by rw [e])
    rw [d]
    simp only [f_R10_SameValues, dl, go_sem]
theorem wrap32 (a : Int) : -2147483648 ≤ IntKind.wrap .i32 a ∧ IntKind.wrap .i32 a ≤ 2147483647 := by
  simp [IntKind.wrap, IntKind.bits, IntKind.signed]
  split <;> omega
theorem andI1 (a : Int) : andI .i64 a 1 = a % 2 := by
  change IntKind.wrap .i64 ((BitVec.ofInt 64 a &&& BitVec.ofInt 64 1).toNat : Int) = a % 2
  have e : (BitVec.ofInt 64 a &&& BitVec.ofInt 64 1).toNat = (a % 2).toNat := by
    rw [BitVec.toNat_and]
    have h7 : (BitVec.ofInt 64 1).toNat = 2 ^ 1 - 1 := by decide
    rw [h7, Nat.and_two_pow_sub_one_eq_mod, BitVec.toNat_ofInt]
    omega
  rw [e, wrap_i64 (by omega) (by omega)]
  omega
theorem tmodD (n : Int) : -1000000 ≤ n.tmod 1000001 ∧ n.tmod 1000001 ≤ 1000000 := by
  have h1 := Int.tmod_lt_of_pos n (show (0 : Int) < 1000001 by decide)
  have h2 : -1000001 < n.tmod 1000001 := by
    rcases Int.le_total 0 n with h | h
    · have := Int.tmod_nonneg 1000001 h; omega
    · have := Int.tmod_lt_of_pos (-n) (show (0 : Int) < 1000001 by decide)
      rw [Int.neg_tmod] at this; omega
  omega
theorem cut200 (s : ByteArray) : ((cutS 200 s).size : Int) ≤ 200 := by
  have h1 := cutI_ge (k := 200) s (by decide)
  have h2 := cutI_le 200 s
  have h3 : cutI 200 s ≤ 200 := by unfold cutI; split <;> omega
  unfold cutS
  rw [ByteArray.size_extract]
  omega
theorem made_ok {v : Val} {t : Int} (ht : typeOk t = true) (hb : InB v) : okV (madeV v t) t = true ∧ InB (madeV v t) := by
  unfold madeV
  have hq := typeOk_cases ht
  rw [ht, cond_true]
  unfold fitS
  cases hv : v.null with
  | true => exact ⟨by rfl, by simp [InB, nullV]⟩
  | false =>
  simp only [cond_false]
  have w1 := wrap32 v.n
  have w2 := tmodD v.n
  have w3 := cut200 v.s
  have w4 := andI1 v.n
  unfold InB at *
  rcases hq with h | h | h | h | h <;> subst h <;> simp only [okV, decide_true, decide_false, loT, hiT, cond_true, cond_false, dt11, dt12, dt13, dt14, dt15, dt21, dt22, dt23, dt24, dt25, dt31, dt32, dt33, dt34, dt35, dt41, dt42, dt43, dt44, dt45, dt51, dt52, dt53, dt54, dt55]
  · refine ⟨?_, by omega⟩
    simp only [Bool.and_eq_true, decide_eq_true_eq]
    exact ⟨⟨trivial, by omega⟩, by omega⟩
  · have e : IntKind.wrap .i64 (IntKind.wrap .i32 v.n) = IntKind.wrap .i32 v.n := wrap_i64 (by omega) (by omega)
    rw [e]
    refine ⟨?_, by omega⟩
    simp only [Bool.and_eq_true, decide_eq_true_eq]
    exact ⟨⟨trivial, by omega⟩, by omega⟩
  · exact ⟨by simp, hb⟩
  · refine ⟨?_, by omega⟩
    simp only [Bool.and_eq_true, decide_eq_true_eq]
    exact ⟨trivial, w3⟩
  · refine ⟨?_, by omega⟩
    simp only [Bool.and_eq_true, decide_eq_true_eq]
    exact ⟨⟨trivial, by omega⟩, by omega⟩
theorem madeL_ok {l : List Val} {t : Int} (ht : typeOk t = true) (hb : ∀ v ∈ l, InB v) : okL (madeL l t) t = true ∧ (∀ v ∈ madeL l t, InB v) ∧ (madeL l t).length ≤ 1024 := by
  have key : ∀ v ∈ madeL l t, okV v t = true ∧ InB v := by
    intro v hv
    obtain ⟨u, hu, rfl⟩ := List.mem_map.1 hv
    exact made_ok ht (hb u (List.mem_of_mem_take hu))
  refine ⟨?_, fun v hv => (key v hv).2, by simp [madeL]; omega⟩
  unfold okL
  rw [List.all_eq_true]
  exact fun v hv => (key v hv).1
end Go.Den
