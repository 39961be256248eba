import Derived.Test.YtfjaimkpmehojaaGreatS06
namespace Go.Den
open Go
set_option linter.unusedSimpArgs false
set_option linter.unusedVariables false
set_option maxRecDepth 100000
set_option maxHeartbeats 1000000
@[go_sem] theorem value_isType (t : Int) : Den prog 202 [.int .i64 t] [] = some (.bool (typeOk t), []) := by
  rw [Den_ofK [] pr_value_isType rfl]
  simp only [typeOk]
  cases h1 : decide (1 ≤ t) <;> cases h2 : decide (t ≤ 5) <;>
  simp only [f_value_isType, h1, h2, go_sem]
def loT (t : Int) : Int := bif decide (t = 1) then 0 else bif decide (t = 2) then -2147483648 else bif decide (t = 5) then -1000000 else -9223372036854775808
def hiT (t : Int) : Int := bif decide (t = 1) then 1 else bif decide (t = 2) then 2147483647 else bif decide (t = 5) then 1000000 else 9223372036854775807
@[go_sem] theorem value_limits (t : Int) : Den prog 203 [.int .i64 t] [] = some (.tup [.int .i64 (loT t), .int .i64 (hiT t)], []) := by
  rw [Den_ofK [] pr_value_limits rfl]
  simp only [loT, hiT]
  cases h1 : decide (t = 1) with
  | true => simp only [f_value_limits, h1, cond_true, cond_false, go_sem]
  | false =>
  cases h2 : decide (t = 2) with
  | true => simp only [f_value_limits, h1, h2, cond_true, cond_false, go_sem]
  | false =>
  cases h3 : decide (t = 5) with
  | true => simp only [f_value_limits, h1, h2, h3, cond_true, cond_false, go_sem]
  | false => simp only [f_value_limits, h1, h2, h3, cond_true, cond_false, go_sem]
def okV (v : Val) (t : Int) : Bool :=
  bif v.null then decide (v.n = 0) && decide (v.s = ⟨#[]⟩) else
  bif decide (t = 4) then decide (v.n = 0) && decide ((v.s.size : Int) ≤ 200) else
  bif decide (t = 3) then decide (v.s = ⟨#[]⟩) else
  decide (v.s = ⟨#[]⟩) && decide (loT t ≤ v.n) && decide (v.n ≤ hiT t)
theorem typeOk_cases {t : Int} (h : typeOk t = true) : t = 1 ∨ t = 2 ∨ t = 3 ∨ t = 4 ∨ t = 5 := by
  simp only [typeOk, Bool.and_eq_true, decide_eq_true_eq] at h; omega
theorem dt11 : decide ((1 : Int) = 1) = true := rfl
theorem dt12 : decide ((1 : Int) = 2) = false := rfl
theorem dt13 : decide ((1 : Int) = 3) = false := rfl
theorem dt14 : decide ((1 : Int) = 4) = false := rfl
theorem dt15 : decide ((1 : Int) = 5) = false := rfl
theorem dt21 : decide ((2 : Int) = 1) = false := rfl
theorem dt22 : decide ((2 : Int) = 2) = true := rfl
theorem dt23 : decide ((2 : Int) = 3) = false := rfl
theorem dt24 : decide ((2 : Int) = 4) = false := rfl
theorem dt25 : decide ((2 : Int) = 5) = false := rfl
theorem dt31 : decide ((3 : Int) = 1) = false := rfl
theorem dt32 : decide ((3 : Int) = 2) = false := rfl
theorem dt33 : decide ((3 : Int) = 3) = true := rfl
theorem dt34 : decide ((3 : Int) = 4) = false := rfl
theorem dt35 : decide ((3 : Int) = 5) = false := rfl
theorem dt41 : decide ((4 : Int) = 1) = false := rfl
theorem dt42 : decide ((4 : Int) = 2) = false := rfl
theorem dt43 : decide ((4 : Int) = 3) = false := rfl
theorem dt44 : decide ((4 : Int) = 4) = true := rfl
theorem dt45 : decide ((4 : Int) = 5) = false := rfl
theorem dt51 : decide ((5 : Int) = 1) = false := rfl
theorem dt52 : decide ((5 : Int) = 2) = false := rfl
theorem dt53 : decide ((5 : Int) = 3) = false := rfl
theorem dt54 : decide ((5 : Int) = 4) = false := rfl
theorem dt55 : decide ((5 : Int) = 5) = true := rfl
@[go_sem] theorem R05_Valid (b : Bool) (n : Int) (s : ByteArray) (t : Int) : Den prog 212 [.agg [.bool b, .int .i64 n, .str s], .int .i64 t] [] = some (.bool (typeOk t && okV ⟨b, n, s⟩ t), []) := by
  rw [Den_ofK [] pr_R05_Valid rfl]
  simp only [okV]
  cases h0 : typeOk t with
  | false => simp only [f_R05_Valid, h0, Bool.false_and, go_sem]
  | true =>
  simp only [Bool.true_and]
  cases b with
  | true =>
    cases h1 : decide (n = 0) <;> cases h2 : decide (s = ⟨#[]⟩) <;>
    simp only [f_R05_Valid, h0, h1, h2, cond_true, cond_false, Bool.true_and, Bool.false_and, go_sem]
  | false =>
  have hw := h0
  rcases typeOk_cases h0 with h | h | h | h | h <;> subst h <;> simp only [cond_false, loT, hiT, show decide ((1 : Int) = 4) = false from rfl, show decide ((1 : Int) = 3) = false from rfl, show decide ((2 : Int) = 4) = false from rfl, show decide ((2 : Int) = 3) = false from rfl, show decide ((3 : Int) = 4) = false from rfl, show decide ((3 : Int) = 3) = true from rfl, show decide ((4 : Int) = 4) = true from rfl, show decide ((5 : Int) = 4) = false from rfl, show decide ((5 : Int) = 3) = false from rfl, show decide ((1 : Int) = 1) = true from rfl, show decide ((2 : Int) = 1) = false from rfl, show decide ((2 : Int) = 2) = true from rfl, show decide ((5 : Int) = 1) = false from rfl, show decide ((5 : Int) = 2) = false from rfl, show decide ((5 : Int) = 5) = true from rfl, cond_true, cond_false]
  · cases h1 : decide (s = ⟨#[]⟩) <;> cases h2 : decide (0 ≤ n) <;> cases h3 : decide (n ≤ 1) <;> simp only [f_R05_Valid, h0, dt11, dt12, dt13, dt14, dt15, dt21, dt22, dt23, dt24, dt25, dt31, dt32, dt33, dt34, dt35, dt41, dt42, dt43, dt44, dt45, dt51, dt52, dt53, dt54, dt55, h1, h2, h3, cond_true, cond_false, Bool.true_and, Bool.false_and, Bool.and_self, go_sem]
  · cases h1 : decide (s = ⟨#[]⟩) <;> cases h2 : decide (-2147483648 ≤ n) <;> cases h3 : decide (n ≤ 2147483647) <;> simp only [f_R05_Valid, h0, dt11, dt12, dt13, dt14, dt15, dt21, dt22, dt23, dt24, dt25, dt31, dt32, dt33, dt34, dt35, dt41, dt42, dt43, dt44, dt45, dt51, dt52, dt53, dt54, dt55, h1, h2, h3, cond_true, cond_false, Bool.true_and, Bool.false_and, Bool.and_self, go_sem]
  · cases h1 : decide (s = ⟨#[]⟩) <;> simp only [f_R05_Valid, h0, dt11, dt12, dt13, dt14, dt15, dt21, dt22, dt23, dt24, dt25, dt31, dt32, dt33, dt34, dt35, dt41, dt42, dt43, dt44, dt45, dt51, dt52, dt53, dt54, dt55, h1, cond_true, cond_false, Bool.true_and, Bool.false_and, Bool.and_self, go_sem]
  · cases h1 : decide (n = 0) <;> cases h2 : decide ((s.size : Int) ≤ 200) <;> simp only [f_R05_Valid, h0, dt11, dt12, dt13, dt14, dt15, dt21, dt22, dt23, dt24, dt25, dt31, dt32, dt33, dt34, dt35, dt41, dt42, dt43, dt44, dt45, dt51, dt52, dt53, dt54, dt55, h1, h2, cond_true, cond_false, Bool.true_and, Bool.false_and, Bool.and_self, go_sem]
  · cases h1 : decide (s = ⟨#[]⟩) <;> cases h2 : decide (-1000000 ≤ n) <;> cases h3 : decide (n ≤ 1000000) <;> simp only [f_R05_Valid, h0, dt11, dt12, dt13, dt14, dt15, dt21, dt22, dt23, dt24, dt25, dt31, dt32, dt33, dt34, dt35, dt41, dt42, dt43, dt44, dt45, dt51, dt52, dt53, dt54, dt55, h1, h2, h3, cond_true, cond_false, Bool.true_and, Bool.false_and, Bool.and_self, go_sem]
theorem value_Valid (b : Bool) (n : Int) (s : ByteArray) (t : Int) (hn : -9223372036854775808 ≤ n ∧ n ≤ 9223372036854775807) : Den prog 204 [.agg [.bool b, .int .i64 n, .str s], .int .i64 t] [] = some (.bool (typeOk t && okV ⟨b, n, s⟩ t), []) := by
  rw [Den_ofK [] pr_value_Valid rfl]
  simp only [okV]
  cases h0 : typeOk t with
  | false => simp only [f_value_Valid, h0, Bool.false_and, go_sem]
  | true =>
  simp only [Bool.true_and]
  cases b with
  | true =>
    cases h1 : decide (n = 0) <;> cases h2 : decide (s = ⟨#[]⟩) <;>
    simp only [f_value_Valid, h0, h1, h2, cond_true, cond_false, Bool.true_and, Bool.false_and, Bool.and_self, go_sem] <;> rfl
  | false =>
  rcases typeOk_cases h0 with h | h | h | h | h <;> subst h <;> simp only [loT, hiT, cond_true, cond_false, dt11, dt12, dt13, dt14, dt15, dt21, dt22, dt23, dt24, dt25, dt31, dt32, dt33, dt34, dt35, dt41, dt42, dt43, dt44, dt45, dt51, dt52, dt53, dt54, dt55]
  · cases h1 : decide (s = ⟨#[]⟩) <;> cases h2 : decide (0 ≤ n) <;> cases h3 : decide (n ≤ 1) <;> simp only [f_value_Valid, loT, hiT, h0, h1, h2, h3, dt11, dt12, dt13, dt14, dt15, dt21, dt22, dt23, dt24, dt25, dt31, dt32, dt33, dt34, dt35, dt41, dt42, dt43, dt44, dt45, dt51, dt52, dt53, dt54, dt55, cond_true, cond_false, Bool.true_and, Bool.false_and, Bool.and_self, go_sem]
  · cases h1 : decide (s = ⟨#[]⟩) <;> cases h2 : decide (-2147483648 ≤ n) <;> cases h3 : decide (n ≤ 2147483647) <;> simp only [f_value_Valid, loT, hiT, h0, h1, h2, h3, dt11, dt12, dt13, dt14, dt15, dt21, dt22, dt23, dt24, dt25, dt31, dt32, dt33, dt34, dt35, dt41, dt42, dt43, dt44, dt45, dt51, dt52, dt53, dt54, dt55, cond_true, cond_false, Bool.true_and, Bool.false_and, Bool.and_self, go_sem]
  · have h2 : decide (-9223372036854775808 ≤ n) = true := decide_eq_true hn.1
    have h3 : decide (n ≤ 9223372036854775807) = true := decide_eq_true hn.2
    cases h1 : decide (s = ⟨#[]⟩) <;> simp only [f_value_Valid, loT, hiT, h0, h1, h2, h3, dt11, dt12, dt13, dt14, dt15, dt21, dt22, dt23, dt24, dt25, dt31, dt32, dt33, dt34, dt35, dt41, dt42, dt43, dt44, dt45, dt51, dt52, dt53, dt54, dt55, cond_true, cond_false, Bool.true_and, Bool.false_and, Bool.and_self, go_sem]
  · cases h1 : decide (n = 0) <;> cases h2 : decide ((s.size : Int) ≤ 200) <;> simp only [f_value_Valid, h0, h1, h2, dt11, dt12, dt13, dt14, dt15, dt21, dt22, dt23, dt24, dt25, dt31, dt32, dt33, dt34, dt35, dt41, dt42, dt43, dt44, dt45, dt51, dt52, dt53, dt54, dt55, cond_true, cond_false, Bool.true_and, Bool.false_and, Bool.and_self, go_sem]
  · cases h1 : decide (s = ⟨#[]⟩) <;> cases h2 : decide (-1000000 ≤ n) <;> cases h3 : decide (n ≤ 1000000) <;> simp only [f_value_Valid, loT, hiT, h0, h1, h2, h3, dt11, dt12, dt13, dt14, dt15, dt21, dt22, dt23, dt24, dt25, dt31, dt32, dt33, dt34, dt35, dt41, dt42, dt43, dt44, dt45, dt51, dt52, dt53, dt54, dt55, cond_true, cond_false, Bool.true_and, Bool.false_and, Bool.and_self, go_sem]
end Go.Den
