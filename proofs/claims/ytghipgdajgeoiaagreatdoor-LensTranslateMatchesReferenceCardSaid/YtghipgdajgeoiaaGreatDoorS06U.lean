/- R06.Fits and schema.Fits: whether a row fits a schema. -/
import Derived.Test.YtghipgdajgeoiaaGreatDoorS06T
namespace Go.Den
open Go
set_option linter.unusedSimpArgs false
set_option linter.unusedVariables false
set_option maxRecDepth 100000
set_option maxHeartbeats 1000000
@[go_sem] theorem beq_ff : (false == false) = true := rfl
@[go_sem] theorem beq_tt : (true == true) = true := rfl
@[go_sem] theorem beq_tf : (true == false) = false := rfl
@[go_sem] theorem beq_ft : (false == true) = false := rfl
/-- A cell fits: its field is a leaf, its value is not null and keeps to the type. -/
def fitC (fs : List Fld) (c : Cell) : Bool := hasF fs c.id && (!decide ((getF fs c.id).type = 6) && (!c.v.null && (typeOk (getF fs c.id).type && okV c.v (getF fs c.id).type)))
def fitsS (fs : List Fld) : Int → List Cell → Bool
  | _, [] => true
  | p, c :: r => (fitC fs c && decide (p < c.id)) && fitsS fs c.id r
theorem hasF_pos {fs : List Fld} (h1 : ∀ f ∈ fs, 1 ≤ f.id) {id : Int} (h : hasF fs id = true) : 1 ≤ id := by
  obtain ⟨a, b⟩ := getF_id h
  have := h1 _ b; omega
theorem R06_Fits (fs : List Fld) (n : Int) (r : List Cell) (hF : fs.length < 1000000000000000) (hL : r.length < 1000000000000000) (h1 : ∀ f ∈ fs, 1 ≤ f.id) :
    Den prog 213 [.agg [.sl (fs.map Fld.cells), .int .i64 n], .agg [.sl (r.map Cell.cells)]] [] = some (.bool (fitsS fs 0 r), []) := by
  rw [Den_ofK [] pr_R06_Fits rfl]
  simp only [f_R06_Fits, go_sem]
  refine range_ind r hL (fun i (_ : Int) => (Run prog 0 (.loop 0 [2, 3, 5] f_R06_Fits_l0) [(2, .rptr [.sl (fs.map Fld.cells), .int .i64 n]), (3, .rptr [.sl (r.map Cell.cells)]), (5, .int .i64 i)] []).bind _ = _)
    (fun i rest p => fitsS fs p rest = fitsS fs 0 r ∧ (i = 0 ∧ p = 0 ∨ 0 < i ∧ ∃ y, getE r (i - 1) = some y ∧ p = y.id)) ?_ ?_ 0 ⟨rfl, .inl ⟨rfl, rfl⟩⟩
  · intro p ⟨h, _⟩
    rw [← h, Run_loop]
    simp only [f_R06_Fits_l0_eq, f_R06_Fits_l0u, fitsS, go_sem]
  · intro i pre rest x p hp _ hi0 hi1 hx hc hw ⟨h, hy⟩ ih
    have ih := fun h' => ih x.id ⟨h', .inr ⟨by omega, x, by rw [show i + 1 - 1 = i by omega]; exact hx, rfl⟩⟩
    rw [fitsS] at h
    rw [← h] at ih ⊢
    clear h hp
    obtain ⟨ci, b, m, s⟩ := x
    rw [Run_loop]
    simp only [fitC]
    cases h1' : hasF fs ci with
    | false => simp only [f_R06_Fits_l0_eq, f_R06_Fits_l0u, hF, hx, hc, hw, h1', Bool.false_and, go_sem]
    | true =>
    have hps := hasF_pos h1 h1'
    cases h2 : decide ((getF fs ci).type = 6) with
    | true => simp only [f_R06_Fits_l0_eq, f_R06_Fits_l0u, hF, hx, hc, hw, h1', h2, Bool.false_and, Bool.and_false, Bool.not_true, go_sem]
    | false => cases b with
      | true => simp only [f_R06_Fits_l0_eq, f_R06_Fits_l0u, hF, hx, hc, hw, h1', h2, Bool.false_and, Bool.and_false, Bool.not_true, go_sem]
      | false => cases h3 : typeOk (getF fs ci).type && okV ⟨false, m, s⟩ (getF fs ci).type with
        | false => simp only [f_R06_Fits_l0_eq, f_R06_Fits_l0u, hF, hx, hc, hw, h1', h2, h3, Bool.false_and, Bool.and_false, Bool.not_true, go_sem]
        | true =>
          simp only [fitC, h1', h2, h3, Bool.not_false, Bool.and_self, Bool.true_and] at ih
          rcases hy with ⟨hi, rfl⟩ | ⟨hi, y, hy, rfl⟩
          · have d0 : decide (0 < i) = false := by simp; omega
            have d1 : decide (0 < ci) = true := by simp; omega
            have ih := ih (by rw [d1]; rfl)
            simp only [f_R06_Fits_l0_eq, f_R06_Fits_l0u, hF, hx, hc, hw, h1', h2, h3, d0, d1, ih, Bool.true_and, Bool.not_false, Bool.and_self, go_sem]
          · have d0 : decide (0 < i) = true := by simpa using hi
            have hwm : IntKind.wrap .i64 (i - 1) = i - 1 := wrap_i64 (by omega) (by omega)
            cases d1 : decide (y.id < ci) with
            | false =>
              have d2 : decide (ci ≤ y.id) = true := by simp at d1 ⊢; omega
              simp only [f_R06_Fits_l0_eq, f_R06_Fits_l0u, hF, hx, hc, hw, h1', h2, h3, d0, d1, d2, hy, hwm, Bool.true_and, Bool.not_false, Bool.and_self, Bool.false_and, Bool.and_false, go_sem]
            | true =>
              have d2 : decide (ci ≤ y.id) = false := by simp at d1 ⊢; omega
              have ih := ih (by rw [d1]; rfl)
              simp only [d1] at ih
              simp only [f_R06_Fits_l0_eq, f_R06_Fits_l0u, hF, hx, hc, hw, h1', h2, h3, d0, d1, d2, hy, hwm, ih, Bool.true_and, Bool.not_false, Bool.and_self, go_sem]
def i64B (n : Int) : Prop := -9223372036854775808 ≤ n ∧ n ≤ 9223372036854775807
theorem schema_Fits (fs : List Fld) (n : Int) (r : List Cell) (hF : fs.length < 1000000000000000) (hL : r.length < 1000000000000000) (hb : ∀ c ∈ r, i64B c.v.n) :
    Den prog 208 [.agg [.sl (fs.map Fld.cells), .int .i64 n], .agg [.sl (r.map Cell.cells)]] [] = some (.bool (fitsS fs 0 r), []) := by
  rw [Den_ofK [] pr_schema_Fits rfl]
  simp only [f_schema_Fits, go_sem]
  refine range_ind r hL (fun i (p : Int) => (Run prog 0 (.loop 0 [2, 5, 11, 12, 13] f_schema_Fits_l0) [(2, .rptr [.sl (fs.map Fld.cells), .int .i64 n]), (5, .int .i64 p), (11, .sl (r.map Cell.cells)), (12, .int .i64 r.length), (13, .int .i64 i)] []).bind _ = _)
    (fun i rest p => fitsS fs p rest = fitsS fs 0 r) ?_ ?_ 0 rfl
  · intro p h
    rw [← h, Run_loop]
    simp only [f_schema_Fits_l0_eq, f_schema_Fits_l0u, fitsS, go_sem]
  · intro i pre rest x p hp _ hi0 hi1 hx hc hw h ih
    have ih := ih x.id
    have hbx := hb x (by rw [hp]; simp)
    rw [fitsS] at h
    rw [← h] at ih ⊢
    clear h hp
    obtain ⟨ci, b, m, s⟩ := x
    have hv := value_Valid b m s (getF fs ci).type hbx
    clear hbx hb
    rw [Run_loop]
    simp only [fitC]
    cases h1' : hasF fs ci with
    | false => simp only [f_schema_Fits_l0_eq, f_schema_Fits_l0u, hF, hx, hc, hw, h1', Bool.false_and, go_sem]
    | true =>
    cases d1 : decide (p < ci) with
    | false =>
      have d2 : decide (ci ≤ p) = true := by simp at d1 ⊢; omega
      simp only [f_schema_Fits_l0_eq, f_schema_Fits_l0u, hF, hx, hc, hw, h1', d2, Bool.false_and, Bool.and_false, go_sem]
    | true =>
    have d2 : decide (ci ≤ p) = false := by simp at d1 ⊢; omega
    cases h2 : decide ((getF fs ci).type = 6) with
    | true => simp only [f_schema_Fits_l0_eq, f_schema_Fits_l0u, hF, hx, hc, hw, h1', h2, d2, Bool.false_and, Bool.and_false, Bool.not_true, go_sem]
    | false => cases b with
      | true => simp only [f_schema_Fits_l0_eq, f_schema_Fits_l0u, hF, hx, hc, hw, h1', h2, d2, Bool.false_and, Bool.and_false, Bool.not_true, go_sem]
      | false => cases h3 : typeOk (getF fs ci).type && okV ⟨false, m, s⟩ (getF fs ci).type with
        | false => simp only [f_schema_Fits_l0_eq, f_schema_Fits_l0u, hF, hx, hc, hw, h1', h2, hv, h3, d2, Bool.false_and, Bool.and_false, Bool.not_true, go_sem]
        | true =>
          simp only [fitC, h1', h2, h3, d1, Bool.not_false, Bool.and_self, Bool.true_and, forall_const] at ih
          simp only [f_schema_Fits_l0_eq, f_schema_Fits_l0u, hF, hx, hc, hw, h1', h2, hv, h3, d2, ih, Bool.true_and, Bool.not_false, Bool.and_self, go_sem]
end Go.Den
