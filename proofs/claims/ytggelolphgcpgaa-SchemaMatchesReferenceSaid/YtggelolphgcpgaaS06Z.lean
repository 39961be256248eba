/- R06.Same, schema.Leaves, R06.Path, R06.Find. -/
import Derived.Test.YtggelolphgcpgaaS06T
import Derived.Test.YtggelolphgcpgaaS06L
namespace Go.Den
open Go
set_option linter.unusedSimpArgs false
set_option linter.unusedVariables false
set_option maxRecDepth 100000
set_option maxHeartbeats 1000000
theorem Same_refl (fs : List Fld) (next : Int) (hL : fs.length < 1000000000000000) : Den prog 207 [.agg [.sl (fs.map Fld.cells), .int .i64 next], .agg [.sl (fs.map Fld.cells), .int .i64 next]] [] = some (.bool true, []) := by
  rw [Den_ofK [] pr_R06_Same rfl]
  simp only [f_R06_Same, go_sem]
  refine range_ind fs hL (fun i (_ : Unit) => (Run prog 0 (.loop 0 [2, 3, 5] f_R06_Same_l0) [(2, .rptr [.sl (fs.map Fld.cells), .int .i64 next]), (3, .rptr [.sl (fs.map Fld.cells), .int .i64 next]), (5, .int .i64 i)] []).bind _ = _) (fun _ _ _ => True) ?_ ?_ () trivial
  · intro _ _
    rw [Run_loop]
    simp only [f_R06_Same_l0_eq, f_R06_Same_l0u, go_sem]
  · intro i pre rest x _ _ _ _ _ hx hc hw _ ih
    have ih := ih () trivial
    rw [Run_loop]
    simp only [f_R06_Same_l0_eq, f_R06_Same_l0u, hx, hc, hw, ih, go_sem]
@[go_sem] theorem schema_Leaves (fs : List Fld) (n : Int) (hL : fs.length < 1000000000000) : Den prog 215 [.agg [.sl (fs.map Fld.cells), .int .i64 n]] [] = some (.sl ((leavesS fs).map icell), []) := by
  rw [Den_ofK [] pr_schema_Leaves rfl]
  simp only [f_schema_Leaves, go_sem]
  refine range_ind fs (by omega) (fun i (out : List Int) => (Run prog 0 (.loop 1 [3, 7, 8, 9] f_schema_Leaves_l0) [(3, .osl 0 0 out.length 0 out.length), (7, .sl (fs.map Fld.cells)), (8, .int .i64 fs.length), (9, .int .i64 i)] [.arr 0 1 (out.map icell)]).bind _ = _)
    (fun i rest out => out ++ leavesS rest = leavesS fs ∧ (out.length : Int) ≤ i) ?_ ?_ [] ⟨by simp, by simp⟩
  · intro out ⟨h, _⟩
    have h : leavesS fs = out := by rw [← h]; simp [leavesS]
    rw [h, Run_loop]
    simp only [f_schema_Leaves_l0_eq, f_schema_Leaves_l0u, go_sem]
  · intro i pre rest x out hp _ hi0 hi1 hx hc hw ⟨h, hl⟩ ih
    have hb : (out.length + 1) * 8 ≤ 140737488355328 := by clear hw hx hc ih h hp; omega
    rw [Run_loop]
    cases hk : decide (x.type = 6) with
    | false =>
      have ih := ih (out ++ [x.id]) ⟨by rw [← h]; simp [leavesS, isLeaf, hk], by simp; omega⟩
      clear h hp
      simp only [go_sem] at ih
      simp only [f_schema_Leaves_l0_eq, f_schema_Leaves_l0u, hx, hc, hw, hk, hb, ih, go_sem]
    | true =>
      have ih := ih out ⟨by rw [← h]; simp [leavesS, isLeaf, hk], by omega⟩
      clear h hp
      simp only [f_schema_Leaves_l0_eq, f_schema_Leaves_l0u, hx, hc, hw, hk, ih, go_sem]
/-- The path in front of what is there. -/
def pathJ (a b : List UInt8) : List UInt8 := if b = [] then a else if a = [] then b else a ++ 46 :: b
theorem pathB_no {fs : List Fld} {id : Int} (h : hasF fs id = false) (k : Nat) : pathB fs k id = ⟨#[]⟩ := by
  unfold pathB
  cases k with
  | zero => rfl
  | succ k => rw [pathL, h]; rfl
theorem bytes_nil {b : ByteArray} : decide (b = (⟨#[]⟩ : ByteArray)) = decide (b.data.toList = []) := by
  rw [Bool.eq_iff_iff, decide_eq_true_eq, decide_eq_true_eq]
  exact ⟨fun e => by rw [e], fun e => bytes_ext (by rw [e])⟩
theorem size_list (b : ByteArray) : b.data.toList.length = b.size := by rw [Array.length_toList]; rfl
theorem pathJ_nil (a : List UInt8) : pathJ a [] = a := if_pos rfl
theorem pathJ_none (b : List UInt8) : pathJ [] b = b := by unfold pathJ; split <;> simp_all
theorem R06_Path_l0 {fs : List Fld} {next : Int} (s : SV fs next) (R : ByteArray) {β : Type} {K : Ex × Env × St → Option β} {Z : Option β} (hK : ∀ σ, K (.ret, [(4, .str R)], σ) = Z) : ∀ (k : Nat) (id : Int) (out : ByteArray), (Dp fs k id ∨ hasF fs id = false) → out.size + 33 * k ≤ 1000 → (pathJ (pathL fs (k + 1) id) out.data.toList) = R.data.toList →
    (Run prog 0 (.loop 0 [1, 2, 5] f_R06_Path_l0) [(1, .int .i64 id), (2, .rptr [.sl (fs.map Fld.cells), .int .i64 next]), (5, .str out)] []).bind K = Z := by
  have hL2 : fs.length < 1000000000000000 := by have := s.i.len; omega
  have stop : ∀ (id : Int) (out : ByteArray), hasF fs id = false → out = R → (Run prog 0 (.loop 0 [1, 2, 5] f_R06_Path_l0) [(1, .int .i64 id), (2, .rptr [.sl (fs.map Fld.cells), .int .i64 next]), (5, .str out)] []).bind K = Z := by
    intro id out h e
    subst e
    rw [Run_loop]
    simp only [f_R06_Path_l0_eq, f_R06_Path_l0u, hL2, h, hK, go_sem]
  have gone : ∀ (k : Nat) (id : Int) (out : ByteArray), hasF fs id = false → (pathJ (pathL fs (k + 1) id) out.data.toList) = R.data.toList → out = R := by
    intro k id out h e
    rw [pathL, h] at e
    simp only [Bool.false_eq_true, if_false, pathJ_none] at e
    exact bytes_ext e
  intro k
  induction k with
  | zero =>
    intro id out hd _ hR
    have h0 : hasF fs id = false := by
      rcases hd with h | h
      · rw [show id = 0 from h]; exact s.no0
      · exact h
    exact stop id out h0 (gone 0 id out h0 hR)
  | succ k ih =>
    intro id out hd hs hR
    by_cases h0 : hasF fs id = false
    · exact stop id out h0 (gone _ id out h0 hR)
    have h0 : hasF fs id = true := by simpa using h0
    have hd2 : Dp fs k (getF fs id).par := by
      rcases hd with h | h
      · rcases h with rfl | ⟨_, h⟩
        · rw [s.no0] at h0; cases h0
        · exact h
      · rw [h] at h0; cases h0
    have nn := nameOk_list (s.nm _ (getF_id h0).2)
    have ns : (getF fs id).name.size ≤ 32 := by
      have := size_list (getF fs id).name
      omega
    have one : (⟨#[46]⟩ : ByteArray).size = 1 := rfl
    rw [pathL_some h0] at hR
    have ih := ih (getF fs id).par
    rw [Run_loop]
    by_cases hz : out.data.toList = []
    · have he : decide (out = (⟨#[]⟩ : ByteArray)) = true := by rw [bytes_nil]; simpa using hz
      have ih := ih (getF fs id).name (.inl hd2) (by omega) (by
        rw [← hR, hz, pathJ_nil]
        unfold pathJ
        rw [if_neg nn.1])
      simp only [f_R06_Path_l0_eq, f_R06_Path_l0u, hL2, h0, he, ih, go_sem]
    · have he : decide (out = (⟨#[]⟩ : ByteArray)) = false := by rw [bytes_nil]; simpa using hz
      have c1 : (getF fs id).name.size + (⟨#[46]⟩ : ByteArray).size ≤ 9223372036854775807 := by omega
      have c2 : ((getF fs id).name ++ (⟨#[46]⟩ : ByteArray)).size + out.size ≤ 9223372036854775807 := by rw [ByteArray.size_append]; omega
      have k1 := bin_cat .num (getF fs id).name ⟨#[46]⟩ c1
      have k2 := bin_cat .num ((getF fs id).name ++ ⟨#[46]⟩) out c2
      have ih := ih ((getF fs id).name ++ ⟨#[46]⟩ ++ out) (.inl hd2) (by rw [ByteArray.size_append, ByteArray.size_append]; omega) (by
        rw [← hR]
        have e : ((getF fs id).name ++ (⟨#[46]⟩ : ByteArray) ++ out).data.toList = (getF fs id).name.data.toList ++ 46 :: out.data.toList := by simp [ByteArray.data_append]
        rw [e]
        unfold pathJ
        rw [if_neg hz, if_neg (by simp)]
        by_cases hp : pathL fs (k + 1) (getF fs id).par = []
        · rw [if_pos hp, if_pos hp, if_neg nn.1]
        · rw [if_neg hp, if_neg hp, if_neg (by simp)]
          simp)
      simp only [f_R06_Path_l0_eq, f_R06_Path_l0u, hL2, h0, he, k1, k2, ih, go_sem]
theorem dp_any {fs : List Fld} {next : Int} (s : SV fs next) (id : Int) : Dp fs 8 id ∨ hasF fs id = false := by
  cases h : hasF fs id with
  | false => exact .inr rfl
  | true =>
    obtain ⟨h1, h2⟩ := getF_id h
    have := s.dp _ h2
    rw [h1] at this
    exact .inl this
theorem R06_Path {fs : List Fld} {next : Int} (s : SV fs next) (id : Int) : Den prog 214 [.agg [.sl (fs.map Fld.cells), .int .i64 next], .int .i64 id] [] = some (.str (pathB fs 9 id), []) := by
  rw [Den_ofK [] pr_R06_Path rfl]
  simp only [f_R06_Path, go_sem]
  refine R06_Path_l0 s (pathB fs 9 id) (fun _ => ?_) 8 id ⟨#[]⟩ (dp_any s id) (by decide) (by unfold pathB; rw [pathJ_nil])
  simp only [go_sem]
theorem schema_PathA {fs : List Fld} {next : Int} (s : SV fs next) (id : Int) : Den prog 201 [.agg [.sl (fs.map Fld.cells), .int .i64 next], .int .i64 id] [] = some (.str (pathB fs 9 id), []) := by
  rcases dp_any s id with h | h
  · exact schema_Path s 8 id (by decide) h
  · have hL2 : fs.length < 1000000000000000 := by have := s.i.len; omega
    rw [pathB_no h, Den_ofK [] pr_schema_Path rfl]
    simp only [f_schema_Path, hL2, h, go_sem]
theorem R06_Find {fs : List Fld} {next : Int} (s : SV fs next) (p : ByteArray) : Den prog 216 [.agg [.sl (fs.map Fld.cells), .int .i64 next], .str p] [] =
    some (.tup [.int .i64 (match fndP fs p fs with | some f => f.id | none => 0), .bool (fndP fs p fs).isSome], []) := by
  have hl : fs.length < 1000000000000000 := by have := s.i.len; omega
  rw [Den_ofK [] pr_R06_Find rfl]
  simp only [f_R06_Find, go_sem]
  refine range_ind fs hl (fun i (_ : Unit) => (Run prog 0 (.loop 0 [1, 2, 6] f_R06_Find_l0) [(1, .str p), (2, .rptr [.sl (fs.map Fld.cells), .int .i64 next]), (6, .int .i64 i)] []).bind _ = _)
    (fun i rest _ => fndP fs p rest = fndP fs p fs) ?_ ?_ () rfl
  · intro _ h
    rw [← h, Run_loop]
    simp only [fndP, List.find?_nil, Option.isSome_none]
    simp only [f_R06_Find_l0_eq, f_R06_Find_l0u, go_sem]
  · intro i pre rest x _ hq _ _ _ hx hc hw h ih
    have hP := R06_Path s x.id
    unfold fndP at h
    rw [List.find?_cons] at h
    rw [Run_loop]
    cases d : decide (pathB fs 9 x.id = p) with
    | true =>
      rw [d] at h
      simp only [] at h
      unfold fndP
      rw [← h]
      simp only [Option.isSome_some]
      generalize pathB fs 9 x.id = B at *
      simp only [f_R06_Find_l0_eq, f_R06_Find_l0u, hx, hc, hw, hP, d, go_sem]
    | false =>
      rw [d] at h
      have ih := ih () h
      generalize pathB fs 9 x.id = B at *
      simp only [f_R06_Find_l0_eq, f_R06_Find_l0u, hx, hc, hw, hP, d, ih, go_sem]
end Go.Den
