/- Package schema: what is read. -/
import Derived.Test.YtghipgdajgeoiaaGreatDoorS06
namespace Go.Den
open Go
set_option linter.unusedSimpArgs false
set_option linter.unusedVariables false
set_option maxRecDepth 100000
set_option maxHeartbeats 1000000
theorem IndexFunc_Fld (L : List Fld) (hL : L.length < 1000000000000000) (f : Nat) (caps : List AV) (p : Fld → Bool) (hcn : norms caps = caps) (hcr : norefs caps = true)
    (hp : ∀ x ∈ L, Den prog f (.agg [.int .i64 x.id, .str x.name, .int .i64 x.type, .int .i64 x.par] :: caps) [] = some (.bool (p x), [])) : Den prog 173 [.sl (L.map Fld.cells), .fn f caps] [] = some (.int .i64 (idxF p 0 L), []) := by
  rw [Den_ofK [] pr_slices_IndexFunc_api_Field_api_Field rfl]
  simp only [f_slices_IndexFunc_api_Field_api_Field, go_sem]
  refine range_ind L hL (fun i (_ : Unit) => (Run prog 0 (.loop 0 [0, 1, 7, 8] f_slices_IndexFunc_api_Field_api_Field_l0) [(0, .sl (L.map Fld.cells)), (1, .fn f caps), (7, .int .i64 L.length), (8, .int .i64 i)] []).bind _ = _)
    (fun i rest _ => idxF p i rest = idxF p 0 L) ?_ ?_ () rfl
  · intro _ h
    rw [← h, Run_loop]
    simp only [f_slices_IndexFunc_api_Field_api_Field_l0_eq, f_slices_IndexFunc_api_Field_api_Field_l0u, idxF, go_sem]
  · intro i pre rest x _ hq _ hi0 hi1 hx hc hw h ih
    have hm := hp x (by rw [hq]; simp)
    rw [idxF] at h
    rw [Run_loop]
    cases d : p x with
    | true =>
      rw [d, cond_true] at h
      rw [← h]
      rw [d] at hm
      simp only [f_slices_IndexFunc_api_Field_api_Field_l0_eq, f_slices_IndexFunc_api_Field_api_Field_l0u, hx, hc, hw, hcn, hcr, hm, List.cons_append, List.nil_append, go_sem]
    | false =>
      rw [d, cond_false] at h
      rw [d] at hm
      have ih := ih () h
      simp only [f_slices_IndexFunc_api_Field_api_Field_l0_eq, f_slices_IndexFunc_api_Field_api_Field_l0u, hx, hc, hw, hcn, hcr, hm, ih, List.cons_append, List.nil_append, go_sem]
theorem ContainsFunc_Fld (L : List Fld) (hL : L.length < 1000000000000000) (f : Nat) (caps : List AV) (p : Fld → Bool) (hcn : norms caps = caps) (hcr : norefs caps = true)
    (hp : ∀ x ∈ L, Den prog f (.agg [.int .i64 x.id, .str x.name, .int .i64 x.type, .int .i64 x.par] :: caps) [] = some (.bool (p x), [])) : Den prog 180 [.sl (L.map Fld.cells), .fn f caps] [] = some (.bool (L.any p), []) := by
  have h := IndexFunc_Fld L hL f caps p hcn hcr hp
  have h2 := idxF_ge p L 0 (by omega)
  rw [Den_ofK [] pr_slices_ContainsFunc_api_Field_api_Field rfl]
  simp only [f_slices_ContainsFunc_api_Field_api_Field, h, hcn, hcr, h2, go_sem]
theorem schema_index_1 (x : Fld) (id : Int) : Den prog 172 [.agg [.int .i64 x.id, .str x.name, .int .i64 x.type, .int .i64 x.par], .rptr [.int .i64 id]] [] = some (.bool (decide (x.id = id)), []) := by
  rw [Den_ofK [] pr_schema_index_1 rfl]
  simp only [f_schema_index_1, go_sem]
def idx (fs : List Fld) (id : Int) : Int := idxF (fun x => decide (x.id = id)) 0 fs
@[go_sem] theorem schema_index (fs : List Fld) (n id : Int) (hL : fs.length < 1000000000000000) : Den prog 174 [.agg [.sl (fs.map Fld.cells), .int .i64 n], .int .i64 id] [] = some (.int .i64 (idx fs id), []) := by
  have h := IndexFunc_Fld fs hL 172 [.rptr [.int .i64 id]] (fun x => decide (x.id = id)) rfl rfl (fun x _ => schema_index_1 x id)
  rw [Den_ofK [] pr_schema_index rfl]
  simp only [f_schema_index, h, idx, List.take_length, go_sem]
theorem idx_has (fs : List Fld) (id : Int) : decide (0 ≤ idx fs id) = hasF fs id := idxF_ge _ fs 0 (by omega)
theorem idxF_get {α : Type} (p : α → Bool) : ∀ (L : List α) (i : Int), 0 ≤ i → 0 ≤ idxF p i L → i ≤ idxF p i L ∧ ∃ x, L[(idxF p i L - i).toNat]? = some x ∧ p x = true ∧ L.find? p = some x
  | [], i, h0, h => by simp [idxF] at h
  | x :: r, i, h0, h => by
    rw [idxF] at h ⊢
    cases hp : p x with
    | true => simp [hp]
    | false =>
      rw [hp, cond_false] at h
      simp only [cond_false]
      obtain ⟨h1, y, h2, h3, h4⟩ := idxF_get p r (i + 1) (by omega) h
      refine ⟨by omega, y, ?_, h3, ?_⟩
      · have : (idxF p (i + 1) r - i).toNat = (idxF p (i + 1) r - (i + 1)).toNat + 1 := by omega
        rw [this]; simpa using h2
      · rw [List.find?_cons, hp]; exact h4
theorem getF_find (fs : List Fld) (id : Int) : getF fs id = (fs.find? fun x => decide (x.id = id)).getD noF := by
  induction fs with
  | nil => rfl
  | cons x r ih =>
    rw [getF, List.find?_cons]
    by_cases h : x.id = id
    · simp [h]
    · simp [h, ih]
theorem idx_get {fs : List Fld} {id : Int} (h : hasF fs id = true) : 0 ≤ idx fs id ∧ getE fs (idx fs id) = some (getF fs id) ∧ (idx fs id) < fs.length := by
  have h0 : 0 ≤ idx fs id := by rw [← idx_has] at h; simpa using h
  obtain ⟨h1, x, h2, h3, h4⟩ := idxF_get (fun x : Fld => decide (x.id = id)) fs 0 (by omega) h0
  have hx : getF fs id = x := by rw [getF_find, h4]; rfl
  have e : (idxF (fun x : Fld => decide (x.id = id)) 0 fs - 0).toNat = (idx fs id).toNat := by unfold idx; simp
  rw [e] at h2
  have hl := (List.getElem?_eq_some_iff.1 h2).1
  refine ⟨h0, ?_, by omega⟩
  rw [hx, ← h2]
  unfold getE
  simp [h0]
@[go_sem] theorem schema_Field (fs : List Fld) (n id : Int) (hL : fs.length < 1000000000000000) : Den prog 175 [.agg [.sl (fs.map Fld.cells), .int .i64 n], .int .i64 id] [] =
    some (.tup [.agg [.int .i64 (getF fs id).id, .str (getF fs id).name, .int .i64 (getF fs id).type, .int .i64 (getF fs id).par], .bool (hasF fs id)], []) := by
  have hi := idx_has fs id
  rw [Den_ofK [] pr_schema_Field rfl]
  cases d : hasF fs id with
  | true =>
    rw [d] at hi
    obtain ⟨h0, h1, h2⟩ := idx_get d
    simp only [f_schema_Field, hL, hi, h0, h1, go_sem]
  | false =>
    rw [d] at hi
    have : getF fs id = noF := by
      rw [getF_find]
      have : (fs.find? fun x => decide (x.id = id)) = none := by
        rw [List.find?_eq_none]
        unfold hasF at d
        rw [List.any_eq_false] at d
        exact d
      rw [this]; rfl
    rw [this]
    simp only [f_schema_Field, hL, hi, noF, go_sem]
@[go_sem] theorem schema_group (fs : List Fld) (n id : Int) (hL : fs.length < 1000000000000000) : Den prog 182 [.agg [.sl (fs.map Fld.cells), .int .i64 n], .int .i64 id] [] = some (.bool (groupOk fs id), []) := by
  rw [Den_ofK [] pr_schema_group rfl]
  unfold groupOk
  cases d : decide (id = 0) with
  | true => simp only [f_schema_group, hL, d, go_sem]
  | false => cases d2 : hasF fs id with
    | true => simp only [f_schema_group, hL, d, d2, go_sem]
    | false => simp only [f_schema_group, hL, d, d2, go_sem]
end Go.Den
