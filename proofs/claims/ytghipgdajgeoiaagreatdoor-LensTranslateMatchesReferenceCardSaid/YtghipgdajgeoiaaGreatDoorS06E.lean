/- Package schema: remove, plus behind it, Clone. -/
import Derived.Test.YtghipgdajgeoiaaGreatDoorS06D
namespace Go.Den
open Go
set_option linter.unusedSimpArgs false
set_option linter.unusedVariables false
set_option maxRecDepth 100000
set_option maxHeartbeats 1000000
theorem schema_remove_1 (x : Fld) (id : Int) : Den prog 186 [.agg [.int .i64 x.id, .str x.name, .int .i64 x.type, .int .i64 x.par], .rptr [.int .i64 id]] [] = some (.bool (decide (x.id = id)), []) := by
  rw [Den_ofK [] pr_schema_state_remove_1 rfl]
  simp only [f_schema_state_remove_1, go_sem]
def less (fs : List Fld) (id : Int) : List Fld := fs.filter fun x => !decide (x.id = id)
section
variable (o0 o1 : Ob) (next : Int) (v n : Nat) (tl : List Fld) (fs : List Fld)
theorem schema_remove (id : Int) (hn : n < 1000000000000) (hln : fs.length + tl.length = n) :
    ∃ tl' : List Fld, (less fs id).length + tl'.length = n ∧ Den prog 189 [.ref 3 0, .int .i64 id] [o0, o1, .arr v 4 ((fs ++ tl).map Fld.cells), .cells [.osl 2 v n 0 fs.length, .int .i64 next]] =
      some (.tup [], [o0, o1, .arr v 4 ((less fs id ++ tl').map Fld.cells), .cells [.osl 2 v n 0 (less fs id).length, .int .i64 next]]) := by
  obtain ⟨tl', h1, h2⟩ := delete_field o0 o1 (.cells [.osl 2 v n 0 fs.length, .int .i64 next]) v 186 [.rptr [.int .i64 id]] (fun x => decide (x.id = id)) tl n rfl rfl rfl fs hn hln (fun x _ => schema_remove_1 x id)
  refine ⟨tl', h1, ?_⟩
  unfold less
  rw [Den_ofK _ pr_schema_state_remove rfl]
  generalize ((fs.filter fun x => !decide (x.id = id)) ++ tl').map Fld.cells = E2 at *
  generalize (fs ++ tl).map Fld.cells = E at *
  simp only [f_schema_state_remove, h2, go_sem]
theorem schema_plusT (nm : ByteArray) (ty pa : Int) (hn : n < 1000000000000) (hln : fs.length + tl.length = n) (ht : 0 < tl.length) (h0 : 0 ≤ next) (h1 : next < 1000000000000) :
    Den prog 185 [.ref 3 0, .str nm, .int .i64 ty, .int .i64 pa] [o0, o1, .arr v 4 ((fs ++ tl).map Fld.cells), .cells [.osl 2 v n 0 fs.length, .int .i64 next]] =
      some (.tup [], [o0, o1, Ob.arr (v + 1) 4 ((fs ++ [(⟨next, nm, ty, pa⟩ : Fld)]).map Fld.cells), Ob.cells [AV.osl 2 (v + 1) (fs ++ [(⟨next, nm, ty, pa⟩ : Fld)]).length 0 (fs ++ [(⟨next, nm, ty, pa⟩ : Fld)]).length, AV.int IntKind.i64 (next + 1)]]) := by
  rw [Den_ofK _ pr_schema_state_plus rfl]
  have hw : IntKind.wrap .i64 (next + 1) = next + 1 := wrap_i64 (by omega) (by omega)
  have hb : (fs.length + 1) * 40 ≤ 140737488355328 := by omega
  have hE : ((fs ++ tl).map Fld.cells).length = n := by simp; omega
  have htk : ((fs ++ tl).map Fld.cells).take fs.length = fs.map Fld.cells := by
    rw [List.map_append, List.take_left' (by simp)]
  have hlt : fs.length < n := by omega
  have happ : ∀ (τ : St) (pr : Bool) (ys : List (List AV)) (t : Bool), szOKb 4 ys = true → ys.length = 1 → τ[2]? = some (.arr v 4 ((fs ++ tl).map Fld.cells)) → appV pr 4 40 (.osl 2 v n 0 fs.length) τ (some (ys, t)) = some (.osl 2 (v + 1) (fs.length + 1) 0 (fs.length + 1), τ.set 2 (.arr (v + 1) 4 (fs.map Fld.cells ++ ys)), true) := by
    intro τ pr ys t hs hy ho
    rw [appV_part τ pr 4 40 2 v n fs.length ys _ t hs ho hE hlt (by decide) (by rw [hy]; omega), htk, hy]
  clear htk
  generalize (fs ++ tl).map Fld.cells = E at *
  simp only [f_schema_state_plus, hw, happ, go_sem]
theorem slices_Clone (hL : fs.length < 1000000000000) : Den prog 198 [.sl (fs.map Fld.cells)] [] = some (.osl 0 0 fs.length 0 fs.length, [.arr 0 4 (fs.map Fld.cells)]) := by
  have hb : fs.length * 40 ≤ 140737488355328 := by omega
  cases fs with
  | nil =>
    refine Den_two [] pr_slices_Clone_api_Field_api_Field rfl rfl ?_ ?_ rfl rfl
    · simp only [f_slices_Clone_api_Field_api_Field, go_sem]
    · simp only [f_slices_Clone_api_Field_api_Field, go_sem]
  | cons x r =>
    have hz := szOKb_map 4 Fld.cells (x :: r) (fun x => rfl)
    rw [List.map_cons, Den_one [] pr_slices_Clone_api_Field_api_Field rfl]
    rw [List.map_cons] at hz
    obtain ⟨c, hc⟩ : ∃ c, c = x.cells := ⟨_, rfl⟩
    have hcl : c.length = 4 := by rw [hc]; rfl
    rw [← hc] at hz ⊢
    simp only [List.length_cons] at hb
    simp only [f_slices_Clone_api_Field_api_Field, hb, hcl, go_sem]
end
end Go.Den
