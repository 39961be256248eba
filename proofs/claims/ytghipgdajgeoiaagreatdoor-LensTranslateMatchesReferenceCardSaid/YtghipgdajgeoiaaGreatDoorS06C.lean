/- Package schema: ancestors; adding and removing fields. -/
import Derived.Test.YtghipgdajgeoiaaGreatDoorS06B
namespace Go.Den
open Go
set_option linter.unusedSimpArgs false
set_option linter.unusedVariables false
set_option maxRecDepth 100000
set_option maxHeartbeats 1000000
theorem finV_nil4 (σ : St) : finV .no 4 σ [] = some (.tup [], σ.take 4) := rfl
attribute [go_sem] finV_nil4
section
variable (o0 o1 : Ob) (fs : List Fld) (next : Int) (v : Nat)
theorem schema_full (n : Int) (h0 : 0 ≤ n) (h1 : n < 1000) : Den prog 184 [.ref 3 0, .int .i64 n] ([o0, o1, Ob.arr v 4 (fs.map Fld.cells), Ob.cells [AV.osl 2 v fs.length 0 fs.length, AV.int IntKind.i64 next]] : St) = some (.bool (decide (64 ≤ (fs.length : Int)) || decide (1073741824 - n < next)), ([o0, o1, Ob.arr v 4 (fs.map Fld.cells), Ob.cells [AV.osl 2 v fs.length 0 fs.length, AV.int IntKind.i64 next]] : St)) := by
  rw [Den_ofK _ pr_schema_state_full rfl]
  have hw : IntKind.wrap .i64 (1073741824 - n) = 1073741824 - n := wrap_i64 (by omega) (by omega)
  cases d : decide (64 ≤ (fs.length : Int)) with
  | true => simp only [f_schema_state_full, hw, d, go_sem]
  | false => simp only [f_schema_state_full, hw, d, go_sem]
theorem schema_plus (nm : ByteArray) (ty pa : Int) (hL : fs.length < 1000000000000) (h0 : 0 ≤ next) (h1 : next < 1000000000000) :
    Den prog 185 [.ref 3 0, .str nm, .int .i64 ty, .int .i64 pa] ([o0, o1, Ob.arr v 4 (fs.map Fld.cells), Ob.cells [AV.osl 2 v fs.length 0 fs.length, AV.int IntKind.i64 next]] : St) =
      some (.tup [], [o0, o1, Ob.arr v 4 ((fs ++ [(⟨next, nm, ty, pa⟩ : Fld)]).map Fld.cells), Ob.cells [AV.osl 2 v (fs ++ [(⟨next, nm, ty, pa⟩ : Fld)]).length 0 (fs ++ [(⟨next, nm, ty, pa⟩ : Fld)]).length, AV.int IntKind.i64 (next + 1)]]) := by
  rw [Den_ofK _ pr_schema_state_plus rfl]
  have hw : IntKind.wrap .i64 (next + 1) = next + 1 := wrap_i64 (by omega) (by omega)
  have hb : (fs.length + 1) * 40 ≤ 140737488355328 := by omega
  simp only [f_schema_state_plus, hw, hb, go_sem]
/-- The numbers of a field and of its groups; where the way ends. -/
def anc (fs : List Fld) : Nat → Int → List Int → List Int × Int
  | 0, id, out => (out, id)
  | k + 1, id, out => bif decide (id = 0) then (out, id) else bif !hasF fs id || decide ((out.length : Int) = 8) then (out ++ [id], id) else anc fs k (getF fs id).par (out ++ [id])
theorem ancestors_l0 {β : Type} {K : Ex × Env × St → Option β} {Z : Option β} (hL : fs.length < 1000000000000) (b2 b3 : Nat) : ∀ (k : Nat) (id : Int) (out : List Int), out.length + k = 9 → 0 < k →
    K (.exit 0, [(1, .int .i64 (anc fs k id out).2), (2, .ref 4 0), (6, .osl 5 0 (anc fs k id out).1.length 0 (anc fs k id out).1.length), (10, .bool false)], ([o0, o1, Ob.arr v 4 (fs.map Fld.cells), Ob.cells [AV.osl 2 v fs.length 0 fs.length, AV.int IntKind.i64 next]] : St) ++ [.cells [.osl 2 v fs.length 0 fs.length, .int .i64 next], .arr 0 1 ((anc fs k id out).1.map icell)]) = Z →
    K (.exit 0, [(1, .int .i64 (anc fs k id out).2), (6, .osl 5 0 (anc fs k id out).1.length 0 (anc fs k id out).1.length)], ([o0, o1, Ob.arr v 4 (fs.map Fld.cells), Ob.cells [AV.osl 2 v fs.length 0 fs.length, AV.int IntKind.i64 next]] : St) ++ [.cells [.osl 2 v fs.length 0 fs.length, .int .i64 next], .arr 0 1 ((anc fs k id out).1.map icell), .cells [.int .i64 (getF fs (anc fs k id out).2).id, .str (getF fs (anc fs k id out).2).name, .int .i64 (getF fs (anc fs k id out).2).type, .int .i64 (getF fs (anc fs k id out).2).par]]) = Z →
    (Run prog 4 (.loop 2 [1, 2, 6] f_schema_ancestors_l0) [(1, .int .i64 id), (2, .ref 4 0), (6, .osl 5 0 out.length 0 out.length)] (([o0, o1, Ob.arr v 4 (fs.map Fld.cells), Ob.cells [AV.osl 2 v fs.length 0 fs.length, AV.int IntKind.i64 next]] : St) ++ [.cells [.osl 2 v fs.length 0 fs.length, .int .i64 next], .arr 0 1 (out.map icell)])).bind K = Z := by
  intro k
  induction k with
  | zero => intro id out _ h0; exact absurd h0 (by omega)
  | succ k ih =>
    intro id out ho _ hK hK2
    rw [anc] at hK hK2
    rw [Run_loop]
    have hb : (out.length + 1) * 8 ≤ 140737488355328 := by omega
    cases d0 : decide (id = 0) with
    | true =>
      rw [d0, cond_true] at hK hK2
      simp only [go_sem] at hK hK2
      simp only [f_schema_ancestors_l0_eq, f_schema_ancestors_l0u, d0, hK, go_sem]
    | false =>
      rw [d0, cond_false] at hK hK2
      have hF := schema_Field fs next id (by omega)
      cases d1 : hasF fs id with
      | false =>
        rw [d1, Bool.not_false, Bool.true_or, cond_true] at hK hK2
        rw [d1] at hF
        simp only [List.length_append, List.length_cons, List.length_nil, List.map_append, List.map_cons, List.map_nil, icell, go_sem] at hK hK2
        simp only [f_schema_ancestors_l0_eq, f_schema_ancestors_l0u, d0, d1, hF, hb, hK2, icell, go_sem]
      | true =>
        rw [d1, Bool.not_true, Bool.false_or] at hK hK2
        rw [d1] at hF
        cases d2 : decide ((out.length : Int) = 8) with
        | true =>
          rw [d2, cond_true] at hK hK2
          simp only [List.length_append, List.length_cons, List.length_nil, List.map_append, List.map_cons, List.map_nil, icell, go_sem] at hK hK2
          simp only [f_schema_ancestors_l0_eq, f_schema_ancestors_l0u, d0, d1, d2, hF, hb, hK2, icell, go_sem]
        | false =>
          rw [d2, cond_false] at hK hK2
          have h8 : (out.length : Int) ≠ 8 := by simpa using d2
          have ih := ih (getF fs id).par (out ++ [id]) (by simp; omega) (by omega) hK hK2
          simp only [List.length_append, List.length_cons, List.length_nil, List.map_append, List.map_cons, List.map_nil, icell, go_sem] at ih
          simp only [f_schema_ancestors_l0_eq, f_schema_ancestors_l0u, d0, d1, d2, hF, hb, ih, icell, go_sem]
theorem schema_ancestors (id : Int) (hL : fs.length < 1000000000000) :
    Den prog 181 [.agg [.osl 2 v fs.length 0 fs.length, .int .i64 next], .int .i64 id] ([o0, o1, Ob.arr v 4 (fs.map Fld.cells), Ob.cells [AV.osl 2 v fs.length 0 fs.length, AV.int IntKind.i64 next]] : St) = some (.tup [.sl ((anc fs 9 id []).1.map icell), .bool (decide ((anc fs 9 id []).2 = 0))], ([o0, o1, Ob.arr v 4 (fs.map Fld.cells), Ob.cells [AV.osl 2 v fs.length 0 fs.length, AV.int IntKind.i64 next]] : St)) := by
  rw [Den_ofK _ pr_schema_ancestors rfl]
  have hl := fun (K : Ex × Env × St → Option (AV × St)) Z => ancestors_l0 o0 o1 fs next v (K := K) (Z := Z) hL 0 0 9 id [] rfl (by omega)
  simp only [go_sem] at hl
  simp only [f_schema_ancestors, go_sem]
  refine hl _ _ ?_ ?_
  · simp only [go_sem]
  · simp only [go_sem]
end
end Go.Den
