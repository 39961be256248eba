/- SchemaMatchesReference. -/
import Derived.Test.YtggelolphgcpgaaS06Z
import Derived.Test.YtggelolphgcpgaaS06U
import Derived.Test.YtggelolphgcpgaaS06O
namespace Go.Den
open Go Go.Proofs
set_option linter.unusedSimpArgs false
set_option linter.unusedVariables false
set_option maxRecDepth 100000
set_option maxHeartbeats 1000000
theorem law_Schema (L : List Chg) (c : Chg) (id : Int) (hL : L.length < 1000000000000000) (hc : ∀ c ∈ L, COK2 c) (hcc : COK2 c) (h0 : -128 ≤ id) (h1 : id ≤ 127) : Den prog 222 [.sl (L.map Chg.cells), .agg c.cells, .int .i8 id] [] = some (.bool true, []) := by
  have hm := R06_Made L 40 hL hc (by omega) (by omega)
  rw [show (40 : Int).toNat = 40 from rfl] at hm
  have hml := madeC_len (L.take 40) [] 1
  rw [List.length_take] at hml
  have hmo := madeC_ok (L.take 40) [] 1
  have hme := after_made (L.take 40) [] 1 0
  generalize madeC [] 1 (L.take 40) = M at *
  have hA := schema_After M (by omega) hmo
  have hB := R06_After M (by omega) hmo
  have sv := afterS_sv M (i := 0) hmo SV.nil
  generalize afterS [] 1 0 M = T at *
  obtain ⟨fs, next, ta, te⟩ := T
  simp only [] at hme sv
  subst hme
  have hl64 := sv.i.len
  have hl := Same_refl fs next (by omega)
  have hF1 : fs.length < 1000000000000 := by omega
  have hF2 : fs.length < 1000000000000000 := by omega
  have a1 := schema_Apply fs next c sv.i sv.n.q ⟨hcc.name, hcc.other⟩
  have b1 := R06_Apply fs next c sv.i.ok ⟨hcc.name, hcc.other⟩
  have hch := R06_Change fs next c sv.i hcc
  have hck := chgS_ok fs next c
  have a2 := schema_Apply fs next (chgS fs next c) sv.i sv.n.q hck
  have b2 := R06_Apply fs next (chgS fs next c) sv.i.ok hck
  have res : ∀ q : SR, Zr q → (q.e = 0 → SV q.fs q.next) → Den prog 207 [.agg [.sl (q.fs.map Fld.cells), .int .i64 q.next], .agg [.sl (q.fs.map Fld.cells), .int .i64 q.next]] [] = some (.bool true, []) := by
    intro q hz hv
    refine Same_refl _ _ ?_
    by_cases h : q.e = 0
    · have := (hv h).i.len; omega
    · rw [(hz h).1]; decide
  have r1 := res _ (applyC_zr fs next c) (applyC_sv sv ⟨hcc.name, hcc.other⟩)
  have r2 := res _ (applyC_zr fs next (chgS fs next c)) (applyC_sv sv hck)
  generalize applyC fs next c = q1 at *
  generalize applyC fs next (chgS fs next c) = q2 at *
  obtain ⟨f1, n1, e1⟩ := q1
  obtain ⟨f2, n2, e2⟩ := q2
  have p1 := R06_Path sv id
  have p2 := schema_PathA sv id
  generalize pathB fs 9 id = PB at *
  obtain ⟨kid, kok, k1, k2⟩ : ∃ kid kok, Den prog 206 [.agg [.sl (fs.map Fld.cells), .int .i64 next], .str PB] [] = some (.tup [.int .i64 kid, .bool kok], []) ∧ Den prog 216 [.agg [.sl (fs.map Fld.cells), .int .i64 next], .str PB] [] = some (.tup [.int .i64 kid, .bool kok], []) := ⟨_, _, schema_Find sv PB, R06_Find sv PB⟩
  have v1 := schema_Leaves fs next hF1
  have v2 := R06_Leaves fs next hF1
  have hvl : (leavesS fs).length ≤ fs.length := by unfold leavesS; rw [List.length_map]; exact List.length_filter_le ..
  generalize leavesS fs = V at *
  have u1 := schema_Field fs next id hF2
  have u2 := R06_Field fs next id hF2
  generalize hasF fs id = hok at *
  generalize getF fs id = G at *
  have hw8 : IntKind.wrap .i64 id = id := wrap_i64 (by omega) (by omega)
  have hV : V.length < 1000000000000000 := by omega
  clear res sv hmo hml hck
  rw [Den_ofK [] pr_L06_SchemaMatchesReference rfl]
  simp only [AR.av, SR.av, cells_chg] at hA hB a1 a2 b1 b2 hch r1 r2 ⊢
  cases c1 : decide (100 < (c.name.size : Int)) with
  | true => simp only [f_L06_SchemaMatchesReference, c1, hm, hA, hB, hl, go_sem]
  | false => cases c2 : decide (100 < (c.other.size : Int)) with
    | true => simp only [f_L06_SchemaMatchesReference, c1, c2, hm, hA, hB, hl, go_sem]
    | false => cases c3 : decide (100 < (c.sep.size : Int)) with
      | true => simp only [f_L06_SchemaMatchesReference, c1, c2, c3, hm, hA, hB, hl, go_sem]
      | false =>
        simp only [f_L06_SchemaMatchesReference, c1, c2, c3, hm, hA, hB, hl, a1, a2, b1, b2, hch, r1, r2, v1, v2, go_sem]
        refine range_ind V hV (fun i (_ : Unit) => (Run prog 0 (.loop 6 [2, 7, 12, 23, 24, 25] f_L06_SchemaMatchesReference_l0) [(2, .int .i8 id), (7, .bool true), (12, .ref 1 0), (23, .sl (V.map icell)), (24, .sl (V.map icell)), (25, .int .i64 i)] _).bind _ = _) (fun _ _ _ => True) ?_ ?_ () trivial
        · intro _ _
          rw [Run_loop]
          cases hok <;> cases kok <;> simp only [f_L06_SchemaMatchesReference_l0_eq, f_L06_SchemaMatchesReference_l0u, u1, u2, p1, p2, k1, k2, hw8, go_sem]
        · intro i pre rest x _ _ _ _ _ hx hcx hw _ ih
          have ih := ih () trivial
          rw [Run_loop]
          simp only [f_L06_SchemaMatchesReference_l0_eq, f_L06_SchemaMatchesReference_l0u, hx, hcx, hw, ih, go_sem]
theorem row_SMR (xs : List AV) (h : Args Try.prog [22, 24, 58] xs) : Den prog 222 xs [] = some (.bool true, []) := by
  obtain ⟨n, x, ys, rfl, h1, h⟩ := h.one
  obtain ⟨n2, x2, ys2, rfl, h2, h⟩ := h.one
  obtain ⟨n3, x3, ys3, rfl, h3, h⟩ := h.one
  cases h.none
  obtain ⟨L, rfl, hL, hc⟩ := sh_chgs h1
  obtain ⟨c, rfl, hcc⟩ := sh_chg h2
  obtain ⟨i, rfl, hk⟩ := h3.int (k := .i8) Try.underlying58
  simp [Lit.wf, IntKind.min, IntKind.max, IntKind.bits, IntKind.signed] at hk
  simp only [avOf, Try.underlying22, Try.underlying24, Try.underlying58]
  exact law_Schema L c i (by omega) hc hcc (by omega) (by omega)
end Go.Den
