/- SchemaStaysValid. -/
import Derived.Test.YtggelolphgcpgaaS06N
import Derived.Test.YtggelolphgcpgaaS06L
namespace Go.Den
open Go Go.Proofs
set_option linter.unusedSimpArgs false
set_option linter.unusedVariables false
set_option maxRecDepth 100000
set_option maxHeartbeats 1000000
theorem afterS_sv : ∀ (L : List Chg) {fs : List Fld} {next i : Int}, (∀ c ∈ L, COK c) → SV fs next → SV (afterS fs next i L).fs (afterS fs next i L).next
  | [], fs, next, i, _, s => s
  | c :: r, fs, next, i, h, s => by
    rw [afterS]
    cases d : decide ((applyC fs next c).e = 0) with
    | true => rw [cond_true]; exact afterS_sv r (fun x hx => h x (by simp [hx])) (applyC_sv s (h c (by simp)) (by simpa using d))
    | false => exact s
theorem applyC_zr (fs : List Fld) (next : Int) (c : Chg) : Zr (applyC fs next c) := by
  unfold applyC
  split
  · exact addS_zr fs next c
  · split
    · exact oneS_zr fs next c
    · split
      · exact splitS_zr fs next c
      · split
        · exact joinS_zr fs next c
        · exact Zr_bad _
theorem law_Stays (L : List Chg) (c : Chg) (hL : L.length < 1000000000000000) (hc : ∀ c ∈ L, COK2 c) (hcc : COK2 c) : Den prog 217 [.sl (L.map Chg.cells), .agg c.cells] [] = some (.bool true, []) := by
  have hm := R06_Made L 40 hL hc (by omega) (by omega)
  rw [show (40 : Int).toNat = 40 from rfl] at hm
  have hml := madeC_len (L.take 40) [] 1
  rw [List.length_take] at hml
  have hmo := madeC_ok (L.take 40) [] 1
  have hme := after_made (L.take 40) [] 1 0
  generalize madeC [] 1 (L.take 40) = M at *
  have hA := schema_After M (by omega) hmo
  have sv := afterS_sv M (i := 0) hmo SV.nil
  generalize afterS [] 1 0 M = T at *
  obtain ⟨fs, next, ta, te⟩ := T
  simp only [] at hme sv
  subst hme
  have a1 := schema_Apply fs next c sv.i sv.n.q ⟨hcc.name, hcc.other⟩
  have hch := R06_Change fs next c sv.i hcc
  have hck := chgS_ok fs next c
  have a2 := schema_Apply fs next (chgS fs next c) sv.i sv.n.q hck
  have v0 := R06_Valid fs next sv
  have hsz := Same_zero
  have d0 : decide ((0 : Int) = 0) = true := rfl
  -- a result: valid, or the zero schema
  have res : ∀ q : SR, Zr q → (q.e = 0 → SV q.fs q.next) → (q.e = 0 ∧ Den prog 211 [.agg [.sl (q.fs.map Fld.cells), .int .i64 q.next]] [] = some (.bool true, [])) ∨ (decide (q.e = 0) = false ∧ q.fs = [] ∧ q.next = 0) := by
    intro q hz hv
    by_cases h : q.e = 0
    · exact .inl ⟨h, R06_Valid _ _ (hv h)⟩
    · exact .inr ⟨by simpa using h, (hz h).1, (hz h).2⟩
  have r1 := res _ (applyC_zr fs next c) (applyC_sv sv ⟨hcc.name, hcc.other⟩)
  have r2 := res _ (applyC_zr fs next (chgS fs next c)) (applyC_sv sv hck)
  generalize applyC fs next c = q1 at *
  generalize applyC fs next (chgS fs next c) = q2 at *
  obtain ⟨f1, n1, e1⟩ := q1
  obtain ⟨f2, n2, e2⟩ := q2
  clear res sv hmo hml hck
  rw [Den_ofK [] pr_L06_SchemaStaysValid rfl]
  simp only [AR.av, SR.av, cells_chg] at hA a1 a2 hch r1 r2 ⊢
  cases c1 : decide (100 < (c.name.size : Int)) with
  | true => simp only [f_L06_SchemaStaysValid, c1, go_sem]
  | false => cases c2 : decide (100 < (c.other.size : Int)) with
    | true => simp only [f_L06_SchemaStaysValid, c1, c2, go_sem]
    | false => cases c3 : decide (100 < (c.sep.size : Int)) with
      | true => simp only [f_L06_SchemaStaysValid, c1, c2, c3, go_sem]
      | false =>
        rcases r1 with ⟨rfl, v1⟩ | ⟨x1, rfl, rfl⟩ <;> rcases r2 with ⟨rfl, v2⟩ | ⟨x2, rfl, rfl⟩
        · simp only [f_L06_SchemaStaysValid, c1, c2, c3, hm, hA, a1, a2, hch, v0, v1, v2, d0, go_sem]
        · simp only [List.map_nil] at a2
          simp only [f_L06_SchemaStaysValid, c1, c2, c3, hm, hA, a1, a2, hch, v0, v1, x2, hsz, d0, go_sem]
        · simp only [List.map_nil] at a1
          simp only [f_L06_SchemaStaysValid, c1, c2, c3, hm, hA, a1, a2, hch, v0, v2, x1, hsz, d0, go_sem]
        · simp only [List.map_nil] at a1 a2
          simp only [f_L06_SchemaStaysValid, c1, c2, c3, hm, hA, a1, a2, hch, v0, x1, x2, hsz, d0, go_sem]
theorem row_SSV (xs : List AV) (h : Args Try.prog [22, 24] xs) : Den prog 217 xs [] = some (.bool true, []) := by
  obtain ⟨n, x, ys, rfl, h1, h⟩ := h.one
  obtain ⟨n2, x2, ys2, rfl, h2, h⟩ := h.one
  cases h.none
  obtain ⟨L, rfl, hL, hc⟩ := sh_chgs h1
  obtain ⟨c, rfl, hcc⟩ := sh_chg h2
  simp only [avOf, Try.underlying22, Try.underlying24]
  exact law_Stays L c (by omega) hc hcc
end Go.Den
