/- Ch. 30: MergeIsSymmetric. -/
import Derived.Test.YtljecilfdpgdbaaS30I
namespace Go.Den
open Go Go.Proofs
set_option linter.unusedSimpArgs false
set_option linter.unusedVariables false
set_option maxRecDepth 100000
set_option maxHeartbeats 1000000
theorem R30_Plain (nx : Int) (L : List Line) (hL : L.length < 1000000000) : Den prog 145 [.agg [.int .i64 nx, .sl (L.map Line.cells)]] [] = some (.sl ((L.map Line.r).map rowc), []) := by
  rw [Den_ofK [] pr_R30_Plain rfl]
  simp only [f_R30_Plain, go_sem]
  refine range_ind L (by omega) (fun i (out : List (List Cell)) => (Run prog 0 (.loop 1 [1, 3, 4] f_R30_Plain_l0) [(1, .rptr [.int .i64 nx, .sl (L.map Line.cells)]), (3, .osl 0 0 out.length 0 out.length), (4, .int .i64 i)] [.arr 0 1 (out.map rowc)]).bind _ = _)
    (fun i rest out => out ++ rest.map Line.r = L.map Line.r ∧ (out.length : Int) ≤ i) ?_ ?_ [] ⟨by simp, by simp⟩
  · intro out ⟨h, _⟩
    simp only [List.map_nil, List.append_nil] at h
    rw [← h, Run_loop]
    simp only [f_R30_Plain_l0_eq, f_R30_Plain_l0u, go_sem]
  · intro i pre rest x out hq _ hi0 hi1 hx hc hw ⟨h, hl⟩ ih
    have hb : (out.length + 1) * 24 ≤ 140737488355328 := by clear hw hx hc ih h hq; omega
    have ih := ih (out ++ [x.r]) ⟨by rw [← h]; simp, by simp; omega⟩
    clear h hq
    simp only [go_sem] at ih
    rw [Run_loop]
    simp only [f_R30_Plain_l0_eq, f_R30_Plain_l0u, hx, hc, hw, hb, ih, go_sem]
/-- Where a row stands; without it. -/
def posR (r : List Cell) : List (List Cell) → Nat
  | [] => 0
  | y :: q => bif decide (y = r) then 0 else posR r q + 1
def delR (r : List Cell) : List (List Cell) → List (List Cell)
  | [] => []
  | y :: q => bif decide (y = r) then q else y :: delR r q
theorem posR_le (r : List Cell) : ∀ q, posR r q ≤ q.length
  | [] => by simp [posR]
  | y :: q => by
    rw [posR]
    cases decide (y = r) with
    | true => simp
    | false => have := posR_le r q; simp; omega
theorem posR_lt {r : List Cell} : ∀ {q : List (List Cell)}, r ∈ q → posR r q < q.length
  | [], h => by simp at h
  | y :: q, h => by
    rw [posR]
    cases d : decide (y = r) with
    | true => simp
    | false =>
      rcases List.mem_cons.1 h with rfl | h
      · simp at d
      · have := posR_lt h; simp; omega
theorem posR_del (r : List Cell) : ∀ q, posR r q < q.length → q.take (posR r q) ++ q.drop (posR r q + 1) = delR r q
  | [], h => by simp [posR] at h
  | y :: q, h => by
    rw [posR, delR] at *
    cases d : decide (y = r) with
    | true => simp
    | false =>
      rw [d] at h
      simp only [cond_false, List.length_cons] at h ⊢
      simp only [List.take_succ_cons, List.drop_succ_cons, List.cons_append]
      rw [posR_del r q (by omega)]
theorem delR_perm {r : List Cell} : ∀ {q : List (List Cell)}, r ∈ q → q.Perm (r :: delR r q)
  | [], h => by simp at h
  | y :: q, h => by
    rw [delR]
    cases d : decide (y = r) with
    | true => simp at d; subst d; exact List.Perm.refl _
    | false =>
      rcases List.mem_cons.1 h with rfl | h
      · simp at d
      · exact ((delR_perm h).cons y).trans (List.Perm.swap r y _)
theorem delR_sub {r : List Cell} : ∀ {q : List (List Cell)}, ∀ x ∈ delR r q, x ∈ q
  | [], x, h => by simp [delR] at h
  | y :: q, x, h => by
    rw [delR] at h
    cases d : decide (y = r) with
    | true => rw [d] at h; simp at h; simp [h]
    | false =>
      rw [d] at h
      simp only [cond_false, List.mem_cons] at h
      rcases h with rfl | h
      · simp
      · exact List.mem_cons_of_mem _ (delR_sub x h)
theorem R30_Rows_l1 {β : Type} {K : Ex × Env × St → Option β} {Z : Option β} (nx : Int) (L : List Line) (i : Int) (x : Line) (hx : getE L i = some x) (ob : Ob) (left : List (List Cell)) (hl : left.length < 1000000000) (hr : ∀ r ∈ left, r.length < 1000000000000000)
    (hK : K (.exit 2, [(2, .rptr [.int .i64 nx, .sl (L.map Line.cells)]), (5, .sl (left.map rowc)), (6, .int .i64 i), (7, .int .i64 (posR x.r left)), (36, .bool false)], [ob]) = Z) :
    (Run prog 0 (.loop 1 [2, 5, 6, 7] f_R30_Rows_l1) [(2, .rptr [.int .i64 nx, .sl (L.map Line.cells)]), (5, .sl (left.map rowc)), (6, .int .i64 i), (7, .int .i64 0)] [ob]).bind K = Z := by
  refine range_ind left (by omega) (fun j (_ : Unit) => (Run prog 0 (.loop 1 [2, 5, 6, 7] f_R30_Rows_l1) [(2, .rptr [.int .i64 nx, .sl (L.map Line.cells)]), (5, .sl (left.map rowc)), (6, .int .i64 i), (7, .int .i64 j)] [ob]).bind K = Z)
    (fun j rest _ => (posR x.r left : Int) = j + posR x.r rest) ?_ ?_ () (by simp)
  · intro _ h
    simp only [posR] at h
    have h : (posR x.r left : Int) = left.length := by simpa using h
    rw [h] at hK
    rw [Run_loop]
    simp only [f_R30_Rows_l1_eq, f_R30_Rows_l1u, hK, go_sem]
  · intro j pre rest y _ hq _ hj0 hj1 hy hc hw h ih
    have hyr := hr y (by rw [hq]; simp)
    rw [posR] at h
    rw [Run_loop]
    cases d : decide (y = x.r) with
    | true =>
      rw [d, cond_true] at h
      have h : (posR x.r left : Int) = j := by simpa using h
      rw [h] at hK
      simp only [f_R30_Rows_l1_eq, f_R30_Rows_l1u, hy, hx, hc, hw, hyr, d, hK, go_sem]
    | false =>
      rw [d, cond_false] at h
      have ih := ih () (by rw [h]; omega)
      simp only [f_R30_Rows_l1_eq, f_R30_Rows_l1u, hy, hx, hc, hw, hyr, d, ih, go_sem]
theorem R30_Rows (nx : Int) (L : List Line) (l : List (List Cell)) (hL : L.length < 1000000000) (hl : l.length < 1000000000) (hr : ∀ r ∈ l, r.length < 1000000000000000) (hp : (L.map Line.r).Perm l) :
    Den prog 146 [.agg [.int .i64 nx, .sl (L.map Line.cells)], .sl (l.map rowc)] [] = some (.bool true, []) := by
  have hb0 : l.length * 24 ≤ 140737488355328 := by clear hp hr; omega
  rw [Den_ofK [] pr_R30_Rows rfl]
  simp only [f_R30_Rows, hb0, List.length_map, go_sem]
  refine range_ind L (by omega) (fun i (left : List (List Cell)) => (Run prog 0 (.loop 1 [2, 5, 6] f_R30_Rows_l0) [(2, .rptr [.int .i64 nx, .sl (L.map Line.cells)]), (5, .sl (left.map rowc)), (6, .int .i64 i)] [.dead]).bind _ = _)
    (fun i rest left => (rest.map Line.r).Perm left ∧ left.length < 1000000000 ∧ ∀ r ∈ left, r.length < 1000000000000000) ?_ ?_ l ⟨hp, hl, hr⟩
  · intro left ⟨h, _⟩
    have : left = [] := by simpa using h
    subst this
    rw [Run_loop]
    simp only [f_R30_Rows_l0_eq, f_R30_Rows_l0u, go_sem]
  · intro i pre rest x left hq _ hi0 hi1 hx hc hw ⟨h, h2, h3⟩ ih
    have hmem : x.r ∈ left := h.subset (by simp)
    have hlt := posR_lt hmem
    have hdel := posR_del x.r left hlt
    have ih := ih (delR x.r left) ⟨by
        have := h.trans (delR_perm hmem)
        rw [List.map_cons] at this
        exact this.cons_inv, by have := (delR_perm hmem).length_eq; simp at this; omega, fun r hr => h3 r (delR_sub r hr)⟩
    have hne : decide ((posR x.r left : Int) = (left.length : Int)) = false := by simp; omega
    have hw7 : IntKind.wrap .i64 ((posR x.r left : Int) + 1) = (posR x.r left : Int) + 1 := wrap_i64 (by omega) (by omega)
    have hs1 : ∀ σ : St, sliceV 1 (.sl (left.map rowc)) none (some (.int .i64 (posR x.r left))) none σ = some (.sl ((left.take (posR x.r left)).map rowc), σ, false) := fun σ => by
      have := sliceV_to σ 1 (left.map rowc) .i64 (posR x.r left) (by omega) (by rw [List.length_map]; omega) (by rw [szOK_map 1 rowc left fun _ => rfl]; trivial)
      simpa using this
    have hs2 : ∀ σ : St, sliceV 1 (.sl (left.map rowc)) (some (.int .i64 ((posR x.r left : Int) + 1))) none none σ = some (.sl ((left.drop (posR x.r left + 1)).map rowc), σ, false) := fun σ => by
      have := sliceV_from σ 1 (left.map rowc) .i64 ((posR x.r left : Int) + 1) (by omega) (by rw [List.length_map]; omega) (by rw [szOK_map 1 rowc left fun _ => rfl]; trivial)
      have e : ((posR x.r left : Int) + 1).toNat = posR x.r left + 1 := by omega
      rw [e] at this
      rw [this]; simp
    have hl1 : (left.take (posR x.r left)).length ≤ left.length := by rw [List.length_take]; omega
    have hl2 : (left.drop (posR x.r left + 1)).length ≤ left.length := by rw [List.length_drop]; omega
    rw [Run_loop]
    simp only [f_R30_Rows_l0_eq, f_R30_Rows_l0u, hx, hc, hw, go_sem]
    refine R30_Rows_l1 nx L i x hx .dead left h2 h3 ?_
    generalize hT : left.take (posR x.r left) = T at *
    generalize hD : left.drop (posR x.r left + 1) = D at *
    have hb1 : T.length * 24 ≤ 140737488355328 := by clear hs1 hs2 hw7 ih hr hp h; omega
    have hb2 : (T.length + D.length) * 24 ≤ 140737488355328 := by clear hs1 hs2 hw7 ih hr hp h; omega
    have hz : szOKb 1 (T.map rowc) = true := by rw [szOKb_iff, szOK_map 1 rowc T fun _ => rfl]; trivial
    rw [← hdel] at ih
    clear hdel hmem hlt hT hD
    simp only [go_sem] at ih
    simp only [hne, hw7, hs1, hs2, hb1, hb2, hz, hx, hc, hw, ih, List.length_map, go_sem]
end Go.Den
