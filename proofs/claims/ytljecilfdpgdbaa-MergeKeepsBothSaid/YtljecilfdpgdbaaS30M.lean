/- Ch. 30: MergeKeepsBoth. -/
import Derived.Test.YtljecilfdpgdbaaS30K
namespace Go.Den
open Go Go.Proofs
set_option linter.unusedSimpArgs false
set_option linter.unusedVariables false
set_option maxRecDepth 100000
set_option maxHeartbeats 1000000
def rowD (o : Option (List Cell)) : List Cell := o.getD []
theorem rowD_none : rowD none = [] := rfl
theorem rowD_some (r : List Cell) : rowD (some r) = r := rfl
theorem L30_row (L : List Line) (nx n : Int) (hL : L.length < 1000000000000000) : Den prog 147 [.agg [.int .i64 nx, .sl (L.map Line.cells)], .int .i64 n] [] =
    some (.tup [.agg [.sl ((rowD (lookL L n)).map Cell.cells)], .bool (lookL L n).isSome], []) := by
  rw [look_find]
  rw [Den_ofK [] pr_L30_row rfl]
  simp only [f_L30_row, go_sem]
  refine range_ind L hL (fun i (_ : Unit) => (Run prog 0 (.loop 1 [1, 2, 4, 6] f_L30_row_l0) [(1, .int .i64 n), (2, .rptr [.int .i64 nx, .sl (L.map Line.cells)]), (4, .ref 0 0), (6, .int .i64 i)] [.cells [.nils]]).bind _ = _)
    (fun i rest _ => findL rest n = findL L n) ?_ ?_ () rfl
  · intro _ h
    rw [← h, Run_loop]
    simp only [f_L30_row_l0_eq, f_L30_row_l0u, findL, List.find?_nil, Option.map_none, Option.isSome_none, rowD_none, go_sem]
  · intro i pre rest x _ hq _ hi0 hi1 hx hc hw h ih
    unfold findL at h
    rw [List.find?_cons] at h
    rw [Run_loop]
    cases d : decide (x.n = n) with
    | true =>
      rw [d] at h
      change some x = findL L n at h
      rw [← h]
      simp only [f_L30_row_l0_eq, f_L30_row_l0u, hx, hc, hw, d, Option.map_some, Option.isSome_some, rowD_some, go_sem]
    | false =>
      rw [d] at h
      have ih := ih () h
      clear h
      simp only [f_L30_row_l0_eq, f_L30_row_l0u, hx, hc, hw, d, ih, go_sem]
theorem R27_ValidTable (nx : Int) (L : List Line) (h0 : 0 ≤ nx) (h1 : nx ≤ 4611686018427387904) (hl : L.length ≤ 4096) (hr : ∀ x ∈ L, 0 ≤ x.n ∧ x.n < nx) (hs : L.Pairwise fun x y => x.n < y.n) :
    Den prog 148 [.agg [.int .i64 nx, .sl (L.map Line.cells)]] [] = some (.bool true, []) := by
  have e1 : decide (0 ≤ nx) = true := by simp [h0]
  have e2 : decide (nx ≤ 4611686018427387904) = true := by simp [h1]
  have e3 : decide ((L.length : Int) ≤ 4096) = true := by simp; omega
  rw [Den_ofK [] pr_R27_ValidTable rfl]
  simp only [f_R27_ValidTable, go_sem]
  refine range_ind L (by omega) (fun i (_ : Unit) => (Run prog 0 (.loop 0 [1, 3] f_R27_ValidTable_l0) [(1, .rptr [.int .i64 nx, .sl (L.map Line.cells)]), (3, .int .i64 i)] []).bind _ = _)
    (fun _ _ _ => True) ?_ ?_ () trivial
  · intro _ _
    rw [Run_loop]
    simp only [f_R27_ValidTable_l0_eq, f_R27_ValidTable_l0u, e1, e2, e3, go_sem]
  · intro i pre rest x _ hq hi hi0 hi1 hx hc hw _ ih
    have ih := ih () trivial
    obtain ⟨r1, r2⟩ := hr x (by rw [hq]; simp)
    have d1 : decide (x.n < 0) = false := by simp; omega
    have d2 : decide (nx ≤ x.n) = false := by simp; omega
    rw [Run_loop]
    rcases List.eq_nil_or_concat pre with h | ⟨p, y, h⟩
    · have d3 : decide (0 < i) = false := by rw [hi, h]; rfl
      simp only [f_R27_ValidTable_l0_eq, f_R27_ValidTable_l0u, hx, hc, hw, d1, d2, d3, ih, go_sem]
    · have h : pre = p ++ [y] := by simpa using h
      have d3 : decide (0 < i) = true := by rw [hi, h]; simp
      have w1 : IntKind.wrap .i64 (i - 1) = i - 1 := wrap_i64 (by omega) (by omega)
      have hy : getE L (i - 1) = some y := getE_prev (p := p) (r := x :: rest) (by rw [hq, h]; simp) (by rw [hi, h]; simp)
      have d4 : decide (x.n ≤ y.n) = false := by
        rw [hq, h] at hs
        simp only [List.append_assoc, List.pairwise_append, List.cons_append, List.nil_append, List.pairwise_cons] at hs
        have := hs.2.1.1 x (by simp)
        simp; omega
      simp only [f_R27_ValidTable_l0_eq, f_R27_ValidTable_l0u, hx, hc, hw, w1, hy, d1, d2, d3, d4, ih, go_sem]
/-! The merged table. -/
theorem kept_sub (A B L : List Line) : ((keptM A B L).map Line.n).Sublist (L.map Line.n) := by
  induction L with
  | nil => simp [keptM]
  | cons x r ih =>
    rw [keptM_cons]
    cases pickM A B x with
    | none => exact ih.cons _
    | some q => simpa using ih.cons_cons x.n
theorem kept_look {A B : List Line} : ∀ {L : List Line}, nodup L → ∀ x ∈ L, lookL (keptM A B L) x.n = pickM A B x
  | [], _, x, hx => by simp at hx
  | y :: L, hd, x, hx => by
    unfold nodup at hd
    rw [List.map_cons, List.nodup_cons] at hd
    rw [keptM_cons]
    rcases List.mem_cons.1 hx with rfl | hx
    · cases hp : pickM A B x with
      | none =>
        simp only [Option.map_none, Option.toList_none, List.nil_append]
        exact look_out fun z hz e => hd.1 (by rw [← e]; exact (kept_sub A B L).subset (List.mem_map_of_mem hz))
      | some q => simp [lookL]
    · have hne : ¬ x.n = y.n := fun e => hd.1 (by rw [← e]; exact List.mem_map_of_mem hx)
      rw [look_app, look_out (L := Option.toList _), Option.none_or]
      · exact kept_look hd.2 x hx
      · intro z hz e
        cases hp : pickM A B y with
        | none => rw [hp] at hz; simp at hz
        | some q =>
          rw [hp] at hz
          simp at hz
          subst hz
          exact hne e.symm
theorem numL_n {n : Int} : ∀ {q : List Line} {n : Int} {x : Line}, x ∈ numL n q → n ≤ x.n ∧ x.n < n + q.length
  | [], n, x, h => by simp [numL] at h
  | r :: q, n, x, h => by
    simp only [numL, List.mem_cons] at h
    rcases h with rfl | h
    · simp; omega
    · obtain ⟨h1, h2⟩ := numL_n (n := n) h
      exact ⟨by omega, by simp only [List.length_cons]; omega⟩
theorem numL_srt : ∀ (q : List Line) (n : Int), (numL n q).Pairwise fun x y => x.n < y.n
  | [], n => by simp [numL]
  | r :: q, n => by
    rw [numL, List.pairwise_cons]
    refine ⟨fun y hy => ?_, numL_srt q (n + 1)⟩
    have := numL_n (n := n) hy; simp only []; omega
theorem merged_ok {base a b : Table} {oa na : List Line} (ha : IsBr base a oa na) (tb : TOK base) (ta : TOK a) (nb : List Line) :
    (∀ x ∈ keptM a.l b.l base.l ++ na ++ numL a.next nb, 0 ≤ x.n ∧ x.n < a.next + nb.length) ∧ (keptM a.l b.l base.l ++ na ++ numL a.next nb).Pairwise (fun x y => x.n < y.n) ∧ ∀ x ∈ base.l, lookL (keptM a.l b.l base.l ++ na ++ numL a.next nb) x.n = pickM a.l b.l x := by
  have hk : ∀ x ∈ keptM a.l b.l base.l, 0 ≤ x.n ∧ x.n < base.next := by
    intro x hx
    obtain ⟨z, hz, e⟩ := List.mem_map.1 ((kept_sub a.l b.l base.l).subset (List.mem_map_of_mem hx))
    rw [← e]; exact tb.rng z hz
  have hn : ∀ x ∈ na, base.next ≤ x.n ∧ x.n < a.next := fun x hx => ⟨ha.new x hx, (ta.rng x (by rw [ha.eq]; simp [hx])).2⟩
  have hq : ∀ x ∈ numL a.next nb, a.next ≤ x.n ∧ x.n < a.next + nb.length := fun x hx => numL_n (n := 0) hx
  have h0 := tb.n0
  have hx := ha.nx
  refine ⟨fun x hx => ?_, ?_, fun x hxb => ?_⟩
  · simp only [List.mem_append] at hx
    rcases hx with (hx | hx) | hx
    · have := hk x hx; omega
    · have := hn x hx; omega
    · have := hq x hx; omega
  · rw [List.pairwise_append, List.pairwise_append]
    refine ⟨⟨?_, ?_, fun x hx y hy => ?_⟩, numL_srt _ _, fun x hx y hy => ?_⟩
    · have e : (base.l.map Line.n).Pairwise (· < ·) := by rw [List.pairwise_map]; exact tb.srt
      have := e.sublist (kept_sub a.l b.l base.l)
      rwa [List.pairwise_map] at this
    · have := ta.srt
      rw [ha.eq, List.pairwise_append] at this
      exact this.2.1
    · have := hk x hx; have := hn y hy; omega
    · have := hq y hy
      simp only [List.mem_append] at hx
      rcases hx with hx | hx
      · have := hk x hx; omega
      · have := hn x hx; omega
  · have hb := (tb.rng x hxb).2
    rw [look_app, look_app, kept_look tb.nd x hxb, look_out (L := na) fun z hz => by have := hn z hz; omega, look_out (L := numL a.next nb) fun z hz => by have := hq z hz; omega]
    simp
def cntM (A B : List Line) (n : Int) : List Line → Int
  | [] => n
  | x :: r => cntM A B (bif (pickM A B x).isSome then n + 1 else n) r
theorem cntM_eq (A B : List Line) : ∀ (L : List Line) (n : Int), cntM A B n L = n + (keptM A B L).length
  | [], n => by simp [cntM, keptM]
  | x :: r, n => by
    rw [cntM, cntM_eq A B r, keptM_cons]
    cases pickM A B x <;> simp <;> omega
end Go.Den
