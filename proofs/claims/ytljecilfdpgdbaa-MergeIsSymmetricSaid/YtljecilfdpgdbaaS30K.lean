/- Ch. 30: two branches merged; MergeIsSymmetric. -/
import Derived.Test.YtljecilfdpgdbaaS30J
namespace Go.Den
open Go Go.Proofs
set_option linter.unusedSimpArgs false
set_option linter.unusedVariables false
set_option maxRecDepth 100000
set_option maxHeartbeats 1000000
theorem merge_two {base a b : Table} {oa na ob nb : List Line} (ha : IsBr base a oa na) (hb : IsBr base b ob nb) (tb : TOK base) (ta : TOK a) (tc : TOK b) (hl : base.l.length ≤ 1000) (hla : a.l.length ≤ 1000) (hlb : b.l.length ≤ 1000) :
    mergeM base a b = bif decide (0 < ((base.l.filter (clash a.l b.l)).length : Int)) then noM (base.l.filter (clash a.l b.l)) 280 else ⟨a.next + nb.length, keptM a.l b.l base.l ++ na ++ numL a.next nb, [], 0⟩ := by
  have h1 := ha.fresh tb ta
  have h2 := hb.fresh tb tc
  have h3 : (keptM a.l b.l base.l).length ≤ base.l.length := List.length_filterMap_le _ _
  have h4 : na.length ≤ a.l.length := by rw [ha.eq]; simp
  have h5 : nb.length ≤ b.l.length := by rw [hb.eq]; simp
  have h6 := ta.n1
  unfold mergeM
  rw [ha.fits tb, hb.fits tb, h1, h2]
  have e1 : decide (4096 < ((keptM a.l b.l base.l ++ na ++ numL a.next nb).length : Int)) = false := by
    simp only [List.length_append, numL_len]; simp; omega
  have e2 : decide (4611686018427387904 < a.next + (nb.length : Int)) = false := by simp; omega
  rw [e1, e2]
  rfl
theorem clash_comm (A B : List Line) (x : Line) : clash A B x = clash B A x := by
  unfold clash
  have e : decide (lookL A x.n = lookL B x.n) = decide (lookL B x.n = lookL A x.n) := by
    by_cases h : lookL A x.n = lookL B x.n
    · simp [h]
    · have : ¬ lookL B x.n = lookL A x.n := fun e => h e.symm
      simp [h, this]
  rw [e]
  cases decide (lookL A x.n = some x.r) <;> cases decide (lookL B x.n = some x.r) <;> rfl
theorem keptM_comm {A B L : List Line} (h : ∀ x ∈ L, clash A B x = false) : keptM A B L = keptM B A L := by
  unfold keptM
  refine filterMap_eq fun x hx => ?_
  have hc := h x hx
  have e : pickM A B x = pickM B A x := by
    unfold pickM
    unfold clash at hc
    cases h1 : decide (lookL A x.n = some x.r) with
    | true =>
      cases h2 : decide (lookL B x.n = some x.r) with
      | true => rw [cond_true, cond_true, of_decide_eq_true h1, of_decide_eq_true h2]
      | false => rfl
    | false =>
      cases h2 : decide (lookL B x.n = some x.r) with
      | true => rfl
      | false =>
        rw [h1, h2] at hc
        simp only [Bool.not_false, Bool.true_and, Bool.not_eq_false'] at hc
        rw [cond_false, cond_false, of_decide_eq_true hc]
  rw [e]
theorem numL_r : ∀ (q : List Line) (n : Int), (numL n q).map Line.r = q.map Line.r
  | [], n => rfl
  | x :: q, n => by simp only [numL, List.map_cons, numL_r q (n + 1)]
theorem no_clash {L : List Line} {p : Line → Bool} (h : decide (0 < ((L.filter p).length : Int)) = false) : ∀ x ∈ L, p x = false := by
  have : L.filter p = [] := by
    have : ¬ (0 : Int) < ((L.filter p).length : Int) := of_decide_eq_false h
    exact List.eq_nil_of_length_eq_zero (by omega)
  intro x hx
  rw [List.filter_eq_nil_iff] at this
  simpa using this x hx
theorem law_MSY (x : Case) (h : CaseOk x) : Den prog 157 [.agg x.cells] [] = some (.bool true, []) := by
  have hm := made_ok h
  have tb := base_ok x
  have sb := base_small x
  have ⟨ta, sa1, _⟩ := branch_small x x.a h.a0
  have ⟨tc, sc1, _⟩ := branch_small x x.b h.b0
  have ha := branch_is x x.a h.a0
  have hb := branch_is x x.b h.b0
  change TOK (brA x) at ta
  change TOK (brB x) at tc
  change (brA x).l.length ≤ 18 at sa1
  change (brB x).l.length ≤ 18 at sc1
  generalize oldS (rowsN (schS x.cs 8) x.a.rows 6) x.a.gone x.a.chg 0 (baseS x).l = oa at *
  generalize addL ((baseS x).next + x.a.skip.tmod 3) (rowsN (schS x.cs 8) x.a.rows 6) = na at *
  generalize oldS (rowsN (schS x.cs 8) x.b.rows 6) x.b.gone x.b.chg 0 (baseS x).l = ob at *
  generalize addL ((baseS x).next + x.b.skip.tmod 3) (rowsN (schS x.cs 8) x.b.rows 6) = nb at *
  change IsBr (baseS x) (brA x) oa na at ha
  change IsBr (baseS x) (brB x) ob nb at hb
  generalize baseS x = T at *
  generalize brA x = A at *
  generalize brB x = B at *
  have m1 := Merge_small tb ta tc
  have m2 := Merge_small tb tc ta
  have q := mergeM_rows (base := T) (a := A) (b := B) tb.rows ta.rows tc.rows
  have q' := mergeM_rows (base := T) (a := B) (b := A) tb.rows tc.rows ta.rows
  rw [merge_two ha hb tb ta tc (by omega) (by omega) (by omega)] at m1 q
  rw [merge_two hb ha tb tc ta (by omega) (by omega) (by omega)] at m2 q'
  have hcc : T.l.filter (clash B.l A.l) = T.l.filter (clash A.l B.l) := List.filter_congr fun z _ => clash_comm _ _ _
  rw [hcc] at m2 q'
  rw [Den_ofK [] pr_L30_MergeIsSymmetric rfl]
  obtain ⟨cs, rows, ⟨g1, c1, r1', k1⟩, ⟨g2, c2, r2', k2⟩⟩ := x
  simp only [Case.cells, Edit.cells, List.cons_append, List.nil_append] at hm ⊢
  cases d : decide (0 < ((T.l.filter (clash A.l B.l)).length : Int)) with
  | true =>
    rw [d, cond_true] at m1 m2 q q'
    obtain ⟨_, q2, _, q4⟩ := q
    rw [noM_c] at q2 q4
    have s2 := SameLines_refl (L := T.l.filter (clash A.l B.l)) (by omega) q2
    have p1 := R30_Plain 0 [] (by simp)
    have p2 := R30_Rows 0 [] [] (by simp) (by simp) (by simp) (by simp)
    have e1 : decide ((280 : Int) = 280) = true := rfl
    have e2 : decide ((280 : Int) = 0) = false := rfl
    clear q2 q4 q' hcc ha hb tb ta tc h
    generalize T.l.filter (clash A.l B.l) = C at *
    simp only [MR.av, noM_next, noM_l, noM_c, noM_e, go_sem] at m1 m2
    simp only [go_sem] at p1 p2
    simp only [f_L30_MergeIsSymmetric, hm, m1, m2, s2, p1, p2, d, e1, e2, btt, go_sem]
  | false =>
    have hno := no_clash d
    rw [d, cond_false] at m1 m2 q q'
    obtain ⟨q1, _, q3, _⟩ := q
    obtain ⟨q1', _, q3', _⟩ := q'
    rw [keptM_comm (A := B.l) (B := A.l) (L := T.l) fun z hz => by rw [clash_comm]; exact hno z hz] at m2 q1' q3'
    simp only [] at q1 q3 q1' q3'
    have hp : ((keptM A.l B.l T.l ++ na ++ numL A.next nb).map Line.r).Perm ((keptM A.l B.l T.l ++ nb ++ numL B.next na).map Line.r) := by
      simp only [List.map_append, numL_r, List.append_assoc]
      exact List.Perm.append_left _ List.perm_append_comm
    generalize hM1 : keptM A.l B.l T.l ++ na ++ numL A.next nb = M1 at *
    generalize hM2 : keptM A.l B.l T.l ++ nb ++ numL B.next na = M2 at *
    have p1 := R30_Plain (B.next + na.length) M2 (by omega)
    have p2 := R30_Rows (A.next + nb.length) M1 (M2.map Line.r) (by omega) (by rw [List.length_map]; omega) (by
      intro r hr
      obtain ⟨z, hz, rfl⟩ := List.mem_map.1 hr
      have := q1' z hz; omega) hp
    have s2 := SameLines_refl (L := []) (by simp) (by intro z hz; simp at hz)
    have e1 : decide ((0 : Int) = 0) = true := rfl
    have e2 : decide ((0 : Int) = 280) = false := rfl
    have e3 : decide ((0 : Int) < 0) = false := rfl
    clear q1 q3 q1' q3' hcc ha hb tb ta tc h hno hp hM1 hM2
    simp only [MR.av, go_sem] at m1 m2
    simp only [go_sem] at p1 p2 s2
    simp only [f_L30_MergeIsSymmetric, hm, m1, m2, s2, p1, p2, e1, e2, e3, bff, go_sem]
theorem row_MSY (xs : List AV) (h : Args Try.prog [28] xs) : Den prog 157 xs [] = some (.bool true, []) := by
  obtain ⟨n, x, ys, rfl, h1, h⟩ := h.one
  cases h.none
  obtain ⟨c, rfl, hc⟩ := sh_case h1
  simp only [avOf, Try.underlying28]
  exact law_MSY c hc
end Go.Den
