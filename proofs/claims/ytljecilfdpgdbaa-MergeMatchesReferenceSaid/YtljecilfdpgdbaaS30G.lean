/- Ch. 30: MergeMatchesReference. -/
import Derived.Test.YtljecilfdpgdbaaS30F
import Derived.Test.YtljecilfdpgdbaaSan30
import Derived.Test.YtljecilfdpgdbaaShP
namespace Go.Den
open Go Go.Proofs
set_option linter.unusedSimpArgs false
set_option linter.unusedVariables false
set_option maxRecDepth 100000
set_option maxHeartbeats 1000000
/-- What the laws know of a case. -/
structure CaseOk (x : Case) : Prop where
  cs : ∀ c ∈ x.cs, COK2 c
  lc : x.cs.length < 1000000000000000
  lr : x.rows.length < 1000000000000000
  la : x.a.rows.length < 1000000000000000
  lb : x.b.rows.length < 1000000000000000
  a0 : 0 ≤ x.a.skip
  a1 : x.a.skip < 256
  b0 : 0 ≤ x.b.skip
  b1 : x.b.skip < 256
def brA (x : Case) : Table := branchS (schS x.cs 8) (baseS x) x.a
def brB (x : Case) : Table := branchS (schS x.cs 8) (baseS x) x.b
theorem made_ok {x : Case} (h : CaseOk x) : Den prog 142 [.agg x.cells] [] = some (.tup [.agg [.int .i64 (baseS x).next, .sl ((baseS x).l.map Line.cells)], .agg [.int .i64 (brA x).next, .sl ((brA x).l.map Line.cells)], .agg [.int .i64 (brB x).next, .sl ((brB x).l.map Line.cells)]], []) :=
  L30_made x h.cs h.lc h.lr h.la h.lb h.a0 h.a1 h.b0 h.b1
theorem base_small (x : Case) : (baseS x).l.length ≤ 12 ∧ (baseS x).next ≤ 24 := by
  have hF := (schS_inv x.cs 8).len
  obtain ⟨t1, t2, t3, t4, t5⟩ := tabS_facts (schS x.cs 8) x.rows 12 (by omega)
  have e12 : (12 : Int).toNat = 12 := rfl
  unfold baseS
  omega
theorem branch_small (x : Case) (e : Edit) (h0 : 0 ≤ e.skip) : TOK (branchS (schS x.cs 8) (baseS x) e) ∧ (branchS (schS x.cs 8) (baseS x) e).l.length ≤ 18 ∧ (branchS (schS x.cs 8) (baseS x) e).next ≤ 40 := by
  have hb := base_small x
  have hF := (schS_inv x.cs 8).len
  have hsk : 0 ≤ e.skip.tmod 3 ∧ e.skip.tmod 3 < 3 := ⟨Int.tmod_nonneg _ h0, Int.tmod_lt_of_pos _ (by omega)⟩
  have hlen : (rowsN (schS x.cs 8) e.rows 6).length ≤ 6 := by unfold rowsN; rw [List.length_map, List.length_take]; omega
  have h1 := oldS_len (rowsN (schS x.cs 8) e.rows 6) e.gone e.chg (baseS x).l 0
  refine ⟨branch_ok (by omega) (base_ok x) (by omega) (by omega) h0, ?_, ?_⟩
  · unfold branchS; simp only [List.length_append, addL_len]; omega
  · unfold branchS; simp only []; omega
theorem Merge_small {base a b : Table} (tb : TOK base) (ta : TOK a) (tc : TOK b) :
    Den prog 132 [.agg [.int .i64 base.next, .sl (base.l.map Line.cells)], .agg [.int .i64 a.next, .sl (a.l.map Line.cells)], .agg [.int .i64 b.next, .sl (b.l.map Line.cells)]] [] = some ((mergeM base a b).av, []) := by
  have h1 := tb.len; have h2 := ta.len; have h3 := tc.len; have h4 := ta.n1
  exact merge_Merge base a b (by omega) (by omega) (by omega) tb.nd ta.nd tc.nd ta.rows tc.rows ta.n0 (by omega)
theorem MergeR_small {base a b : Table} (tb : TOK base) (ta : TOK a) (tc : TOK b) :
    Den prog 143 [.agg [.int .i64 base.next, .sl (base.l.map Line.cells)], .agg [.int .i64 a.next, .sl (a.l.map Line.cells)], .agg [.int .i64 b.next, .sl (b.l.map Line.cells)]] [] = some ((mergeM base a b).av, []) := by
  have h1 := tb.len; have h2 := ta.len; have h3 := tc.len; have h4 := ta.n1
  have := R30_Merge base a b (by omega) (by omega) (by omega) tb.rows ta.rows ta.n0 (by omega)
  rwa [merge_eq tb.nd ta.srt tc.srt] at this
theorem SameTable_refl {n : Int} {L : List Line} (h : L.length < 1000000000000000) (hr : rowsOk L) : Den prog 109 [.agg [.int .i64 n, .sl (L.map Line.cells)], .agg [.int .i64 n, .sl (L.map Line.cells)]] [] = some (.bool true, []) := by
  have := R27_SameTable n n L L h hr
  simpa using this
theorem SameLines_refl {L : List Line} (h : L.length < 1000000000000000) (hr : rowsOk L) : Den prog 134 [.sl (L.map Line.cells), .sl (L.map Line.cells)] [] = some (.bool true, []) := by
  have := R30_SameLines L L h hr
  simpa using this
theorem law_MMR (x : Case) (h : CaseOk x) : Den prog 154 [.agg x.cells] [] = some (.bool true, []) := by
  have hm := made_ok h
  have tb := base_ok x
  have ta := (branch_small x x.a h.a0).1
  have tc := (branch_small x x.b h.b0).1
  change TOK (brA x) at ta
  change TOK (brB x) at tc
  generalize baseS x = T at *
  generalize brA x = A at *
  generalize brB x = B at *
  have m1 := Merge_small tb ta tc
  have m2 := Merge_small ta tb tc
  have r1 := MergeR_small tb ta tc
  have r2 := MergeR_small ta tb tc
  obtain ⟨q1, q2, q3, q4⟩ := mergeM_rows tb.rows ta.rows tc.rows
  obtain ⟨q5, q6, q7, q8⟩ := mergeM_rows ta.rows tb.rows tc.rows
  have l1 := tb.len; have l2 := ta.len; have l3 := tc.len
  generalize mergeM T A B = M at *
  generalize mergeM A T B = M2 at *
  have s1 := SameTable_refl (n := M.next) (L := M.l) (by omega) q1
  have s2 := SameLines_refl (L := M.c) (by omega) q2
  have s3 := SameTable_refl (n := M2.next) (L := M2.l) (by omega) q5
  have s4 := SameLines_refl (L := M2.c) (by omega) q6
  clear q1 q2 q3 q4 q5 q6 q7 q8 l1 l2 l3 tb ta tc h
  rw [Den_ofK [] pr_L30_MergeMatchesReference rfl]
  obtain ⟨cs, rows, ⟨g1, c1, r1', k1⟩, ⟨g2, c2, r2', k2⟩⟩ := x
  simp only [Case.cells, Edit.cells, List.cons_append, List.nil_append, MR.av] at *
  simp only [f_L30_MergeMatchesReference, hm, m1, m2, r1, r2, s1, s2, s3, s4, decide_true, go_sem]
theorem sh_edit {n : Nat} {xs : List AV} (h : Sh Try.prog n 26 xs) : ∃ e : Edit, xs = e.cells ∧ e.rows.length * 24 ≤ 140737488351232 ∧ 0 ≤ e.skip ∧ e.skip < 256 := by
  obtain ⟨ps, m, rfl, hp⟩ := h.struct Try.underlying26
  obtain ⟨p, q, r, s, rfl, h1, h2, h3, h4⟩ := hp.p4
  obtain ⟨i1, rfl, _⟩ := Sh.int h1 Try.underlying24
  obtain ⟨i2, rfl, _⟩ := Sh.int h2 Try.underlying24
  obtain ⟨L, rfl, hb⟩ := sh_valss h3
  obtain ⟨i4, rfl, hw⟩ := Sh.int h4 Try.underlying5
  have : 0 ≤ i4 ∧ i4 < 256 := by
    simp [Lit.wf, IntKind.min, IntKind.max, IntKind.bits, IntKind.signed] at hw
    omega
  exact ⟨⟨i1, i2, L, i4⟩, rfl, hb, this.1, this.2⟩
theorem sh_case {n : Nat} {xs : List AV} (h : Sh Try.prog n 28 xs) : ∃ x : Case, xs = x.cells ∧ CaseOk x := by
  obtain ⟨ps, m, rfl, hp⟩ := h.struct Try.underlying28
  obtain ⟨p, q, r, s, rfl, h1, h2, h3, h4⟩ := hp.p4
  obtain ⟨L, rfl, hL, hc⟩ := sh_chgs h1
  obtain ⟨V, rfl, hV⟩ := sh_valss h2
  obtain ⟨a, rfl, ha, a0, a1⟩ := sh_edit h3
  obtain ⟨b, rfl, hb, b0, b1⟩ := sh_edit h4
  refine ⟨⟨L, V, a, b⟩, by simp [Case.cells], hc, ?_, ?_, ?_, ?_, a0, a1, b0, b1⟩ <;> simp only [] <;> omega
theorem row_MMR (xs : List AV) (h : Args Try.prog [28] xs) : Den prog 154 xs [] = some (.bool true, []) := by
  obtain ⟨n, x, ys, rfl, h1, h⟩ := h.one
  cases h.none
  obtain ⟨c, rfl, hc⟩ := sh_case h1
  simp only [avOf, Try.underlying28]
  exact law_MMR c hc
end Go.Den
