/- Ch. 30: MergeKeepsBoth, the law. -/
import Derived.Test.YtljecilfdpgdbaaS30M
namespace Go.Den
open Go Go.Proofs
set_option linter.unusedSimpArgs false
set_option linter.unusedVariables false
set_option maxRecDepth 100000
set_option maxHeartbeats 1000000
theorem law_MKB_l0 {β : Type} {K : Ex × Env × St → Option β} {Z : Option β} (T A B : Table) (nb M : List Line) (hT : T.l.length < 1000000000) (hA : A.l.length < 1000000000) (hB : B.l.length < 1000000000) (hM : M.length < 1000000000)
    (rT : rowsOk T.l) (rA : rowsOk A.l) (rB : rowsOk B.l) (hno : ∀ x ∈ T.l, clash A.l B.l x = false) (hlk : ∀ x ∈ T.l, lookL M x.n = pickM A.l B.l x)
    (hK : K (.exit 0, [(3, .bool true), (4, .ref 0 0), (5, .ref 1 0), (6, .ref 2 0), (7, .ref 3 0), (10, .int .i64 (cntM A.l B.l 0 T.l)), (11, .int .i64 T.l.length), (48, .bool false)], [(Ob.cells [.int .i64 T.next, .sl (T.l.map Line.cells)]), (Ob.cells [.int .i64 A.next, .sl (A.l.map Line.cells)]), (Ob.cells [.int .i64 B.next, .sl (B.l.map Line.cells)]), (Ob.cells [.int .i64 (A.next + nb.length), .sl (M.map Line.cells)])]) = Z) :
    (Run prog 0 (.loop 4 [3, 4, 5, 6, 7, 10, 11] f_L30_MergeKeepsBoth_l0) [(3, .bool true), (4, .ref 0 0), (5, .ref 1 0), (6, .ref 2 0), (7, .ref 3 0), (10, .int .i64 0), (11, .int .i64 0)] [(Ob.cells [.int .i64 T.next, .sl (T.l.map Line.cells)]), (Ob.cells [.int .i64 A.next, .sl (A.l.map Line.cells)]), (Ob.cells [.int .i64 B.next, .sl (B.l.map Line.cells)]), (Ob.cells [.int .i64 (A.next + nb.length), .sl (M.map Line.cells)])]).bind K = Z := by
  refine range_ind T.l (by omega) (fun i (c : Int) => (Run prog 0 (.loop 4 [3, 4, 5, 6, 7, 10, 11] f_L30_MergeKeepsBoth_l0) [(3, .bool true), (4, .ref 0 0), (5, .ref 1 0), (6, .ref 2 0), (7, .ref 3 0), (10, .int .i64 c), (11, .int .i64 i)] [(Ob.cells [.int .i64 T.next, .sl (T.l.map Line.cells)]), (Ob.cells [.int .i64 A.next, .sl (A.l.map Line.cells)]), (Ob.cells [.int .i64 B.next, .sl (B.l.map Line.cells)]), (Ob.cells [.int .i64 (A.next + nb.length), .sl (M.map Line.cells)])]).bind K = Z)
    (fun i rest c => cntM A.l B.l c rest = cntM A.l B.l 0 T.l ∧ 0 ≤ c ∧ c ≤ i) ?_ ?_ 0 ⟨rfl, by omega, by omega⟩
  · intro c ⟨h, _⟩
    rw [cntM] at h
    rw [← h] at hK
    rw [Run_loop]
    simp only [f_L30_MergeKeepsBoth_l0_eq, f_L30_MergeKeepsBoth_l0u, hK, go_sem]
  · intro i pre rest x c hq _ hi0 hi1 hx hc hw ⟨h, c0, c1⟩ ih
    have hxm : x ∈ T.l := by rw [hq]; simp
    have hwc : IntKind.wrap .i64 (c + 1) = c + 1 := wrap_i64 (by omega) (by omega)
    have g1 := L30_row M (A.next + nb.length) x.n (by omega)
    have g2 := L30_row A.l A.next x.n (by omega)
    have g3 := L30_row B.l B.next x.n (by omega)
    have lx : x.r.length < 1000000000000000 := by have := rT x hxm; omega
    have lu := lookL_len rA x.n
    have lv := lookL_len rB x.n
    have hcl := hno x hxm
    unfold clash at hcl
    rw [hlk x hxm] at g1
    rw [cntM] at h
    have hpk : pickM A.l B.l x = bif decide (lookL A.l x.n = some x.r) then lookL B.l x.n else lookL A.l x.n := rfl
    generalize pickM A.l B.l x = r at *
    generalize lookL A.l x.n = u at *
    generalize lookL B.l x.n = v at *
    have dself : ∀ l : List Cell, decide (l = l) = true := fun l => by simp
    have ih0 := ih c
    have ih1 := ih (c + 1)
    clear ih hlk hno hq rT rA rB hK
    rw [Run_loop]
    cases u with
    | none =>
      have e1 : decide ((none : Option (List Cell)) = some x.r) = false := rfl
      rw [e1, cond_false] at hpk
      subst hpk
      simp only [Option.isSome_none, cond_false] at h
      have ih := ih0 ⟨h, c0, by omega⟩
      cases v with
      | none =>
        simp only [rowD_none, Option.isSome_none, go_sem] at g1 g2 g3
        simp only [f_L30_MergeKeepsBoth_l0_eq, f_L30_MergeKeepsBoth_l0u, hx, hc, hw, g1, g2, g3, bff, ih, go_sem]
      | some vr =>
        have lv := lv vr rfl
        have d : decide (vr = x.r) = true := by
          rw [e1] at hcl
          simp only [Bool.not_false, Bool.true_and, Bool.and_eq_false_iff, Bool.not_eq_false', decide_eq_true_eq, Option.some.injEq] at hcl
          rcases hcl with h | h
          · simp [h]
          · simp at h
        simp only [rowD_none, rowD_some, Option.isSome_none, Option.isSome_some, go_sem] at g1 g2 g3
        simp only [f_L30_MergeKeepsBoth_l0_eq, f_L30_MergeKeepsBoth_l0u, hx, hc, hw, g1, g2, g3, bff, btf, bft, btt, d, dself, lv, lx, ih, go_sem]
    | some ur =>
      have lu := lu ur rfl
      cases dA : decide (ur = x.r) with
      | true =>
        have e1 : decide (some ur = some x.r) = true := by simpa using dA
        rw [e1, cond_true] at hpk
        have hpk := hpk.symm
        subst hpk
        cases v with
        | none =>
          simp only [Option.isSome_none, cond_false] at h
          have ih := ih0 ⟨h, c0, by omega⟩
          simp only [rowD_none, rowD_some, Option.isSome_none, Option.isSome_some, go_sem] at g1 g2 g3
          simp only [f_L30_MergeKeepsBoth_l0_eq, f_L30_MergeKeepsBoth_l0u, hx, hc, hw, g1, g2, g3, bff, btf, bft, btt, dA, dself, lu, lx, ih, go_sem]
        | some vr =>
          simp only [Option.isSome_some, cond_true] at h
          have ih := ih1 ⟨h, by omega, by omega⟩
          have lv := lv vr rfl
          simp only [rowD_none, rowD_some, Option.isSome_none, Option.isSome_some, go_sem] at g1 g2 g3
          cases dB : decide (vr = x.r) with
          | true => simp only [f_L30_MergeKeepsBoth_l0_eq, f_L30_MergeKeepsBoth_l0u, hx, hc, hw, hwc, g1, g2, g3, bff, btf, bft, btt, dA, dB, dself, lu, lv, lx, ih, go_sem]
          | false => simp only [f_L30_MergeKeepsBoth_l0_eq, f_L30_MergeKeepsBoth_l0u, hx, hc, hw, hwc, g1, g2, g3, bff, btf, bft, btt, dA, dB, dself, lu, lv, lx, ih, go_sem]
      | false =>
        have e1 : decide (some ur = some x.r) = false := by simpa using dA
        rw [e1, cond_false] at hpk
        subst hpk
        simp only [Option.isSome_some, cond_true] at h
        have ih := ih1 ⟨h, by omega, by omega⟩
        cases v with
        | none =>
          rw [e1] at hcl
          simp at hcl
        | some vr =>
          have lv := lv vr rfl
          simp only [rowD_none, rowD_some, Option.isSome_none, Option.isSome_some, go_sem] at g1 g2 g3
          cases dB : decide (vr = x.r) with
          | true => simp only [f_L30_MergeKeepsBoth_l0_eq, f_L30_MergeKeepsBoth_l0u, hx, hc, hw, hwc, g1, g2, g3, bff, btf, bft, btt, dA, dB, dself, lu, lv, lx, ih, go_sem]
          | false =>
            have hv : ur = vr := by
              have e2 : decide (some vr = some x.r) = false := by simpa using dB
              rw [e1, e2] at hcl
              simpa using hcl
            subst hv
            simp only [f_L30_MergeKeepsBoth_l0_eq, f_L30_MergeKeepsBoth_l0u, hx, hc, hw, hwc, g1, g2, g3, bff, btf, bft, btt, dA, dself, lu, lx, ih, go_sem]
theorem law_MKB_l1 {β : Type} {K : Ex × Env × St → Option β} {Z : Option β} (T A B : Table) (nb M F : List Line) (k : Int) (k0 : 0 ≤ k) (k1 : k < 1000000000) (hF : F.length < 1000000000) (rF : rowsOk F)
    (hMF : ∀ (i : Int) (z : Line), getE F i = some z → ∃ y, getE M (k + i) = some y ∧ y.r = z.r)
    (hK : K (.exit 2, [(3, .bool true), (4, .ref 0 0), (5, .ref 1 0), (6, .ref 2 0), (7, .ref 3 0), (10, .int .i64 k), (20, .osl 4 0 F.length 0 F.length), (21, .int .i64 F.length), (188, .bool false)], [(Ob.cells [.int .i64 T.next, .sl (T.l.map Line.cells)]), (Ob.cells [.int .i64 A.next, .sl (A.l.map Line.cells)]), (Ob.cells [.int .i64 B.next, .sl (B.l.map Line.cells)]), (Ob.cells [.int .i64 (A.next + nb.length), .sl (M.map Line.cells)]), .arr 0 2 (F.map Line.cells)]) = Z) :
    (Run prog 0 (.loop 5 [3, 4, 5, 6, 7, 10, 20, 21] f_L30_MergeKeepsBoth_l1) [(3, .bool true), (4, .ref 0 0), (5, .ref 1 0), (6, .ref 2 0), (7, .ref 3 0), (10, .int .i64 k), (20, .osl 4 0 F.length 0 F.length), (21, .int .i64 0)] [(Ob.cells [.int .i64 T.next, .sl (T.l.map Line.cells)]), (Ob.cells [.int .i64 A.next, .sl (A.l.map Line.cells)]), (Ob.cells [.int .i64 B.next, .sl (B.l.map Line.cells)]), (Ob.cells [.int .i64 (A.next + nb.length), .sl (M.map Line.cells)]), .arr 0 2 (F.map Line.cells)]).bind K = Z := by
  refine range_ind F (by omega) (fun i (_ : Unit) => (Run prog 0 (.loop 5 [3, 4, 5, 6, 7, 10, 20, 21] f_L30_MergeKeepsBoth_l1) [(3, .bool true), (4, .ref 0 0), (5, .ref 1 0), (6, .ref 2 0), (7, .ref 3 0), (10, .int .i64 k), (20, .osl 4 0 F.length 0 F.length), (21, .int .i64 i)] [(Ob.cells [.int .i64 T.next, .sl (T.l.map Line.cells)]), (Ob.cells [.int .i64 A.next, .sl (A.l.map Line.cells)]), (Ob.cells [.int .i64 B.next, .sl (B.l.map Line.cells)]), (Ob.cells [.int .i64 (A.next + nb.length), .sl (M.map Line.cells)]), .arr 0 2 (F.map Line.cells)]).bind K = Z)
    (fun _ _ _ => True) ?_ ?_ () trivial
  · intro _ _
    rw [Run_loop]
    simp only [f_L30_MergeKeepsBoth_l1_eq, f_L30_MergeKeepsBoth_l1u, hK, go_sem]
  · intro i pre rest x _ hq hip hi0 hi1 hx hc hw _ ih
    have ih := ih () trivial
    obtain ⟨y, hy, e⟩ := hMF i x hx
    have hwk : IntKind.wrap .i64 (k + i) = k + i := wrap_i64 (by omega) (by omega)
    have d : decide (y.r = x.r) = true := by simp [e]
    have lx : y.r.length < 1000000000000000 := by have := rF x (by rw [hq]; simp); rw [e]; omega
    have hnat : i.toNat < F.length := by omega
    have hget : F[i.toNat]? = some x := by unfold getE at hx; rw [if_pos hi0] at hx; exact hx
    have hget2 : (F.map Line.cells)[i.toNat]? = some [.int .i64 x.n, .sl (x.r.map Cell.cells)] := by rw [List.getElem?_map, hget]; rfl
    clear hMF hK hq e rF
    rw [Run_loop]
    simp only [f_L30_MergeKeepsBoth_l1_eq, f_L30_MergeKeepsBoth_l1u, hx, hy, hc, hw, hwk, d, lx, hnat, hget2, hi0, hi1, ih, go_sem]
theorem law_MKB (x : Case) (h : CaseOk x) : Den prog 158 [.agg x.cells] [] = some (.bool true, []) := by
  have hm := made_ok h
  have tb := base_ok x
  have sb := base_small x
  have ⟨ta, sa1, sa2⟩ := branch_small x x.a h.a0
  have ⟨tc, sc1, _⟩ := branch_small x x.b h.b0
  have ha := branch_is x x.a h.a0
  have hb := branch_is x x.b h.b0
  change TOK (brA x) at ta
  change TOK (brB x) at tc
  change (brA x).l.length ≤ 18 at sa1
  change (brA x).next ≤ 40 at sa2
  change (brB x).l.length ≤ 18 at sc1
  generalize oldS (rowsN (schS x.cs 8) x.a.rows 6) x.a.gone x.a.chg 0 (baseS x).l = oa at *
  generalize addL ((baseS x).next + x.a.skip.tmod 3) (rowsN (schS x.cs 8) x.a.rows 6) = na at *
  generalize oldS (rowsN (schS x.cs 8) x.b.rows 6) x.b.gone x.b.chg 0 (baseS x).l = ob at *
  generalize addL ((baseS x).next + x.b.skip.tmod 3) (rowsN (schS x.cs 8) x.b.rows 6) = nb at *
  change IsBr (baseS x) (brA x) oa na at ha
  change IsBr (baseS x) (brB x) ob nb at hb
  generalize baseS x = T at *
  generalize brA x = A at *
  generalize brB x = B at *
  have m1 := Merge_small tb ta tc
  have q := mergeM_rows (base := T) (a := A) (b := B) tb.rows ta.rows tc.rows
  rw [merge_two ha hb tb ta tc (by omega) (by omega) (by omega)] at m1 q
  rw [Den_ofK [] pr_L30_MergeKeepsBoth rfl]
  obtain ⟨cs, rows, ⟨g1, c1, r1', k1⟩, ⟨g2, c2, r2', k2⟩⟩ := x
  simp only [Case.cells, Edit.cells, List.cons_append, List.nil_append] at hm ⊢
  cases d : decide (0 < ((T.l.filter (clash A.l B.l)).length : Int)) with
  | true =>
    rw [d, cond_true] at m1 q
    have e1 : decide ((280 : Int) = 280) = true := rfl
    have e2 : decide ((280 : Int) = 0) = false := rfl
    clear q ha hb tb ta tc h
    generalize T.l.filter (clash A.l B.l) = C at *
    simp only [MR.av, noM_next, noM_l, noM_c, noM_e, go_sem] at m1
    simp only [f_L30_MergeKeepsBoth, hm, m1, e1, e2, go_sem]
  | false =>
    have hno := no_clash d
    rw [d, cond_false] at m1 q
    obtain ⟨q1, _, q3, _⟩ := q
    obtain ⟨w1, w2, w3⟩ := merged_ok ha tb ta (b := B) nb
    simp only [] at q1 q3
    have f1 := R30_Fresh T.next T.l A.l A.next (by omega)
    have f2 := R30_Fresh T.next T.l B.l B.next (by omega)
    have e1 : freshR T.next A.l = na := by rw [← fresh_eq _ _ ta.srt]; exact ha.fresh tb ta
    have e2 : freshR T.next B.l = nb := by rw [← fresh_eq _ _ tc.srt]; exact hb.fresh tb tc
    rw [e1] at f1
    rw [e2] at f2
    have ln : na.length ≤ A.l.length := by rw [ha.eq]; simp
    have ln2 : nb.length ≤ B.l.length := by rw [hb.eq]; simp
    have lk : (keptM A.l B.l T.l).length ≤ T.l.length := List.length_filterMap_le _ _
    have hML : (keptM A.l B.l T.l ++ na ++ numL A.next nb).length = (keptM A.l B.l T.l).length + (na.length + nb.length) := by simp only [List.length_append, numL_len]; omega
    have hcnt := cntM_eq A.l B.l T.l 0
    have hMF : ∀ (i : Int) (z : Line), getE (na ++ nb) i = some z → ∃ y, getE (keptM A.l B.l T.l ++ na ++ numL A.next nb) (((keptM A.l B.l T.l).length : Int) + i) = some y ∧ y.r = z.r := by
      intro i z hz
      unfold getE at hz ⊢
      split at hz
      · rename_i h0
        rw [if_pos (by omega)]
        have et : (((keptM A.l B.l T.l).length : Int) + i).toNat = (keptM A.l B.l T.l).length + i.toNat := by omega
        rw [et, List.append_assoc, List.getElem?_append_right (by omega)]
        have et2 : (keptM A.l B.l T.l).length + i.toNat - (keptM A.l B.l T.l).length = i.toNat := by omega
        rw [et2]
        rw [List.getElem?_append] at hz ⊢
        split at hz
        · rename_i hl
          rw [if_pos hl]
          exact ⟨z, hz, rfl⟩
        · rename_i hl
          rw [if_neg hl, numL_get, hz]
          exact ⟨_, rfl, rfl⟩
      · exact absurd hz (by simp)
    have rF : rowsOk (na ++ nb) := by
      intro z hz
      rcases List.mem_append.1 hz with hz | hz
      · exact ta.rows z (by rw [ha.eq]; simp [hz])
      · exact tc.rows z (by rw [hb.eq]; simp [hz])
    have an0 := ta.n0
    have vt := R27_ValidTable (A.next + nb.length) (keptM A.l B.l T.l ++ na ++ numL A.next nb) (by omega) (by omega) (by omega) w1 w2
    have rT := tb.rows
    have rA := ta.rows
    have rB := tc.rows
    have hlenM : (((keptM A.l B.l T.l ++ na ++ numL A.next nb).length : Int)) = ((keptM A.l B.l T.l).length : Int) + ((na.length : Int) + nb.length) := by omega
    rw [Int.zero_add] at hcnt
    generalize hkl : keptM A.l B.l T.l = kept at *
    generalize hM : kept ++ na ++ numL A.next nb = M at *
    have hwl : IntKind.wrap .i64 ((kept.length : Int) + ((na.length : Int) + nb.length)) = (kept.length : Int) + ((na.length : Int) + nb.length) := wrap_i64 (by omega) (by omega)
    have hwn : IntKind.wrap .i64 (A.next + (nb.length : Int)) = A.next + nb.length := wrap_i64 (by omega) (by omega)
    have e0 : decide ((0 : Int) = 0) = true := rfl
    have hb1 : na.length * 32 ≤ 140737488355328 := by clear m1 f1 f2 vt hm w3 hno hMF; omega
    have hb2 : (na.length + nb.length) * 32 ≤ 140737488355328 := by clear m1 f1 f2 vt hm w3 hno hMF; omega
    have hz : szOKb 2 (na.map Line.cells) = true := by rw [szOKb_iff, szOK_map 2 Line.cells na fun _ => rfl]; trivial
    simp only [MR.av, go_sem] at m1
    simp only [f_L30_MergeKeepsBoth, hm, m1, e0, go_sem]
    refine law_MKB_l0 T A B nb M (by omega) (by omega) (by omega) (by omega) rT rA rB hno w3 ?_
    rw [hcnt]
    have dl : decide ((M.length : Int) = (kept.length : Int) + ((na.length : Int) + nb.length)) = true := by simp only [decide_eq_true_eq]; exact hlenM
    simp only [f1, f2, hb1, hb2, hz, hwl, dl, vt, List.length_map, go_sem]
    simp only [← List.map_append, ← List.length_append]
    refine law_MKB_l1 T A B nb M (na ++ nb) kept.length (by omega) (by omega) (by rw [List.length_append]; omega) rF hMF ?_
    have dn : decide (A.next + (nb.length : Int) = A.next + nb.length) = true := by simp
    simp only [f2, hwn, dn, List.length_map, go_sem]
theorem row_MKB (xs : List AV) (h : Args Try.prog [28] xs) : Den prog 158 xs [] = some (.bool true, []) := by
  obtain ⟨n, x, ys, rfl, h1, h⟩ := h.one
  cases h.none
  obtain ⟨c, rfl, hc⟩ := sh_case h1
  simp only [avOf, Try.underlying28]
  exact law_MKB c hc
end Go.Den
