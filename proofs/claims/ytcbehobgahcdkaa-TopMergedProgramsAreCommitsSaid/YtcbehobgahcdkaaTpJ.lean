/- TopMergedProgramsAreCommits. -/
import Derived.Test.YtcbehobgahcdkaaTpI
namespace Go.Den
open Go Go.Proofs
set_option linter.unusedSimpArgs false
set_option linter.unusedVariables false
set_option maxRecDepth 100000
set_option maxHeartbeats 1000000
theorem runL_step {fb : Pro → Bool} {p : Pro} {r : List Pro} {t : Table} {i : Int} (h1 : fb p = false) (h2 : (runS p t).e = 0) : runL fb t i (p :: r) = runL fb ⟨(runS p t).next, (runS p t).l⟩ (i + 1) r := by
  rw [runL, h1, h2]; rfl
theorem runL_err {fb : Pro → Bool} {p : Pro} {r : List Pro} {t : Table} {i : Int} (h1 : fb p = false) (h2 : (runS p t).e ≠ 0) : runL fb t i (p :: r) = ⟨t.next, t.l, i, (runS p t).e⟩ := by
  have : decide ((runS p t).e = 0) = false := by simpa using h2
  rw [runL, h1, this]; rfl
theorem runL_ref {fb : Pro → Bool} {p : Pro} {r : List Pro} {t : Table} {i : Int} (h1 : fb p = true) : runL fb t i (p :: r) = ⟨t.next, t.l, i, 280⟩ := by
  rw [runL, h1]; rfl
theorem progs_e1 {fb : Table → Pro → Bool} {T : Table} {A B : List Pro} {n e i : Int} {l : List Line} (he : e ≠ 0) (h : runL (fun _ => false) T 0 A = ⟨n, l, i, e⟩) : (progsS fb T A B).n = i ∧ (progsS fb T A B).e = e := by
  have : decide (e = 0) = false := by simpa using he
  unfold progsS
  rw [h]
  simp only [this, cond_false, and_self]
theorem progs_e2 {fb : Table → Pro → Bool} {T u : Table} {A B : List Pro} {n e i j : Int} {l : List Line} (he : e ≠ 0) (h : runL (fun _ => false) T 0 A = ⟨u.next, u.l, j, 0⟩) (h2 : runL (fb u) u 0 B = ⟨n, l, i, e⟩) : (progsS fb T A B).n = A.length + i ∧ (progsS fb T A B).e = e := by
  have : decide (e = 0) = false := by simpa using he
  have hu : (⟨u.next, u.l⟩ : Table) = u := rfl
  have hz : decide ((0 : Int) = 0) = true := rfl
  unfold progsS progsT
  rw [h]
  simp only [hz, cond_true, hu]
  rw [h2]
  simp only [this, decide_true, cond_true, cond_false, and_self]
theorem progs_e3 {fb : Table → Pro → Bool} {T u w : Table} {A B : List Pro} {i j : Int} (h : runL (fun _ => false) T 0 A = ⟨u.next, u.l, j, 0⟩) (h2 : runL (fb u) u 0 B = ⟨w.next, w.l, i, 0⟩) : progsS fb T A B = ⟨w.next, w.l, A.length + B.length, 0⟩ := by
  have hu : (⟨u.next, u.l⟩ : Table) = u := rfl
  have hz : decide ((0 : Int) = 0) = true := rfl
  unfold progsS progsT
  rw [h]
  simp only [hz, cond_true, hu]
  rw [h2]
  simp only [hz, decide_true, cond_true]
theorem TW.ti {j : Int} {t : Table} (h : TW j t) (hj : j ≤ 10) : TI 4 t := ⟨by have := h.len; omega, fun x hx => by have := h.row x hx; omega, h.vt.n0, by have := h.nx; omega⟩
theorem law_Merged (x : Cmt) (h : CmtOk x) : Den prog 171 [.agg x.cells] [] = some (.bool true, []) := by
  obtain ⟨v, hc⟩ := T_commits x h
  obtain ⟨pk, pl⟩ := progsC_ok (x := x)
  have hF := (schS_inv x.cs 8).len
  obtain ⟨tb, tl, tn⟩ := tab_ok (fs := schS x.cs 8) (by omega) x.rows
  obtain ⟨A, B, hL, lA, lB⟩ : ∃ A B : List Pro, progsC x = A ++ B ∧ A.length ≤ 4 ∧ B.length = 2 := ⟨_, _, rfl, madeP_len _ _ _, rfl⟩
  generalize tabS (schS x.cs 8) x.rows 20 = T at *
  have hLl : (progsC x).length = A.length + 2 := by rw [hL, List.length_append, lB]
  have sA : ∀ σ : St, sliceV 16 (.sl ((progsC x).map Pro.cells)) none (some (.int .i64 A.length)) none σ = some (.sl (A.map Pro.cells), σ, false) := fun σ => by
    have := sliceV_to σ 16 ((progsC x).map Pro.cells) .i64 A.length (by omega) (by rw [List.length_map]; omega) (by rw [szOK_map 16 Pro.cells _ pro_len]; trivial)
    rw [this, hL]; simp
  have sB : ∀ σ : St, sliceV 16 (.sl ((progsC x).map Pro.cells)) (some (.int .i64 A.length)) none none σ = some (.sl (B.map Pro.cells), σ, false) := fun σ => by
    have := sliceV_from σ 16 ((progsC x).map Pro.cells) .i64 A.length (by omega) (by rw [List.length_map]; omega) (by rw [szOK_map 16 Pro.cells _ pro_len]; trivial)
    rw [this, hL]; simp
  have pa : ∀ p ∈ A, PrOK p := fun p hp => pk p (by rw [hL]; simp [hp])
  have pb : ∀ p ∈ B, PrOK p := fun p hp => pk p (by rw [hL]; simp [hp])
  generalize progsC x = L at *
  have hw : TW 0 T := ⟨tb.vt (by omega), tb.row, by omega, by omega⟩
  have hmp := Programs_small tb (by omega) (a := A) (b := B) (by omega) (by omega) pa pb (by omega)
  have hsub : IntKind.wrap .i64 ((L.length : Int) - 2) = A.length := by rw [show ((L.length : Int) - 2) = A.length by omega]; exact wrap_i64 (by omega) (by omega)
  have hleq : (L.length : Int) = A.length + B.length := by omega
  have hAB : (A.length : Int) + B.length ≤ 10 := by omega
  have hRd : ∃ R, R = progsS (feedB T) T A B := ⟨_, rfl⟩
  obtain ⟨R, hR⟩ := hRd
  rw [← hR] at hmp
  clear tb tl tn hL
  obtain ⟨cs, rows, done, ⟨⟨r1, r2, r3, r4, r5, r6, r7⟩, ⟨p1, p2, p3, p4, p5, p6, p7⟩, add, gs⟩, ⟨⟨r'1, r'2, r'3, r'4, r'5, r'6, r'7⟩, ⟨p'1, p'2, p'3, p'4, p'5, p'6, p'7⟩, add', gs'⟩⟩ := x
  rw [Den_ofK [] pr_T_TopMergedProgramsAreCommits rfl]
  simp only [Cmt.cells, Raw.cells, Prd.cells_mk, List.cons_append, List.nil_append, PR.av, go_sem] at hc hmp ⊢
  simp only [f_T_TopMergedProgramsAreCommits, hc, hmp, sA, sB, hsub, go_sem]
  generalize schS cs 8 = fs at *
  clear hc h sA sB
  refine range_ind A (by omega) (fun i (t : Table) => (Run prog 0 (.loop 4 [3, 5, 6, 7, 8, 9, 10, 11, 12, 13] f_T_TopMergedProgramsAreCommits_l0) [(3, .bool true), (5, .ref 1 0), (6, .sl (L.map Pro.cells)), (7, .sl (A.map Pro.cells)), (8, .sl (B.map Pro.cells)), (9, .ref 2 0), (10, .int .i64 R.n), (11, .int .i64 R.e), (12, .ref 3 0), (13, .int .i64 i)]
      [.cells [.sl (fs.map Fld.cells), .int .i64 v], .cells [.int .i64 T.next, .sl (T.l.map Line.cells)], .cells [.int .i64 R.next, .sl (R.l.map Line.cells)], .cells [.int .i64 t.next, .sl (t.l.map Line.cells)]]).bind _ = _)
    (fun i rest t => TW i t ∧ i ≤ 5 ∧ runL (fun _ => false) T 0 A = runL (fun _ => false) t i rest) ?_ ?_ T ⟨hw, by omega, rfl⟩
  · intro t ⟨ht, hi, hr⟩
    have rT : rowsOk T.l := fun x hx => by have := hw.row x hx; omega
    have rt : rowsOk t.l := fun x hx => by have := ht.row x hx; omega
    obtain ⟨fl, fo⟩ := feed_small hw.vt ht.vt rT rt
    have hfd := Feed_small (a := T) (b := t) ⟨by have := hw.len; omega, fun x hx => by have := hw.row x hx; omega⟩ ⟨by have := ht.len; omega, fun x hx => by have := ht.row x hx; omega⟩
    have hr1 : runL (fun _ => false) T 0 A = ⟨t.next, t.l, 0, 0⟩ := hr
    rw [Run_loop]
    simp only [f_T_TopMergedProgramsAreCommits_l0_eq, f_T_TopMergedProgramsAreCommits_l0u, hfd, go_sem]
    refine range_ind B (by omega) (fun i (u : Table) => (Run prog 0 (.loop 4 [3, 6, 7, 8, 9, 10, 11, 12, 16, 17] f_T_TopMergedProgramsAreCommits_l1) [(3, .bool true), (6, .sl (L.map Pro.cells)), (7, .sl (A.map Pro.cells)), (8, .sl (B.map Pro.cells)), (9, .ref 2 0), (10, .int .i64 R.n), (11, .int .i64 R.e), (12, .ref 3 0), (16, .sl ((feed T t).map Event.cells)), (17, .int .i64 i)]
        [.cells [.sl (fs.map Fld.cells), .int .i64 v], .cells [.int .i64 T.next, .sl (T.l.map Line.cells)], .cells [.int .i64 R.next, .sl (R.l.map Line.cells)], .cells [.int .i64 u.next, .sl (u.l.map Line.cells)]]).bind _ = _)
      (fun i rest u => TW (A.length + i) u ∧ i ≤ 4 ∧ runL (feedB T t) t 0 B = runL (feedB T t) u i rest) ?_ ?_ t ⟨by simpa using ht, by omega, rfl⟩
    · intro u ⟨hu, hi2, hr2⟩
      have hr3 : runL (feedB T t) t 0 B = ⟨u.next, u.l, 0, 0⟩ := hr2
      rw [progs_e3 (fb := feedB T) hr1 hr3] at hR
      subst hR
      have dL : decide ((A.length : Int) + B.length = L.length) = true := by rw [decide_eq_true_eq]; omega
      have d0 : decide ((0 : Int) = 0) = true := rfl
      have st := SameTable_refl (n := u.next) (L := u.l) (by have := hu.len; omega) (fun x hx => by have := hu.row x hx; omega)
      clear hmp hfd hr hr2 hr3 hr1
      rw [Run_loop]
      simp only [f_T_TopMergedProgramsAreCommits_l1_eq, f_T_TopMergedProgramsAreCommits_l1u, st, dL, d0, go_sem]
    · intro i pre rest p u hq _ hi0 hi1 hx hc hwr ⟨hu, hi2, hr2⟩ ih
      have hp := pb p (by rw [hq]; simp)
      have pl16 := pro_len p
      have ti := hu.ti (by clear hx hc hwr ih; omega)
      have g1 := rebase_Rebase (feed T t) fl fo p hp u ti
      have d0 : decide ((0 : Int) = 0) = true := rfl
      have hwr2 : IntKind.wrap .i64 ((A.length : Int) + i) = A.length + i := wrap_i64 (by clear hx hc hwr ih; omega) (by clear hx hc hwr ih; omega)
      unfold rebS at g1
      cases hf : evB (feed T t) p with
      | true =>
        rw [hf, cond_true] at g1
        have dn : decide ((280 : Int) = 0) = false := rfl
        rw [runL_ref (fb := feedB T t) hf] at hr2
        obtain ⟨e1, e2⟩ := progs_e2 (fb := feedB T) (B := B) (by decide) hr1 hr2
        rw [← hR] at e1 e2
        have d1 : decide (R.n = (A.length : Int) + i) = true := by simpa using e1
        have d2 : decide (R.e = 280) = true := by simpa using e2
        clear hr hr2 hr1 ih e1 e2 hmp hfd
        obtain ⟨⟨r1, r2, r3, r4, r5, r6, r7⟩, ⟨p1, p2, p3, p4, p5, p6, p7⟩, add, gs⟩ := p
        simp only [Pro.cells, Prd.cells_mk, List.cons_append, List.nil_append, go_sem] at g1 hx
        rw [Run_loop]
        simp only [f_T_TopMergedProgramsAreCommits_l1_eq, f_T_TopMergedProgramsAreCommits_l1u, hx, hc, hwr, hwr2, g1, dn, d1, d2, Pro.cells, Prd.cells_mk, List.cons_append, List.nil_append, go_sem]
      | false =>
        rw [hf, cond_false] at g1
        by_cases he : (runS p u).e = 0
        · rw [runL_step (fb := feedB T t) hf he] at hr2
          have hw2 := hu.run hp he
          have ih := ih ⟨(runS p u).next, (runS p u).l⟩ ⟨by rw [← Int.add_assoc]; exact hw2, by clear hx hc hwr hwr2 ih g1; omega, hr2⟩
          clear hw2 hr hr2 hr1 hmp hfd
          have dz : decide ((runS p u).e = 0) = true := by simpa using he
          rw [dz] at g1
          simp only [Bool.not_true, cond_false] at g1
          generalize verdictS (feed T t) p = vd at *
          generalize runS p u = Q at *
          obtain ⟨rn, rl, re⟩ := Q
          obtain ⟨⟨r1, r2, r3, r4, r5, r6, r7⟩, ⟨p1, p2, p3, p4, p5, p6, p7⟩, add, gs⟩ := p
          simp only [Pro.cells, Prd.cells_mk, List.cons_append, List.nil_append, go_sem] at g1 ih hx
          rw [Run_loop]
          simp only [f_T_TopMergedProgramsAreCommits_l1_eq, f_T_TopMergedProgramsAreCommits_l1u, hx, hc, hwr, g1, d0, ih, Pro.cells, Prd.cells_mk, List.cons_append, List.nil_append, go_sem]
        · rw [runL_err (fb := feedB T t) hf he] at hr2
          obtain ⟨e1, e2⟩ := progs_e2 (fb := feedB T) (B := B) he hr1 hr2
          rw [← hR] at e1 e2
          have dz : decide ((runS p u).e = 0) = false := by simpa using he
          rw [dz] at g1
          simp only [Bool.not_false, cond_true] at g1
          have d1 : decide (R.n = (A.length : Int) + i) = true := by simpa using e1
          have d2 : decide (R.e = (runS p u).e) = true := by simpa using e2
          clear hr hr2 hr1 ih e1 e2 he hmp hfd
          generalize verdictS (feed T t) p = vd at *
          generalize runS p u = Q at *
          obtain ⟨rn, rl, re⟩ := Q
          obtain ⟨⟨r1, r2, r3, r4, r5, r6, r7⟩, ⟨p1, p2, p3, p4, p5, p6, p7⟩, add, gs⟩ := p
          simp only [Pro.cells, Prd.cells_mk, List.cons_append, List.nil_append, go_sem] at g1 hx dz d2
          rw [Run_loop]
          simp only [f_T_TopMergedProgramsAreCommits_l1_eq, f_T_TopMergedProgramsAreCommits_l1u, hx, hc, hwr, hwr2, g1, dz, d1, d2, Pro.cells, Prd.cells_mk, List.cons_append, List.nil_append, go_sem]
  · intro i pre rest p t hq _ hi0 hi1 hx hc hwr ⟨ht, hi, hr⟩ ih
    have hp := pa p (by rw [hq]; simp)
    have pl16 := pro_len p
    have g1 := Run_ti hp (ht.ti (by clear hx hc hwr ih; omega))
    by_cases he : (runS p t).e = 0
    · rw [runL_step rfl he] at hr
      have hw2 := ht.run hp he
      have ih := ih ⟨(runS p t).next, (runS p t).l⟩ ⟨hw2, by clear hx hc hwr ih; omega, hr⟩
      have d0 : decide ((0 : Int) = 0) = true := rfl
      clear hw2 hr
      generalize runS p t = Q at *
      obtain ⟨rn, rl, re⟩ := Q
      simp only [] at he
      subst he
      obtain ⟨⟨r1, r2, r3, r4, r5, r6, r7⟩, ⟨p1, p2, p3, p4, p5, p6, p7⟩, add, gs⟩ := p
      simp only [Pro.cells, Prd.cells_mk, List.cons_append, List.nil_append, go_sem] at g1 ih hx
      rw [Run_loop]
      simp only [f_T_TopMergedProgramsAreCommits_l0_eq, f_T_TopMergedProgramsAreCommits_l0u, hx, hc, hwr, g1, d0, ih, Pro.cells, Prd.cells_mk, List.cons_append, List.nil_append, go_sem]
    · rw [runL_err rfl he] at hr
      obtain ⟨e1, e2⟩ := progs_e1 (fb := feedB T) (B := B) he hr
      rw [← hR] at e1 e2
      have d0 : decide ((runS p t).e = 0) = false := by simpa using he
      have d1 : decide (R.n = i) = true := by simpa using e1
      have d2 : decide (R.e = (runS p t).e) = true := by simpa using e2
      clear hr ih e1 e2 he
      generalize runS p t = Q at *
      obtain ⟨rn, rl, re⟩ := Q
      obtain ⟨⟨r1, r2, r3, r4, r5, r6, r7⟩, ⟨p1, p2, p3, p4, p5, p6, p7⟩, add, gs⟩ := p
      simp only [Pro.cells, Prd.cells_mk, List.cons_append, List.nil_append, go_sem] at g1 hx d0 d2
      rw [Run_loop]
      simp only [f_T_TopMergedProgramsAreCommits_l0_eq, f_T_TopMergedProgramsAreCommits_l0u, hx, hc, hwr, g1, d0, d1, d2, Pro.cells, Prd.cells_mk, List.cons_append, List.nil_append, go_sem]
theorem row_TMC (xs : List AV) (h : Args Try.prog [33] xs) : Den prog 171 xs [] = some (.bool true, []) := by
  obtain ⟨n, x, ys, rfl, h1, h⟩ := h.one
  cases h.none
  obtain ⟨c, rfl, hc⟩ := sh_cmt h1
  simp only [avOf, Try.underlying33]
  exact law_Merged c hc
end Go.Den
