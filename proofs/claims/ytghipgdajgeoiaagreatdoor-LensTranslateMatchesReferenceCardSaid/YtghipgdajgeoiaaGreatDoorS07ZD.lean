/- LensMatchesReference. -/
import Derived.Test.YtghipgdajgeoiaaGreatDoorS07Y
import Derived.Test.YtghipgdajgeoiaaGreatDoorSh07
namespace Go.Den
open Go Go.Proofs
set_option linter.unusedSimpArgs false
set_option linter.unusedVariables false
set_option maxRecDepth 100000
set_option maxHeartbeats 1000000
theorem eqC_self (x : Cell) : eqC x x = true := by unfold eqC; simp
theorem sameL_self : ∀ r : List Cell, sameL r r = true
  | [] => rfl
  | c :: r => by rw [sameL, eqC_self, sameL_self r]; rfl
theorem Same_self (r : List Cell) (hL : r.length < 1000000000000000) : Den prog 12 [.agg [.sl (r.map Cell.cells)], .agg [.sl (r.map Cell.cells)]] [] = some (.bool true, []) := by
  rw [R06_SameRow r r hL, sameL_self]
theorem forwardL_len {fs : List Fld} {next : Int} (s : SV fs next) {c : Chg} (hc : COK c) (r : List Cell) : (forwardL fs next c r).length < 1000000000000000 := by
  unfold forwardL
  cases d : decide ((applyC fs next c).e = 0) with
  | false => rw [Bool.false_and]; exact Nat.zero_lt_succ _
  | true => cases d2 : fitsS fs 0 r with
    | false => rw [Bool.and_false]; exact Nat.zero_lt_succ _
    | true =>
      have he := of_decide_eq_true d
      have := (fits_rk (applyC_sv s hc he) (fwd_fits s hc he d2)).len
      rw [Bool.and_self, cond_true]
      omega
theorem backL_len {fs : List Fld} {next : Int} (s : SV fs next) {c : Chg} (hc : COK c) (r : List Cell) : (backL fs next c r).length < 1000000000000000 := by
  unfold backL
  cases d : decide ((applyC fs next c).e = 0) with
  | false => rw [Bool.false_and]; exact Nat.zero_lt_succ _
  | true => cases d2 : fitsS (applyC fs next c).fs 0 r with
    | false => rw [Bool.and_false]; exact Nat.zero_lt_succ _
    | true =>
      have he := of_decide_eq_true d
      have f2 : fitsS fs 0 (bakL c next r) = true := of_ft s.n.q.pos (bak_ft (eff_of s he) s.bd (ft_of d2))
      have := (fits_rk s f2).len
      rw [Bool.and_self, cond_true]
      omega
/-- What Forward, Back and Lossless come to, on both sides. -/
theorem three {fs : List Fld} {next : Int} (s : SV fs next) {c : Chg} (hc : COK c) (r : List Cell) (hr : r.length < 1000000000000000) (hb : RB r) : ∃ (A B : List Cell) (b : Bool),
    Den prog 247 [.agg [.sl (fs.map Fld.cells), .int .i64 next], .agg c.cells, .agg [.sl (r.map Cell.cells)]] [] = some (.agg [.sl (A.map Cell.cells)], []) ∧
    Den prog 261 [.agg [.sl (fs.map Fld.cells), .int .i64 next], .agg c.cells, .agg [.sl (r.map Cell.cells)]] [] = some (.agg [.sl (A.map Cell.cells)], []) ∧
    Den prog 12 [.agg [.sl (A.map Cell.cells)], .agg [.sl (A.map Cell.cells)]] [] = some (.bool true, []) ∧
    Den prog 248 [.agg [.sl (fs.map Fld.cells), .int .i64 next], .agg c.cells, .agg [.sl (r.map Cell.cells)]] [] = some (.agg [.sl (B.map Cell.cells)], []) ∧
    Den prog 262 [.agg [.sl (fs.map Fld.cells), .int .i64 next], .agg c.cells, .agg [.sl (r.map Cell.cells)]] [] = some (.agg [.sl (B.map Cell.cells)], []) ∧
    Den prog 12 [.agg [.sl (B.map Cell.cells)], .agg [.sl (B.map Cell.cells)]] [] = some (.bool true, []) ∧
    Den prog 250 [.agg [.sl (fs.map Fld.cells), .int .i64 next], .agg c.cells, .agg [.sl (r.map Cell.cells)]] [] = some (.bool b, []) ∧
    Den prog 263 [.agg [.sl (fs.map Fld.cells), .int .i64 next], .agg c.cells, .agg [.sl (r.map Cell.cells)]] [] = some (.bool b, []) :=
  ⟨_, _, _, lens_Forward s c hc r hr hb, R07_Forward s c hc r hr hb, Same_self _ (forwardL_len s hc r), lens_Back s c hc r hr hb, R07_Back s c hc r hr hb, Same_self _ (backL_len s hc r), lens_Lossless s c hc r hr hb, R07_Lossless s c hc r hr hb⟩
theorem law_LMR (L : List Chg) (c : Chg) (V : List Val) (W : List Cell) (hk : CaseOk L c V) (hW : W.length < 1000000000000000) (hWb : RB W) : Den prog 265 [caseC L c V, .agg [.sl (W.map Cell.cells)]] [] = some (.bool true, []) := by
  obtain ⟨fs, next, ta, hT, sv⟩ := start07 L 20
  have hmade := made07 L c V hk.l hk.lc hk.c fs next ta 0 hT
  have hsm := small07 L c V hk.v
  have hck := chgS_ok fs next c
  have hcc : COK c := ⟨hk.c.name, hk.c.other⟩
  have hl64 := sv.i.len
  have hR := R06_Row fs next V (by omega)
  have hrl := rowS_len fs V
  have hrb : RB (rowS fs V) := rowS_bnd sv fs V (fun _ h => h) hk.vb
  have ha := R06_Apply fs next (chgS fs next c) sv.i.ok hck
  have hal := applyC_fits sv (chgS fs next c) hck
  have hQ := R06_Row (applyC fs next (chgS fs next c)).fs (applyC fs next (chgS fs next c)).next V (by omega)
  have hql := rowS_len (applyC fs next (chgS fs next c)).fs V
  have hqb : RB (rowS (applyC fs next (chgS fs next c)).fs V) := by
    by_cases he : (applyC fs next (chgS fs next c)).e = 0
    · exact rowS_bnd (applyC_sv sv hck he) _ V (fun _ h => h) hk.vb
    · rw [(applyC_zr fs next _ he).1]
      intro x hx
      cases V <;> simp [rowS] at hx
  generalize chgS fs next c = y at *
  generalize rowS (applyC fs next y).fs V = Q at *
  generalize rowS fs V = R at *
  obtain ⟨A1, _, b1, a1, a2, a3, _, _, _, a4, a5⟩ := three sv hck R (by omega) hrb
  obtain ⟨_, B1, _, _, _, _, a6, a7, a8, _, _⟩ := three sv hck Q (by omega) hqb
  obtain ⟨A2, _, b2, c1, c2, c3, _, _, _, c4, c5⟩ := three sv hcc R (by omega) hrb
  obtain ⟨_, B2, _, _, _, _, c6, c7, c8, _, _⟩ := three sv hcc Q (by omega) hqb
  obtain ⟨A3, B3, b3, d1, d2, d3, d4, d5, d6, d7, d8⟩ := three sv hck W hW hWb
  rw [Den_ofK [] pr_L07_LensMatchesReference rfl]
  generalize applyC fs next y = q at *
  obtain ⟨f1, n1, e1⟩ := q
  simp only [SR.av] at ha
  unfold caseC at hmade hsm ⊢
  rw [cells_chg] at hmade ha a1 a2 a4 a5 a6 a7 c1 c2 c4 c5 c6 c7 d1 d2 d4 d5 d7 d8
  clear hql hqb hal hrl hrb sv hck hcc hWb hT hl64 hk
  cases d0 : smallB L c V with
  | false =>
    rw [d0] at hsm
    simp only [f_L07_LensMatchesReference, hsm, go_sem]
  | true =>
    rw [d0] at hsm
    cases dw : decide (200 < (W.length : Int)) with
    | true => simp only [f_L07_LensMatchesReference, hsm, dw, go_sem]
    | false =>
      clear hW
      simp only [f_L07_LensMatchesReference, hsm, hmade, ha, hR, hQ, dw, a1, a2, a3, a4, a5, a6, a7, a8, c1, c2, c3, c4, c5, c6, c7, c8, d1, d2, d3, d4, d5, d6, d7, d8, beq_self_eq_true, go_sem]
theorem row_LMR (xs : List AV) (h : Args Tryz.prog [27, 30] xs) : Den prog 265 xs [] = some (.bool true, []) := by
  obtain ⟨n, x, ys, rfl, h1, h⟩ := h.one
  obtain ⟨n2, x2, ys2, rfl, h2, h⟩ := h.one
  cases h.none
  obtain ⟨L, c, V, e, hk⟩ := sh_case h1
  obtain ⟨W, rfl, hW, hWb⟩ := sh_row7 h2
  simp only [avOf, Tryz.underlying27, Tryz.underlying30]
  rw [e]
  exact law_LMR L c V W hk hW hWb
end Go.Den
