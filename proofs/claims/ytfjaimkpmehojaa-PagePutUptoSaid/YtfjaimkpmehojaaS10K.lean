/- Ch. 10: PagePut. -/
import Derived.Test.YtfjaimkpmehojaaS10I
namespace Go.Den
open Go
set_option linter.unusedSimpArgs false
set_option linter.unusedVariables false
set_option maxRecDepth 100000
set_option maxHeartbeats 1000000
theorem getG_bad {b : List UInt8} {a : Int} (h : (getG b a).2.2 ≠ 0) : getG b a = (noP, 0, (getG b a).2.2) := by
  unfold getG at h ⊢
  cases d1 : decide ((rU b a).2.2 = 0) with
  | false => rfl
  | true =>
  rw [d1] at h
  simp only [Bool.not_true, cond_false] at h ⊢
  cases d2 : (decide (4 < (rU b a).1) || decide ((rU b a).1 < 1)) with
  | true => rfl
  | false =>
  rw [d2] at h
  simp only [cond_false] at h ⊢
  cases d3 : decide ((rU b (rU b a).2.1).2.2 = 0) with
  | false => rfl
  | true =>
  rw [d3] at h
  simp only [Bool.not_true, cond_false] at h ⊢
  cases d4 : decide (1024 < (rU b (rU b a).2.1).1) with
  | true => rfl
  | false =>
  rw [d4] at h
  simp only [cond_false] at h ⊢
  cases d5 : decide ((rT b (rU b (rU b a).2.1).2.1).2.2 = 0) with
  | false => rfl
  | true =>
  rw [d5] at h
  simp at h
theorem putP_len (b : List UInt8) (p : Pg) (h : p.b.length < 10000000) : (putP b p).length ≤ b.length + 30 + p.b.length := by
  have h1 := leb_len10 (u64_lt p.kind)
  have h2 := leb_len10 (u64_lt p.rows)
  have h3 := leb_len10 (show p.b.length < 18446744073709551616 by omega)
  unfold putP
  simp only [List.length_append]; omega
theorem L10_Put (p : Pg) (b : List UInt8) (a : Int) (hki : -9223372036854775808 ≤ p.kind ∧ p.kind ≤ 9223372036854775807) (hri : -9223372036854775808 ≤ p.rows ∧ p.rows ≤ 9223372036854775807) (hpb : p.b.length ≤ 140737488351232) (hb : b.length ≤ 1048576) :
    Den prog 507 [.agg p.cells, .sl (b.map bcell), .int .i64 a] [] = some (.bool true, []) := by
  rw [Den_ofK [] pr_L10_PagePut rfl]
  cases ds : decide (20000 < (p.b.length : Int)) with
  | true => simp only [f_L10_PagePut, Pg.cells, ds, go_sem]
  | false =>
    have hp : p.b.length ≤ 20000 := by simp at ds; omega
    have hG := page_Get b a (by omega)
    have hG' := R10_Get b a (by omega)
    have hpg := put_get b a
    have hgb := @getG_bad b a
    have hP := page_Put b p (by omega) (by omega)
    have hP' := R10_Put b p (by omega) (by omega)
    have hwl := putP_len b p (by omega)
    have hS1 := R01_Same (putP b p) (putP b p) (by omega) (by omega)
    rw [decide_eq_true rfl] at hS1
    have hJ := R01_Join (putP b p) b (by omega) (by omega)
    have hG2 := page_Get (putP b p ++ b) b.length (by rw [List.length_append]; omega)
    rw [get_put b b p hp hki hri] at hG2
    generalize putP b p = W at *
    unfold G3 at hG hG' hG2
    have hfin : ∀ (k r : Int), (decide (k < 1) || (decide (4 < k) || (decide (r < 0) || decide (1024 < r)))) = !(kindOk k && rowsOk r) := by
      intro k r
      unfold kindOk rowsOk
      rw [Bool.eq_iff_iff]; simp; omega
    have hfk := hfin p.kind p.rows
    have hSp := R10_Same p p (by omega) (by omega)
    rw [samP_iff.2 rfl] at hSp
    obtain ⟨pk, pr, pb⟩ := p
    simp only [Pg.cells] at *
    have hend : ∀ q : Bool, (kindOk pk && rowsOk pr) = q → (if kindOk pk = true ∧ rowsOk pr = true then ((⟨pk, pr, pb⟩ : Pg), (W.length : Int), (0 : Int)) else (noP, 0, 100)) = bif q then ((⟨pk, pr, pb⟩ : Pg), (W.length : Int), (0 : Int)) else (noP, 0, 100) := by
      intro q hq
      cases q with
      | true => rw [Bool.and_eq_true] at hq; rw [if_pos hq]; rfl
      | false => rw [if_neg (fun h => by rw [h.1, h.2] at hq; exact absurd hq (by decide))]; rfl
    generalize hkr : (kindOk pk && rowsOk pr) = q at *
    rw [hend q rfl] at hG2
    clear hend hfin hkr
    have e0 : decide ((0 : Int) = 0) = true := rfl
    have e1 : decide ((100 : Int) = 0) = false := rfl
    have e2 : decide ((W.length : Int) = (W.length : Int)) = true := decide_eq_true rfl
    have e3 : decide ((100 : Int) = 100) = true := rfl
    cases d1 : decide (pk < 1) <;> cases d2 : decide (4 < pk) <;> cases d3 : decide (pr < 0) <;> cases d4 : decide (1024 < pr) <;> rw [d1, d2, d3, d4] at hfk <;> cases q <;> first | (exact absurd hfk (by decide)) | skip
    all_goals
      simp only [cond_true, cond_false, noP, List.map_append] at hG2
      by_cases he : (getG b a).2.2 = 0
      · obtain ⟨g1, g2, g3, g4, g5, g6⟩ := hpg he
        have hSg := R10_Same (getG b a).1 (getG b a).1 (by omega) (by omega)
        rw [samP_iff.2 rfl] at hSg
        have hQ := page_Put (b.take a.toNat) (getG b a).1 (by simp; omega) (by omega)
        rw [g5] at hQ
        have hS2 := R01_Same (b.take (getG b a).2.1.toNat) (b.take (getG b a).2.1.toNat) (by simp; omega) (by simp; omega)
        rw [decide_eq_true rfl] at hS2
        clear g5 hpg hgb
        generalize getG b a = g at *
        obtain ⟨⟨gk, gr, gb⟩, nx, e⟩ := g
        simp only [Pg.cells] at *
        subst he
        have e4 : decide (nx = nx) = true := decide_eq_true rfl
        simp only [List.map_take] at hQ hS2
        simp only [f_L10_PagePut, ds, d1, d2, d3, d4, hG, hG', hSg, hP, hP', hS1, hJ, hG2, hQ, hS2, hSp, e0, e1, e2, e3, e4, g1, g2, g3, g4, go_sem]
      · have hb := hgb he
        have de : decide ((getG b a).2.2 = 0) = false := decide_eq_false he
        have hSg := R10_Same noP noP (by decide) (by decide)
        rw [samP_iff.2 rfl] at hSg
        rw [hb] at hG hG'
        clear hpg hgb
        simp only [] at hG hG'
        generalize (getG b a).2.2 = e at *
        simp only [Pg.cells, noP, List.map_nil] at *
        have e4 : decide (e = e) = true := decide_eq_true rfl
        simp only [f_L10_PagePut, ds, d1, d2, d3, d4, hG, hG', hSg, hP, hP', hS1, hJ, hG2, hSp, e0, e1, e2, e3, e4, de, go_sem]
end Go.Den
