/- Ch. 10: PageGrowth. -/
import Derived.Test.YtfjaimkpmehojaaS10N
import Derived.Test.YtfjaimkpmehojaaS10E
import Derived.Test.YtfjaimkpmehojaaS10I
import Derived.Test.YtfjaimkpmehojaaSh10
namespace Go.Den
open Go Go.Proofs
set_option linter.unusedSimpArgs false
set_option linter.unusedVariables false
set_option maxRecDepth 100000
set_option maxHeartbeats 1000000
theorem L10_Growth (l : List Val) (n : Int) (v : Val) (hL : l.length < 1000000000000000) (hi : ∀ v ∈ l, InB v) (h0 : 0 ≤ n) (h1 : n < 256) (hv : InB v) : Den prog 506 [.agg [.sl (l.map Val.cells), .int .u8 n], .agg v.cells] [] = some (.bool true, []) := by
  rw [Den_ofK [] pr_L10_PageGrowth rfl]
  have hm := L10_made l n hL h0 h1
  have ht := typT_ok h0
  obtain ⟨ho, hb, hl⟩ := madeL_ok ht hi
  have hx := made_ok ht hv
  have hM := R05_Made v.null v.n v.s (typT n)
  obtain ⟨vb, vn, vs⟩ := v
  simp only [] at hM
  cases hs : smallB l with
  | false => simp only [f_L10_PageGrowth, hs, hL, Val.cells, go_sem]
  | true =>
  cases hs2 : decide (1000 < (vs.size : Int)) with
  | true => simp only [f_L10_PageGrowth, hs, hs2, hL, Val.cells, go_sem]
  | false =>
    generalize madeL l (typT n) = m at hm ho hb hl
    generalize typT n = t at hm ho ht hx hM
    generalize madeV ⟨vb, vn, vs⟩ t = x at hx hM
    obtain ⟨q, hq1, hq2⟩ : ∃ q : List Val, (decide ((m.length : Int) = 1024) = true ∧ q = m.drop 1 ∨ decide ((m.length : Int) = 1024) = false ∧ q = m) ∧ q.length ≤ 1023 := by
      by_cases e : m.length = 1024
      · exact ⟨m.drop 1, .inl ⟨by simp; omega, rfl⟩, by simp; omega⟩
      · exact ⟨m, .inr ⟨by simp; omega, rfl⟩, by omega⟩
    have hqc : Col q t := by
      intro w hw
      have : w ∈ m := by
        rcases hq1 with ⟨_, e⟩ | ⟨_, e⟩
        · rw [e] at hw; exact List.mem_of_mem_drop hw
        · rw [e] at hw; exact hw
      exact ⟨okL_mem ho w this, hb w this⟩
    have okq : ∀ L : List Val, Col L t → okL L t = true := fun L h => by
      unfold okL; rw [List.all_eq_true]; exact fun v hv => (h v hv).1
    have inq : ∀ L : List Val, Col L t → ∀ v ∈ L, InB v := fun L h v hv => (h v hv).2
    have c1 : chkP 1 t = 0 := by rw [chkP_def ht (by decide)]; rfl
    have c4 : chkP 4 t = 0 := by rw [chkP_def ht (by decide)]; rfl
    have hmc : Col (q ++ [x]) t := by
      intro w hw
      rcases List.mem_append.1 hw with h | h
      · exact hqc w h
      · simp at h; rw [h]; exact hx
    obtain ⟨D, hD⟩ : ∃ D, (q ++ [x]).drop 1 = D := ⟨_, rfl⟩
    have hDc : Col D t := fun w hw => hmc w (List.mem_of_mem_drop (by rw [hD]; exact hw))
    have hDl : D.length = q.length := by rw [← hD]; simp
    have hDx : Col (D ++ [x]) t := by
      intro w hw
      rcases List.mem_append.1 hw with h | h
      · exact hDc w h
      · simp at h; rw [h]; exact hx
    have hE1 := page_Encode q t 1 (inq q hqc) (by omega)
    rw [enc_made (by omega) (okq q hqc) c1] at hE1
    have hE2 := page_Encode (q ++ [x]) t 1 (inq _ hmc) (by simp; omega)
    rw [enc_made (by simp; omega) (okq _ hmc) c1] at hE2
    have hE3 := page_Encode D t 4 (inq D hDc) (by omega)
    rw [enc_made (by omega) (okq D hDc) c4] at hE3
    have hE4 := page_Encode (D ++ [x]) t 4 (inq _ hDx) (by simp; omega)
    rw [enc_made (by simp; omega) (okq _ hDx) c4] at hE4
    have hps := plain_snoc q x t
    have hrs : decide ((q.length : Int) + 1 = 1) = true ∨ ((runsP (D ++ [x]) t).length = (runsP D t).length ∨ (runsP (D ++ [x]) t).length = (runsP D t).length + 1) := by
      cases q with
      | nil => exact .inl rfl
      | cons y r =>
        right
        refine runs_snoc x D t ?_
        rw [← hD]; simp
    have hl1 := maskOf_len q
    have hl2 := maskOf_len (q ++ [x])
    have hc1 := conP_len 1 (show q.length ≤ 1024 by omega) hqc
    have hc2 := conP_len 1 (show (q ++ [x]).length ≤ 1024 by simp; omega) hmc
    have hc4 := conP_len 4 (show D.length ≤ 1024 by omega) hDc
    have e1 : conP q t 1 = plainP q t := rfl
    have e2 : conP (q ++ [x]) t 1 = plainP (q ++ [x]) t := rfl
    have e3 : conP D t 4 = runsP D t := rfl
    have e4 : conP (D ++ [x]) t 4 = runsP (D ++ [x]) t := rfl
    rw [e1] at hE1 hc1
    rw [e2] at hE2 hc2
    rw [e3] at hE3 hc4
    rw [e4] at hE4
    have hg1 : (q.length + 7) / 8 ≤ (plainP q t).length := by unfold plainP; rw [List.length_append, hl1]; omega
    have hg2 : (q.length + 1 + 7) / 8 ≤ (plainP (q ++ [x]) t).length := by
      unfold plainP; rw [List.length_append, hl2, List.length_append, List.length_singleton]; omega
    have hbl := bareB_len hx.1 hx.2
    have hxs := okV_size hx.1
    have hBr := R10_Bare [] x.null x.n x.s t (by decide) (by omega) hx.2
    have hdd : List.drop 1 (q.map Val.cells ++ [x.cells]) = D.map Val.cells := by rw [← hD, List.map_drop, List.map_append]; rfl
    have wm : IntKind.wrap .i64 ((q.length : Int) + 7) = (q.length : Int) + 7 := wrap_i64 (by omega) (by omega)
    have wm2 : IntKind.wrap .i64 ((q.length : Int) + 1 + 7) = (q.length : Int) + 1 + 7 := wrap_i64 (by omega) (by omega)
    obtain ⟨m1, hm1⟩ : ∃ m1, (q.length + 7) / 8 = m1 := ⟨_, rfl⟩
    obtain ⟨m2, hm2⟩ : ∃ m2, (q.length + 1 + 7) / 8 = m2 := ⟨_, rfl⟩
    have wd : IntKind.wrap .i64 (((q.length : Int) + 7).tdiv 8) = (m1 : Int) := by
      have : ((q.length : Int) + 7).tdiv 8 = (((q.length + 7) / 8 : Nat) : Int) := rfl
      rw [this, hm1, wrap_i64 (by omega) (by omega)]
    have wd2 : IntKind.wrap .i64 (((q.length : Int) + 1 + 7).tdiv 8) = (m2 : Int) := by
      have : ((q.length : Int) + 1 + 7).tdiv 8 = (((q.length + 1 + 7) / 8 : Nat) : Int) := rfl
      rw [this, hm2, wrap_i64 (by omega) (by omega)]
    rw [hm1] at hg1 hps
    rw [hm2] at hg2 hps
    have hlx : (q ++ [x]).length = q.length + 1 := by simp
    rw [hlx] at hE2
    have hlx2 : (D ++ [x]).length = q.length + 1 := by simp [hDl]
    rw [hlx2] at hE4
    rw [hDl] at hE3
    generalize hA : plainP q t = A at *
    generalize hB : plainP (q ++ [x]) t = B at *
    generalize runsP D t = R at *
    generalize runsP (D ++ [x]) t = R2 at *
    have hb1 : q.length * 32 ≤ 140737488355328 := by omega
    have hb2 : (q.length + 1) * 32 ≤ 140737488355328 := by omega
    have hW : ∃ W : List UInt8, W = (bif x.null then [] else bareB x t) ∧ W.length ≤ 210 := ⟨_, rfl, by cases x.null <;> simp <;> omega⟩
    obtain ⟨W, hWe, hWl⟩ := hW
    rw [← hWe] at hps
    have hJ := R01_Join (A.drop m1) W (by simp; omega) (by omega)
    have hS := R01_Same (B.drop m2) (A.drop m1 ++ W) (by simp; omega) (by simp; omega)
    rw [decide_eq_true hps] at hS
    have d1 : decide ((A.length : Int) < (m1 : Int)) = false := by simp; omega
    have d2 : decide ((B.length : Int) < (m2 : Int)) = false := by simp; omega
    have g1 : (m1 : Int) ≤ (A.length : Int) := by omega
    have g2 : (m2 : Int) ≤ (B.length : Int) := by omega
    have hda : List.drop m1 (A.map bcell) = (A.drop m1).map bcell := by simp
    have hdb : List.drop m2 (B.map bcell) = (B.drop m2).map bcell := by simp
    clear hps
    generalize A.drop m1 = A' at *
    generalize B.drop m2 = B' at *
    obtain ⟨xb, xn, xs⟩ := x
    unfold P2 Pg.cells at hE1 hE2 hE3 hE4
    clear hqc okq inq hmc hDc hDx hl1 hl2 hbl hxs hA hB hc1 hc2 hx hm1 hm2 ho hb hl hi
    simp only [Val.cells, go_sem] at hE2 hE4 hM hdd hBr hWe hS hJ
    have hb3 : D.length * 32 ≤ 140737488355328 := by omega
    have hb4 : (D.length + 1) * 32 ≤ 140737488355328 := by omega
    have wr : IntKind.wrap .i64 ((R.length : Int) + 1) = (R.length : Int) + 1 := wrap_i64 (by omega) (by omega)
    have hend : decide ((q.length : Int) + 1 = 1) = true ∨ (decide ((q.length : Int) + 1 = 1) = false ∧ decide ((R2.length : Int) = (R.length : Int)) = true) ∨ (decide ((q.length : Int) + 1 = 1) = false ∧ decide ((R2.length : Int) = (R.length : Int)) = false ∧ decide ((R2.length : Int) = (R.length : Int) + 1) = true) := by
      cases hz : decide ((q.length : Int) + 1 = 1) with
      | true => exact .inl rfl
      | false =>
        rw [hz] at hrs
        rcases hrs with h | h | h
        · exact absurd h (by decide)
        · exact .inr (.inl ⟨rfl, by simp; omega⟩)
        · exact .inr (.inr ⟨rfl, by simp; omega, by simp; omega⟩)
    clear hrs
    have h1q : 1 ≤ (q.length : Int) + 1 := by omega
    have hsz3 : szOK 3 (q.map Val.cells ++ [[AV.bool xb, .int .i64 xn, .str xs]]) = True := by
      have := szOK_map 3 Val.cells (q ++ [(⟨xb, xn, xs⟩ : Val)]) (fun _ => rfl)
      rw [List.map_append] at this; exact this
    rcases hq1 with ⟨hd, e⟩ | ⟨hd, e⟩
    · have hml : 1 ≤ (m.length : Int) := by simp at hd; omega
      have hqd : List.drop 1 (m.map Val.cells) = q.map Val.cells := by rw [e, List.map_drop]
      have hql : q.length = m.length - 1 := by rw [e]; simp
      clear e
      cases xb with
      | true =>
        simp only [cond_true] at hWe
        subst hWe
        simp only [List.map_nil, List.append_nil] at hJ hS
        rcases hend with k1 | ⟨k1, k2⟩ | ⟨k1, k2, k3⟩
        · simp only [f_L10_PageGrowth, hs, hs2, hL, hm, hM, hd, hml, hqd, wm, wm2, wd, wd2, hb1, hb2, hb3, hb4, hE1, hE2, hE3, hE4, z8, d1, d2, g1, g2, hda, hdb, hJ, hS, hdd, h1q, hsz3, wr, k1, Val.cells, go_sem]
        · simp only [f_L10_PageGrowth, hs, hs2, hL, hm, hM, hd, hml, hqd, wm, wm2, wd, wd2, hb1, hb2, hb3, hb4, hE1, hE2, hE3, hE4, z8, d1, d2, g1, g2, hda, hdb, hJ, hS, hdd, h1q, hsz3, wr, k1, k2, Val.cells, go_sem]
        · simp only [f_L10_PageGrowth, hs, hs2, hL, hm, hM, hd, hml, hqd, wm, wm2, wd, wd2, hb1, hb2, hb3, hb4, hE1, hE2, hE3, hE4, z8, d1, d2, g1, g2, hda, hdb, hJ, hS, hdd, h1q, hsz3, wr, k1, k2, k3, Val.cells, go_sem]
      | false =>
        simp only [cond_false] at hWe
        rw [← hWe] at hBr
        rcases hend with k1 | ⟨k1, k2⟩ | ⟨k1, k2, k3⟩
        · simp only [f_L10_PageGrowth, hs, hs2, hL, hm, hM, hd, hml, hqd, wm, wm2, wd, wd2, hb1, hb2, hb3, hb4, hE1, hE2, hE3, hE4, z8, d1, d2, g1, g2, hda, hdb, hBr, hJ, hS, hdd, h1q, hsz3, wr, k1, Val.cells, go_sem]
        · simp only [f_L10_PageGrowth, hs, hs2, hL, hm, hM, hd, hml, hqd, wm, wm2, wd, wd2, hb1, hb2, hb3, hb4, hE1, hE2, hE3, hE4, z8, d1, d2, g1, g2, hda, hdb, hBr, hJ, hS, hdd, h1q, hsz3, wr, k1, k2, Val.cells, go_sem]
        · simp only [f_L10_PageGrowth, hs, hs2, hL, hm, hM, hd, hml, hqd, wm, wm2, wd, wd2, hb1, hb2, hb3, hb4, hE1, hE2, hE3, hE4, z8, d1, d2, g1, g2, hda, hdb, hBr, hJ, hS, hdd, h1q, hsz3, wr, k1, k2, k3, Val.cells, go_sem]
    · subst e
      cases xb with
      | true =>
        simp only [cond_true] at hWe
        subst hWe
        simp only [List.map_nil, List.append_nil] at hJ hS
        rcases hend with k1 | ⟨k1, k2⟩ | ⟨k1, k2, k3⟩
        · simp only [f_L10_PageGrowth, hs, hs2, hL, hm, hM, hd, wm, wm2, wd, wd2, hb1, hb2, hb3, hb4, hE1, hE2, hE3, hE4, z8, d1, d2, g1, g2, hda, hdb, hJ, hS, hdd, h1q, hsz3, wr, k1, Val.cells, go_sem]
        · simp only [f_L10_PageGrowth, hs, hs2, hL, hm, hM, hd, wm, wm2, wd, wd2, hb1, hb2, hb3, hb4, hE1, hE2, hE3, hE4, z8, d1, d2, g1, g2, hda, hdb, hJ, hS, hdd, h1q, hsz3, wr, k1, k2, Val.cells, go_sem]
        · simp only [f_L10_PageGrowth, hs, hs2, hL, hm, hM, hd, wm, wm2, wd, wd2, hb1, hb2, hb3, hb4, hE1, hE2, hE3, hE4, z8, d1, d2, g1, g2, hda, hdb, hJ, hS, hdd, h1q, hsz3, wr, k1, k2, k3, Val.cells, go_sem]
      | false =>
        simp only [cond_false] at hWe
        rw [← hWe] at hBr
        rcases hend with k1 | ⟨k1, k2⟩ | ⟨k1, k2, k3⟩
        · simp only [f_L10_PageGrowth, hs, hs2, hL, hm, hM, hd, wm, wm2, wd, wd2, hb1, hb2, hb3, hb4, hE1, hE2, hE3, hE4, z8, d1, d2, g1, g2, hda, hdb, hBr, hJ, hS, hdd, h1q, hsz3, wr, k1, Val.cells, go_sem]
        · simp only [f_L10_PageGrowth, hs, hs2, hL, hm, hM, hd, wm, wm2, wd, wd2, hb1, hb2, hb3, hb4, hE1, hE2, hE3, hE4, z8, d1, d2, g1, g2, hda, hdb, hBr, hJ, hS, hdd, h1q, hsz3, wr, k1, k2, Val.cells, go_sem]
        · simp only [f_L10_PageGrowth, hs, hs2, hL, hm, hM, hd, wm, wm2, wd, wd2, hb1, hb2, hb3, hb4, hE1, hE2, hE3, hE4, z8, d1, d2, g1, g2, hda, hdb, hBr, hJ, hS, hdd, h1q, hsz3, wr, k1, k2, k3, Val.cells, go_sem]
theorem row_GR (xs : List AV) (h : Args Try.prog [24, 46] xs) : Den prog 506 xs [] = some (.bool true, []) := by
  obtain ⟨n, x, ys, rfl, h1, h⟩ := h.one
  obtain ⟨n2, x2, ys2, rfl, h2, h⟩ := h.one
  cases h.none
  obtain ⟨L, m, rfl, hL, hi, h0, h3⟩ := sh_col h1
  obtain ⟨v, rfl, hv, _⟩ := sh_val10 h2
  simp only [avOf, Try.underlying24, Try.underlying46]
  exact L10_Growth L m v hL hi h0 h3 hv
end Go.Den
