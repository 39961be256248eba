/- LensFits. -/
import Derived.Test.YtghipgdajgeoiaaDoorSh07
namespace Go.Den
open Go Go.Proofs
set_option linter.unusedSimpArgs false
set_option linter.unusedVariables false
set_option maxRecDepth 100000
set_option maxHeartbeats 1000000
theorem law_LensFits (L : List Chg) (c : Chg) (V : List Val) (hk : CaseOk L c V) : Den prog 255 [caseC L c V] [] = some (.bool true, []) := by
  obtain ⟨fs, next, ta, hT, sv⟩ := start07 L 20
  have hmade := made07 L c V hk.l hk.lc hk.c fs next ta 0 hT
  have hsm := small07 L c V hk.v
  have hck := chgS_ok fs next c
  have hl64 := sv.i.len
  have hR := R06_Row fs next V (by omega)
  have hrf := rowS_fits sv fs V 0 (fun _ h => h) sv.n.q.rise (fun f hf => by have := sv.n.q.pos f hf; omega)
  have hrb : RB (rowS fs V) := rowS_bnd sv fs V (fun _ h => h) hk.vb
  have hrl := fits_len sv.n.q hrf
  generalize rowS fs V = R at *
  have ha := R06_Apply fs next (chgS fs next c) sv.i.ok hck
  have hF := lens_Forward sv (chgS fs next c) hck R (by omega) hrb
  generalize hy : chgS fs next c = y at *
  have heff := @eff_of fs next y sv
  have hsv := @applyC_sv fs next y sv hck
  have hB := fun r hr hb => lens_Back sv y hck r hr hb
  unfold forwardL at hF
  rw [hrf] at hF
  unfold backL at hB
  rw [Den_ofK [] pr_L07_LensFits rfl]
  generalize applyC fs next y = q at *
  obtain ⟨f1, n1, e1⟩ := q
  simp only [SR.av] at ha hF hB heff hsv
  unfold caseC at hmade hsm ⊢
  rw [cells_chg] at hmade ha hF
  simp only [cells_chg] at hB
  cases d0 : smallB L c V with
  | false =>
    rw [d0] at hsm
    simp only [f_L07_LensFits, hsm, go_sem]
  | true =>
    rw [d0] at hsm
    cases d : decide (e1 = 0) with
    | false =>
      have dz : decide ((0 : Int) = 0) = true := rfl
      rw [d] at hF
      simp only [Bool.false_and, cond_false, List.map_nil] at hF
      simp only [f_L07_LensFits, hsm, hmade, ha, hR, hF, d, dz, go_sem]
    | true =>
      have he : e1 = 0 := by simpa using d
      have heff := heff he
      have sv1 := hsv he
      have hl1 := sv1.i.len
      rw [d] at hF
      simp only [Bool.and_self, cond_true] at hF
      simp only [d, Bool.true_and] at hB
      have fF : Ft (tyF f1) (fwdL y next R) := fwd_ft heff sv.bd (ft_of hrf)
      have hFf : fitsS f1 0 (fwdL y next R) = true := of_ft sv1.n.q.pos fF
      have hFl := fits_len sv1.n.q hFf
      have hFb : RB (fwdL y next R) := fwd_b hrb y next
      have g1 := R06_Fits f1 n1 (fwdL y next R) (by omega) (by omega) sv1.n.q.pos
      rw [hFf] at g1
      have hB1 := hB (fwdL y next R) (by omega) hFb
      rw [hFf] at hB1
      simp only [cond_true] at hB1
      have bF : Ft (tyF fs) (bakL y next (fwdL y next R)) := bak_ft heff sv.bd fF
      have hBf : fitsS fs 0 (bakL y next (fwdL y next R)) = true := of_ft sv.n.q.pos bF
      have hBl := fits_len sv.n.q hBf
      have g2 := R06_Fits fs next (bakL y next (fwdL y next R)) (by omega) (by omega) sv.n.q.pos
      rw [hBf] at g2
      have hR' := R06_Row f1 n1 V (by omega)
      have hrf' := rowS_fits sv1 f1 V 0 (fun _ h => h) sv1.n.q.rise (fun f hf => by have := sv1.n.q.pos f hf; omega)
      have hrb' : RB (rowS f1 V) := rowS_bnd sv1 f1 V (fun _ h => h) hk.vb
      have hrl' := fits_len sv1.n.q hrf'
      generalize rowS f1 V = R' at *
      have hB2 := hB R' (by omega) hrb'
      rw [hrf'] at hB2
      simp only [cond_true] at hB2
      have hBf2 : fitsS fs 0 (bakL y next R') = true := of_ft sv.n.q.pos (bak_ft heff sv.bd (ft_of hrf'))
      have hBl2 := fits_len sv.n.q hBf2
      have g3 := R06_Fits fs next (bakL y next R') (by omega) (by omega) sv.n.q.pos
      rw [hBf2] at g3
      generalize bakL y next R' = B2 at *
      generalize bakL y next (fwdL y next R) = B1 at *
      generalize fwdL y next R = F1 at *
      clear fF bF hFf hBf hBf2 hB hrf hrf' hsv heff sv sv1 hk hT hrb hrb' hFb hy
      simp only [f_L07_LensFits, hsm, hmade, ha, hR, hR', hF, hB1, hB2, g1, g2, g3, d, go_sem]
theorem row_LF (xs : List AV) (h : Args Tryd.prog [27] xs) : Den prog 255 xs [] = some (.bool true, []) := by
  obtain ⟨n, x, ys, rfl, h1, h⟩ := h.one
  cases h.none
  obtain ⟨L, c, V, e, hk⟩ := sh_case h1
  simp only [avOf, Tryd.underlying27]
  rw [e]
  exact law_LensFits L c V hk
end Go.Den
