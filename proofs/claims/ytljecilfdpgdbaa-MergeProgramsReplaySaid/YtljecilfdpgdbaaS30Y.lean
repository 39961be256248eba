/- Ch. 30: MergeProgramsReplay, the law joined. -/
import Derived.Test.YtljecilfdpgdbaaS30X
namespace Go.Den
open Go Go.Proofs
set_option linter.unusedSimpArgs false
set_option linter.unusedVariables false
set_option maxRecDepth 100000
set_option maxHeartbeats 1000000
theorem law_MPR (x : Brs) (h : BrsOk x) : Den prog 160 [.agg x.cells] [] = some (.bool true, []) := by
  have hm := R06_Made x.cs 8 h.lc h.cs (by omega) (by omega)
  have haf := R06_After (madeC [] 1 (x.cs.take 8)) (by have := madeC_len (x.cs.take 8) [] 1; rw [List.length_take] at this; omega) (madeC_ok _ _ _)
  have hF := (schS_inv x.cs 8).len
  have e8 : (8 : Int).toNat = 8 := rfl
  rw [e8] at hm
  have ht := R27_Table (schS x.cs 8) (afterS [] 1 0 (madeC [] 1 (x.cs.take 8))).next x.rows 20 (by omega) h.lr (by omega) (by omega)
  have h1 := R27_MadeAll (schS x.cs 8) (afterS [] 1 0 (madeC [] 1 (x.cs.take 8))).next x.a (by omega) h.la h.a
  have h2 := R27_MadeAll (schS x.cs 8) (afterS [] 1 0 (madeC [] 1 (x.cs.take 8))).next x.b (by omega) h.lb h.b
  have hfs : (afterS [] 1 0 (madeC [] 1 (x.cs.take 8))).fs = schS x.cs 8 := rfl
  obtain ⟨tb, tl, tn⟩ := tab_ok (fs := schS x.cs 8) (by omega) x.rows
  have pa := madeP_ok (fs := schS x.cs 8) (by omega) x.a 4
  have pb := madeP_ok (fs := schS x.cs 8) (by omega) x.b 4
  have la := madeP_len (schS x.cs 8) x.a 4
  have lb := madeP_len (schS x.cs 8) x.b 4
  simp only [AR.av, hfs] at haf
  generalize tabS (schS x.cs 8) x.rows 20 = T at *
  generalize madeP (schS x.cs 8) x.a 4 = A at *
  generalize madeP (schS x.cs 8) x.b 4 = B at *
  have pab : ∀ p ∈ A ++ B, PrOK p := fun p hp => by
    rcases List.mem_append.1 hp with hp | hp
    · exact pa p hp
    · exact pb p hp
  have g1 := Programs_small tb (by omega) (a := A) (b := B) (by omega) (by omega) pa pb (by omega)
  have hsh := progs_shape T A B (feedB T)
  obtain ⟨q1, q2⟩ := progs_small tb (by omega) (a := A) (b := B) (by omega) (by omega) pa pb (by omega) (feedB T)
  have hbl := blind_280 T A B
  have g3 := Programs_small tb (by omega) (a := A) (b := B.map blindP) (by omega) (by rw [List.length_map]; omega) pa (fun p hp => by
    obtain ⟨q, hq, rfl⟩ := List.mem_map.1 hp
    exact blind_ok (pb q hq)) (by omega)
  have g2 := Programs_small tb (by omega) (a := A.take (min (progsS (feedB T) T A B).n A.length).toNat) (b := B.take (max ((progsS (feedB T) T A B).n - A.length) 0).toNat) (by rw [List.length_take]; omega) (by rw [List.length_take]; omega)
    (fun p hp => pa p (List.mem_of_mem_take hp)) (fun p hp => pb p (List.mem_of_mem_take hp)) (by omega)
  generalize progsS (feedB T) T A (B.map blindP) = R3 at *
  generalize progsS (feedB T) T A B = R at *
  generalize progsS (feedB T) T (A.take (min R.n A.length).toNat) (B.take (max (R.n - A.length) 0).toNat) = R2 at *
  have tn0 := tb.n0
  have b1 : A.length * 240 ≤ 140737488355328 := by omega
  have b2 : (A.length + B.length) * 240 ≤ 140737488355328 := by omega
  have b3 : B.length * 240 ≤ 140737488355328 := by omega
  have zA : szOKb 16 (A.map Pro.cells) = true := by rw [szOKb_iff, szOK_map 16 Pro.cells A pro_len]; trivial
  have zB : szOKb 16 (B.map Pro.cells) = true := by rw [szOKb_iff, szOK_map 16 Pro.cells B pro_len]; trivial
  have z0 : decide ((0 : Int) = 0) = true := rfl
  rw [Den_ofK [] pr_L30_MergeProgramsReplay rfl]
  obtain ⟨cs, rows, ra, rb⟩ := x
  rcases hsh with ⟨s1, s2, s3, s4, s5⟩ | ⟨s1, s2, s3, s4, s5, s6, s7⟩
  · -- all executed
    have hrep := R27_Replay T (A ++ B) (by rw [List.length_append]; omega) pab ⟨by have := tb.len; omega, tb.rows, tb.n0, by rw [List.length_append]; omega⟩ s3
    rw [s4, s5] at hrep
    have hst := SameTable_refl (n := R.next) (L := R.l) (by omega) q1
    have d1 : decide ((A.length : Int) + B.length < 0) = false := by simp; omega
    have d2 : decide ((A.length : Int) + B.length < (A.length : Int) + B.length) = false := by simp
    have d3 : decide ((A.length : Int) + B.length = (A.length : Int) + B.length) = true := by simp
    simp only [PR.av, s1, s2] at g1
    obtain ⟨L, hL⟩ : ∃ L, L = A ++ B := ⟨_, rfl⟩
    have hLl : L.length < 1000000000 := by rw [hL, List.length_append]; omega
    simp only [List.map_append] at hrep
    have hzc : (A.map zc ++ B.map zc) = L.map zc := by rw [hL, List.map_append]
    rw [hzc] at hrep
    clear g2 g3 hbl q1 q2 pa pb pab tb tl tn h s1 s2 s3 s4 s5 hL hzc
    simp only [go_sem] at hm haf ht h1 h2 g1 hrep
    simp only [f_L30_MergeProgramsReplay, hm, haf, ht, h1, h2, g1, hrep, b1, b2, zA, zB, d1, d2, d3, z0, btt, List.length_map, go_sem]
    refine law_MPR_l0 L hLl _ _ _ _ ?_
    simp only [hst, go_sem]
  · -- one was not
    have d1 : decide (R.n < 0) = false := by simp; omega
    have d2 : decide ((A.length : Int) + B.length < R.n) = false := by simp; omega
    have d3 : decide (R.n = (A.length : Int) + B.length) = false := by simp; omega
    have d4 : decide (R.e = 0) = false := by simpa using s1
    have d5 : decide (R3.e = 280) = false := by simpa using hbl
    have hmin : ∃ k : Nat, (if (A.length : Int) < R.n then (A.length : Int) else R.n) = (k : Int) ∧ k = (min R.n A.length).toNat ∧ k ≤ A.length := by
      refine ⟨(min R.n A.length).toNat, ?_, rfl, by omega⟩
      split <;> omega
    obtain ⟨k, hk1, hk2, hk3⟩ := hmin
    have hw : IntKind.wrap .i64 (R.n - (A.length : Int)) = R.n - A.length := wrap_i64 (by omega) (by omega)
    have hmax : ∃ j : Nat, (if R.n - (A.length : Int) < 0 then (0 : Int) else R.n - A.length) = (j : Int) ∧ j = (max (R.n - A.length) 0).toNat ∧ j ≤ B.length := by
      refine ⟨(max (R.n - A.length) 0).toNat, ?_, rfl, by omega⟩
      split <;> omega
    obtain ⟨j, hj1, hj2, hj3⟩ := hmax
    rw [← hk2, ← hj2] at g2
    have hsl : ∀ (L : List Pro) (k : Nat) (σ : St), k ≤ L.length → sliceV 16 (.sl (L.map Pro.cells)) none (some (.int .i64 k)) none σ = some (.sl ((L.take k).map Pro.cells), σ, false) := fun L k σ hk => by
      have := sliceV_to σ 16 (L.map Pro.cells) .i64 k (by omega) (by rw [List.length_map]; omega) (by rw [szOK_map 16 Pro.cells L pro_len]; trivial)
      simpa using this
    have sA := fun σ => hsl A k σ hk3
    have sB := fun σ => hsl B j σ hj3
    have hst := SameTable_refl (n := 0) (L := []) (by simp) (by intro z hz; simp at hz)
    simp only [PR.av, s4, s5] at g1
    simp only [PR.av, s6, s7] at g2
    simp only [PR.av] at g3
    have dn : decide (R.n = R.n) = true := by simp
    have hbl2 : (B.map blindP).length = B.length := by simp
    clear hsl q1 q2 pa pb pab tb tl tn h s1 s2 s3 s4 s5 s6 s7 hk2 hj2 hbl
    simp only [go_sem] at hm haf ht h1 h2 g1 g2 hst
    simp only [f_L30_MergeProgramsReplay, hm, haf, ht, h1, h2, g1, g2, b1, b2, b3, zA, zB, d1, d2, d3, d4, z0, hk1, hw, hj1, sA, sB, bff, List.length_map, go_sem]
    refine law_MPR_l1 B (by omega) _ rfl _ _ _ _ _ _ _ ?_
    have hEl : ((B.map blindP).map Pro.cells).length = B.length := by simp
    generalize (B.map blindP).map Pro.cells = E at *
    simp only [hEl, g3, d5, dn, z0, hst, List.take_length, go_sem]
theorem row_MPR (xs : List AV) (h : Args Try.prog [59] xs) : Den prog 160 xs [] = some (.bool true, []) := by
  obtain ⟨n, x, ys, rfl, h1, h⟩ := h.one
  cases h.none
  obtain ⟨c, rfl, hc⟩ := sh_brs h1
  simp only [avOf, Try.underlying59]
  exact law_MPR c hc
end Go.Den
