/- Ch. 10: PageRoundTrip. -/
import Derived.Test.YtfjaimkpmehojaaS10L
import Derived.Test.YtfjaimkpmehojaaSan10
namespace Go.Den
open Go
set_option linter.unusedSimpArgs false
set_option linter.unusedVariables false
set_option maxRecDepth 100000
set_option maxHeartbeats 1000000
attribute [go_sem] sanity10
theorem chkP_def {t k : Int} (ht : typeOk t = true) (hk : 1 ≤ k ∧ k ≤ 4) : chkP k t = bif decide (k = 3) && decide (t = 4) then 7 else 0 := by
  unfold chkP
  have h1 : kindOk k = true := by unfold kindOk; simp; omega
  rw [h1, ht]
  rfl
theorem enc_made {l : List Val} {t k : Int} (hl : l.length ≤ 1024) (ho : okL l t = true) (hc : chkP k t = 0) : encP l t k = (⟨k, l.length, conP l t k⟩, 0) := by
  unfold encP
  have d : decide (1024 < l.length) = false := by simp; omega
  rw [hc, d, ho]
  rfl
theorem enc_bad {l : List Val} {t k : Int} (hc : chkP k t ≠ 0) : encP l t k = (noP, chkP k t) := by
  unfold encP
  rw [decide_eq_false hc]
  rfl
theorem dec_enc10 {l : List Val} {t k : Int} (hl : l.length ≤ 1024) (ho : okL l t = true) (hi : ∀ v ∈ l, InB v) (hc : chkP k t = 0) : decP ⟨k, l.length, conP l t k⟩ t = (l, 0) := by
  unfold decP
  have d1 : decide ((l.length : Int) < 0) = false := by simp
  have d2 : decide (1024 < (l.length : Int)) = false := by simp; omega
  simp only [hc, decide_true, Bool.not_true, cond_false, d1, d2, Bool.or_self, par_enc l t k hc hl ho hi, enc_made hl ho hc, Bool.true_and]
  have : samP ⟨k, l.length, conP l t k⟩ ⟨k, l.length, conP l t k⟩ = true := by simp [samP]
  rw [this]; rfl
theorem runsF_len (t : Int) : ∀ rs : List (Nat × Val), (∀ p ∈ rs, (runB t p).length ≤ 221) → (rs.flatMap (runB t)).length ≤ 221 * rs.length
  | [], _ => by simp
  | p :: r, h => by
    have h1 := h p (List.mem_cons_self ..)
    have h2 := runsF_len t r fun q hq => h q (List.mem_cons_of_mem _ hq)
    simp only [List.flatMap_cons, List.length_append, List.length_cons]; omega
theorem expand_mem : ∀ (rs : List (Nat × Val)) (p : Nat × Val), p ∈ rs → p.1 ≤ (expand rs).length
  | q :: r, p, h => by
    have e : expand (q :: r) = List.replicate q.1 q.2 ++ expand r := rfl
    rw [e, List.length_append, List.length_replicate]
    rcases List.mem_cons.1 h with rfl | h
    · omega
    · have := expand_mem r p h; omega
theorem conP_len {l : List Val} {t : Int} (k : Int) (hl : l.length ≤ 1024) (hc : Col l t) : (conP l t k).length ≤ 300000 := by
  have hm := maskOf_len l
  have hD := distV_len l
  have hcD : Col (distV l) t := fun v hv => hc v ((distV_mem l v).1 hv).1
  have h1 := bodyP_len hc
  have h2 := flatB_len t hcD
  have h3 := flatX_len (distV l) (by omega) l
  have h4 := bodyD_len l 0
  have h5 := leb_len10 (show (distV l).length < 18446744073709551616 by omega)
  have h6 := runs_len l.length l (Nat.le_refl _)
  have h7 := runsF_len t (runs l) fun p hp => by
    have a1 := runs_mem l p hp
    have a2 := encV_len2 (hc _ a1).1 (hc _ a1).2
    have a3 := expand_mem _ p hp
    rw [expand_runs] at a3
    have a4 := leb_len10 (show p.1 < 18446744073709551616 by omega)
    unfold runB
    rw [List.length_append]; omega
  unfold conP plainP dictP deltaP runsP
  cases decide (k = 1) <;> cases decide (k = 2) <;> cases decide (k = 3) <;> simp only [cond_true, cond_false, List.length_append] <;> omega
theorem RT_step (l : List Val) (t k : Int) (hk : k = 1 ∨ k = 2 ∨ k = 3 ∨ k = 4) (hl : l.length ≤ 1024) (ho : okL l t = true) (hi : ∀ v ∈ l, InB v) (ht : typeOk t = true) {K : Ex × Env × St → Option (AV × St)} {Z : Option (AV × St)}
    (h : (Run prog 0 (.loop 0 [3, 4, 5, 6] f_L10_PageRoundTrip_l0) [(3, .bool true), (4, .sl (l.map Val.cells)), (5, .int .i64 t), (6, .int .i64 (k + 1))] []).bind K = Z) :
    (Run prog 0 (.loop 0 [3, 4, 5, 6] f_L10_PageRoundTrip_l0) [(3, .bool true), (4, .sl (l.map Val.cells)), (5, .int .i64 t), (6, .int .i64 k)] []).bind K = Z := by
  have hkk : 1 ≤ k ∧ k ≤ 4 := by omega
  have d0 : decide (k ≤ 4) = true := by simp; omega
  have w1 : IntKind.wrap .i64 (k + 1) = k + 1 := wrap_i64 (by omega) (by omega)
  have hE := page_Encode l t k hi (by omega)
  have hcd := chkP_def ht hkk
  have hc : Col l t := fun v hv => ⟨okL_mem ho v hv, hi v hv⟩
  rw [Run_loop]
  cases d : decide (k = 3) && decide (t = 4) with
  | true =>
    rw [d, cond_true] at hcd
    rw [enc_bad (by omega), hcd] at hE
    rw [Bool.and_eq_true] at d
    obtain ⟨q2, q1⟩ := d
    unfold P2 Pg.cells noP at hE
    have e3 : decide ((7 : Int) = 7) = true := rfl
    simp only [f_L10_PageRoundTrip_l0_eq, f_L10_PageRoundTrip_l0u, w1, hE, d0, q1, q2, e3, h, go_sem]
  | false =>
    rw [d, cond_false] at hcd
    have hD := page_Decode ⟨k, l.length, conP l t k⟩ t (by have := conP_len k hl hc; show (conP l t k).length < _; omega)
    rw [dec_enc10 hl ho hi hcd] at hD
    rw [enc_made hl ho hcd] at hE
    unfold P2 Pg.cells at hE
    unfold D2 Pg.cells at hD
    have hS := R10_SameValues l l (by omega) (by omega)
    rw [decide_eq_true rfl] at hS
    have e1 : decide (k = k) = true := decide_eq_true rfl
    have e2 : decide ((l.length : Int) = (l.length : Int)) = true := decide_eq_true rfl
    cases q1 : decide (t = 4) <;> cases q2 : decide (k = 3) <;> rw [q1, q2] at d <;> first | (exact absurd d (by decide)) | skip
    all_goals simp only [f_L10_PageRoundTrip_l0_eq, f_L10_PageRoundTrip_l0u, w1, hE, hD, hS, d0, q1, q2, e1, e2, h, go_sem]
theorem L10_RoundTrip (l : List Val) (n : Int) (hL : l.length < 1000000000000000) (hi : ∀ v ∈ l, InB v) (h0 : 0 ≤ n) (h1 : n < 256) : Den prog 502 [.agg [.sl (l.map Val.cells), .int .u8 n]] [] = some (.bool true, []) := by
  rw [Den_ofK [] pr_L10_PageRoundTrip rfl]
  have hm := L10_made l n hL h0 h1
  have ht := typT_ok h0
  obtain ⟨ho, hb, hl⟩ := madeL_ok ht hi
  cases hs : smallB l with
  | false => simp only [f_L10_PageRoundTrip, hs, hL, go_sem]
  | true =>
    simp only [f_L10_PageRoundTrip, hs, hL, hm, go_sem]
    generalize madeL l (typT n) = m at *
    generalize typT n = t at *
    refine RT_step m t 1 (by simp) hl ho hb ht ?_
    refine RT_step m t 2 (by simp) hl ho hb ht ?_
    refine RT_step m t 3 (by simp) hl ho hb ht ?_
    refine RT_step m t 4 (by simp) hl ho hb ht ?_
    rw [Run_loop]
    have e5 : decide ((4 : Int) + 1 ≤ 4) = false := rfl
    simp only [f_L10_PageRoundTrip_l0_eq, f_L10_PageRoundTrip_l0u, e5, go_sem]
end Go.Den
