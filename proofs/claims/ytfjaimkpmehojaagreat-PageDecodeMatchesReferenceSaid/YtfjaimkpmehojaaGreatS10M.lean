/- Ch. 10: PageRoundTrip. -/
import Derived.Test.YtfjaimkpmehojaaGreatS10L
import Derived.Test.YtfjaimkpmehojaaGreatSan10
namespace Go.Den
open Go
set_option linter.unusedSimpArgs false
set_option linter.unusedVariables false
set_option maxRecDepth 100000
set_option maxHeartbeats 1000000

theorem chkP_def {t k : Int} (ht : typeOk t = true) (hk : 1 ≤ k ∧ k ≤ 4) : chkP k t = bif decide (k = 3) && decide (t = 4) then 7 else 0 := by
  unfold chkP
  have h1 : kindOk k = true := by unfold kindOk; simp; omega
  rw [h1, ht]
  rfl
theorem enc_made {l : List Val} {t k : Int} (hl : l.length ≤ 1024) (ho : okL l t = true) (hc : chkP k t = 0) : encP l t k = (⟨k, l.length, conP l t k⟩, 0) := by
  unfold encP
  have d : decide (1024 < l.length) = false := by simp; omega
  rw [hc, d, ho]
  rfl
theorem enc_bad {l : List Val} {t k : Int} (hc : chkP k t ≠ 0) : encP l t k = (noP, chkP k t) := by
  unfold encP
  rw [decide_eq_false hc]
  rfl
theorem dec_enc10 {l : List Val} {t k : Int} (hl : l.length ≤ 1024) (ho : okL l t = true) (hi : ∀ v ∈ l, InB v) (hc : chkP k t = 0) : decP ⟨k, l.length, conP l t k⟩ t = (l, 0) := by
  unfold decP
  have d1 : decide ((l.length : Int) < 0) = false := by simp
  have d2 : decide (1024 < (l.length : Int)) = false := by simp; omega
  simp only [hc, decide_true, Bool.not_true, cond_false, d1, d2, Bool.or_self, par_enc l t k hc hl ho hi, enc_made hl ho hc, Bool.true_and]
  have : samP ⟨k, l.length, conP l t k⟩ ⟨k, l.length, conP l t k⟩ = true := by simp [samP]
  rw [this]; rfl
theorem runsF_len (t : Int) : ∀ rs : List (Nat × Val), (∀ p ∈ rs, (runB t p).length ≤ 221) → (rs.flatMap (runB t)).length ≤ 221 * rs.length
  | [], _ => by simp
  | p :: r, h => by
    have h1 := h p (List.mem_cons_self ..)
    have h2 := runsF_len t r fun q hq => h q (List.mem_cons_of_mem _ hq)
    simp only [List.flatMap_cons, List.length_append, List.length_cons]; omega
theorem expand_mem : ∀ (rs : List (Nat × Val)) (p : Nat × Val), p ∈ rs → p.1 ≤ (expand rs).length
  | q :: r, p, h => by
    have e : expand (q :: r) = List.replicate q.1 q.2 ++ expand r := rfl
    rw [e, List.length_append, List.length_replicate]
    rcases List.mem_cons.1 h with rfl | h
    · omega
    · have := expand_mem r p h; omega
theorem conP_len {l : List Val} {t : Int} (k : Int) (hl : l.length ≤ 1024) (hc : Col l t) : (conP l t k).length ≤ 300000 := by
  have hm := maskOf_len l
  have hD := distV_len l
  have hcD : Col (distV l) t := fun v hv => hc v ((distV_mem l v).1 hv).1
  have h1 := bodyP_len hc
  have h2 := flatB_len t hcD
  have h3 := flatX_len (distV l) (by omega) l
  have h4 := bodyD_len l 0
  have h5 := leb_len10 (show (distV l).length < 18446744073709551616 by omega)
  have h6 := runs_len l.length l (Nat.le_refl _)
  have h7 := runsF_len t (runs l) fun p hp => by
    have a1 := runs_mem l p hp
    have a2 := encV_len2 (hc _ a1).1 (hc _ a1).2
    have a3 := expand_mem _ p hp
    rw [expand_runs] at a3
    have a4 := leb_len10 (show p.1 < 18446744073709551616 by omega)
    unfold runB
    rw [List.length_append]; omega
  unfold conP plainP dictP deltaP runsP
  cases decide (k = 1) <;> cases decide (k = 2) <;> cases decide (k = 3) <;> simp only [cond_true, cond_false, List.length_append] <;> omega
end Go.Den
