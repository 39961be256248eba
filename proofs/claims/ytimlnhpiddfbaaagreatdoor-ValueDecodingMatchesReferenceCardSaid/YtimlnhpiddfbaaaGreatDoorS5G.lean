/- The reference's guess of a text. -/
import Derived.Test.YtimlnhpiddfbaaaGreatDoorS5Y
namespace Go.Den
open Go
set_option linter.unusedSimpArgs false
set_option linter.unusedVariables false
set_option maxRecDepth 100000
set_option maxHeartbeats 1000000
def digI (c : Int) : Int := bif decide (97 ≤ c) && decide (c ≤ 102) then IntKind.wrap .u8 (IntKind.wrap .u8 (c - 97) + 10) else (IntKind.wrap .u8 (c - 48)).tmod 16
theorem digI_all : ∀ c : Fin 256, 0 ≤ digI (c.val : Nat) ∧ digI (c.val : Nat) ≤ 15 := by decide +kernel
theorem digI_bnd (c : UInt8) : 0 ≤ digI (c.toNat : Int) ∧ digI (c.toNat : Int) ≤ 15 := digI_all ⟨c.toNat, c.toNat_lt⟩
theorem digI_hex : ∀ k : Fin 16, digI ((hexC k.val).toNat : Int) = (k.val : Nat) := by decide +kernel
theorem dd_all : ∀ p : Fin 256, IntKind.wrap .u8 (IntKind.wrap .u8 (16 * ((p.val / 16 : Nat) : Int)) + ((p.val % 16 : Nat) : Int)) = (p.val : Int) := by decide +kernel
theorem dd_or (a b : Nat) (ha : a < 16) (hb : b < 16) : IntKind.wrap .u8 (IntKind.wrap .u8 (16 * (a : Int)) + (b : Int)) = ((16 * a + b : Nat) : Int) := by
  have h := dd_all ⟨16 * a + b, by omega⟩
  simp only [] at h
  rw [show (16 * a + b) / 16 = a by omega, show (16 * a + b) % 16 = b by omega] at h
  exact h
theorem R05_digit (c : UInt8) : Den prog 467 [.int .u8 (c.toNat : Int)] [] = some (.int .u8 (digI (c.toNat : Int)), []) := by
  rw [Den_ofK [] pr_R05_digit rfl]
  have nz : (16 : Int) ≠ 0 := by decide
  unfold digI
  cases g1 : decide (97 ≤ (c.toNat : Int)) <;> cases g2 : decide ((c.toNat : Int) ≤ 102) <;>
  simp only [f_R05_digit, g1, g2, nz, Bool.and_self, Bool.and_true, Bool.and_false, Bool.false_and, cond_true, cond_false, go_sem]
theorem gt_l0 (l : List UInt8) (hl : l.length < 100000000) (K : Ex × Env × St → Option (AV × St)) (Z : List UInt8 → Option (AV × St)) (V : Nat) (hK : ∀ out : List UInt8, out.length < 2000000000 → ∀ (env : Env), env.get 3 = .osl 0 V out.length 0 out.length → K (.exit 0, env, [.arr V 1 (out.map bcell)]) = Z out) :
    ∀ (k i : Nat) (acc : List UInt8), l.length - i ≤ k → acc.length ≤ i → acc.length ≤ l.length + 3 → ∃ r, (Run prog 0 (.loop 1 [0, 3, 4] f_R05_guessText_l0) [(0, .str (ba l)), (3, .osl 0 V acc.length 0 acc.length), (4, .int .i64 (i : Int))] [.arr V 1 (acc.map bcell)]).bind K = Z r ∧ ∀ q, l.drop i = quoteC q ++ [34] → r = acc ++ q := by
  have hbits : ∀ (i : Nat) (acc : List UInt8), ¬ (i : Int) < (l.length : Int) - 1 → acc.length ≤ l.length + 3 → ∃ r, (Run prog 0 (.loop 1 [0, 3, 4] f_R05_guessText_l0) [(0, .str (ba l)), (3, .osl 0 V acc.length 0 acc.length), (4, .int .i64 (i : Int))] [.arr V 1 (acc.map bcell)]).bind K = Z r ∧ ∀ q, l.drop i = quoteC q ++ [34] → r = acc ++ q := by
    intro i acc hi ha
    have w0 : IntKind.wrap .i64 ((l.length : Int) - 1) = (l.length : Int) - 1 := wrap_i64 (by omega) (by omega)
    have d0 : decide ((i : Int) < (l.length : Int) - 1) = false := by rw [decide_eq_false_iff_not]; exact hi
    refine ⟨acc, ?_, fun q hq => ?_⟩
    · rw [Run_loop]
      simp only [f_R05_guessText_l0_eq, f_R05_guessText_l0u, ba_size, w0, d0, go_sem]
      rw [hK acc (by omega) _ (by simp [Env.get])]
    · have h1 := congrArg List.length hq
      simp at h1
      have h2 : (quoteC q).length = 0 := by omega
      rcases quoteC_cases q with ⟨_, e⟩ | ⟨x, q', rfl, hx, e⟩ | ⟨x, q', rfl, hx, e⟩
      · rw [e]; simp
      · rw [e] at h2; simp at h2
      · rw [e] at h2; simp at h2
  intro k
  induction k with
  | zero =>
    intro i acc h1 h2 h3
    exact hbits i acc (by omega) h3
  | succ k ih =>
    intro i acc h1 h2 h3
    by_cases hi : (i : Int) < (l.length : Int) - 1
    · have w0 : IntKind.wrap .i64 ((l.length : Int) - 1) = (l.length : Int) - 1 := wrap_i64 (by omega) (by omega)
      obtain ⟨i1, hi1⟩ : ∃ k, i + 1 = k := ⟨_, rfl⟩
      obtain ⟨i2, hi2⟩ : ∃ k, i + 2 = k := ⟨_, rfl⟩
      obtain ⟨i3, hi3⟩ : ∃ k, i + 3 = k := ⟨_, rfl⟩
      obtain ⟨i4, hi4⟩ : ∃ k, i + 4 = k := ⟨_, rfl⟩
      have w1 : IntKind.wrap .i64 ((i : Int) + 1) = (i1 : Int) := by rw [wrap_i64 (by omega) (by omega)]; omega
      have w2 : IntKind.wrap .i64 ((i : Int) + 2) = (i2 : Int) := by rw [wrap_i64 (by omega) (by omega)]; omega
      have w3 : IntKind.wrap .i64 ((i : Int) + 3) = (i3 : Int) := by rw [wrap_i64 (by omega) (by omega)]; omega
      have w4 : IntKind.wrap .i64 ((i3 : Int) + 1) = (i4 : Int) := by rw [wrap_i64 (by omega) (by omega)]; omega
      have d0 : decide ((i : Int) < (l.length : Int) - 1) = true := decide_eq_true hi
      obtain ⟨c, hc⟩ : ∃ c, l[i]? = some c := ⟨l[i], by simp⟩
      have x0 : getE l (i : Int) = some c := by rw [getE_nat, hc]
      have q92 : decide ((c.toNat : Int) = 92) = decide (c = 92) := u8_q c 92
      have hb : (acc.length + 1) * 1 ≤ 140737488355328 := by omega
      have hd : l.drop i = c :: l.drop i1 := by
        rw [← hi1]
        rw [List.drop_eq_getElem_cons (by omega)]
        rw [List.getElem?_eq_getElem (by omega)] at hc
        simp only [Option.some.injEq] at hc
        rw [hc]
      by_cases h4 : c = 92 ∧ i + 3 < l.length
      · obtain ⟨hc92, hl3⟩ := h4
        have g1 : decide (c = 92) = true := decide_eq_true hc92
        have g2 : decide ((i3 : Int) < (l.length : Int)) = true := by rw [decide_eq_true_eq]; omega
        obtain ⟨a, ha⟩ : ∃ a, l[i + 2]? = some a := ⟨l[i + 2], by simp⟩
        obtain ⟨b, hb2⟩ : ∃ b, l[i + 3]? = some b := ⟨l[i + 3], by simp⟩
        have x2 : getE l (i2 : Int) = some a := by rw [getE_nat, ← hi2, ha]
        have x3 : getE l (i3 : Int) = some b := by rw [getE_nat, ← hi3, hb2]
        have e2 := R05_digit a
        have e3 := R05_digit b
        have b2 := digI_bnd a
        have b3 := digI_bnd b
        obtain ⟨da, hda⟩ : ∃ da, digI (a.toNat : Int) = da := ⟨_, rfl⟩
        obtain ⟨db, hdb⟩ : ∃ db, digI (b.toNat : Int) = db := ⟨_, rfl⟩
        rw [hda] at e2 b2
        rw [hdb] at e3 b3
        obtain ⟨na, rfl⟩ := Int.eq_ofNat_of_zero_le b2.1
        obtain ⟨nb, rfl⟩ := Int.eq_ofNat_of_zero_le b3.1
        have hor := dd_or na nb (by omega) (by omega)
        obtain ⟨p, hp16⟩ : ∃ p, 16 * na + nb = p := ⟨_, rfl⟩
        rw [hp16] at hor
        have hpt : (UInt8.ofNat p).toNat = p := by rw [UInt8.toNat_ofNat']; omega
        have bc : bcell (UInt8.ofNat p) = [AV.int .u8 (p : Int)] := by unfold bcell; rw [hpt]
        obtain ⟨r, e4, e5⟩ := ih i4 (acc ++ [UInt8.ofNat p]) (by omega) (by simp; omega) (by simp; omega)
        refine ⟨r, ?_, fun q hq => ?_⟩
        · rw [← e4, Run_loop]
          simp only [List.length_append, List.length_cons, List.length_nil, List.map_append, List.map_cons, List.map_nil, bc]
          simp only [f_R05_guessText_l0_eq, f_R05_guessText_l0u, ba_size, ba_data, w0, w1, w2, w3, w4, d0, x0, x2, x3, q92, g1, g2, e2, e3, hor, hb, go_sem]
        · have hq0 := hq
          rw [hd] at hq
          rcases quoteC_cases q with ⟨e, _⟩ | ⟨x, q', rfl, hx, e⟩ | ⟨x, q', rfl, hx, e⟩
          · rw [e] at hq0
            have := congrArg List.length hq0
            simp at this
            omega
          · rw [e] at hq
            simp only [List.cons_append, List.cons.injEq] at hq
            rw [← hq.1, hc92, plain92] at hx
            simp at hx
          · rw [e] at hq0
            have ha' : (l.drop i)[2]? = some a := by rw [List.getElem?_drop]; exact ha
            have hb' : (l.drop i)[3]? = some b := by rw [List.getElem?_drop]; exact hb2
            have h4' : l.drop i4 = (l.drop i).drop 4 := by rw [List.drop_drop, hi4]
            rw [hq0] at ha' hb' h4'
            simp only [List.cons_append, List.getElem?_cons_succ, List.getElem?_cons_zero, Option.some.injEq, List.drop_succ_cons, List.drop_zero] at ha' hb' h4'
            have x256 := x.toNat_lt
            have i1 := digI_hex ⟨x.toNat / 16, by omega⟩
            have i2 := digI_hex ⟨x.toNat % 16, by omega⟩
            simp only [] at i1 i2
            rw [ha', hda] at i1
            rw [hb', hdb] at i2
            rw [e5 q' h4']
            have : UInt8.ofNat p = x := by apply UInt8.toNat_inj.1; rw [hpt]; omega
            rw [this]; simp
      · have bc : bcell c = [AV.int .u8 (c.toNat : Int)] := rfl
        obtain ⟨r, e4, e5⟩ := ih i1 (acc ++ [c]) (by omega) (by simp; omega) (by simp; omega)
        refine ⟨r, ?_, fun q hq => ?_⟩
        · rw [← e4, Run_loop]
          simp only [List.length_append, List.length_cons, List.length_nil, List.map_append, List.map_cons, List.map_nil, bc]
          cases g1 : decide (c = 92) with
          | false => simp only [f_R05_guessText_l0_eq, f_R05_guessText_l0u, ba_size, ba_data, w0, w1, d0, x0, q92, g1, hb, go_sem]
          | true =>
            have g2 : decide ((i3 : Int) < (l.length : Int)) = false := by
              rw [decide_eq_false_iff_not]
              intro h
              exact h4 ⟨by simpa using g1, by omega⟩
            simp only [f_R05_guessText_l0_eq, f_R05_guessText_l0u, ba_size, ba_data, w0, w1, w3, d0, x0, q92, g1, g2, hb, go_sem]
        · have hq0 := hq
          rw [hd] at hq
          rcases quoteC_cases q with ⟨e, _⟩ | ⟨x, q', rfl, hx, e⟩ | ⟨x, q', rfl, hx, e⟩
          · rw [e] at hq0
            have := congrArg List.length hq0
            simp at this
            omega
          · rw [e] at hq
            simp only [List.cons_append, List.cons.injEq] at hq
            rw [e5 q' hq.2, hq.1]; simp
          · exfalso
            rw [e] at hq hq0
            simp only [List.cons_append, List.cons.injEq] at hq
            have := congrArg List.length hq0
            simp at this
            exact h4 ⟨hq.1, by omega⟩
    · exact hbits i acc hi h3
theorem ex_conv1 {A Q Q' : List UInt8 → Prop} (h : ∃ r, A r ∧ Q r) (hq : ∀ r, Q r → Q' r) : ∃ r, A r ∧ Q' r := by
  obtain ⟨r, h1, h2⟩ := h
  exact ⟨r, h1, hq r h2⟩
theorem R05_guessText (l : List UInt8) (hl : l.length < 100000000) : ∃ r, Den prog 470 [.str (ba l)] [] = some (.str (ba r), []) ∧ ∀ q, l = quoteL q → r = q := by
  have ce : (⟨#[]⟩ : ByteArray) = ba [] := rfl
  have key := fun K V hK => gt_l0 l hl K (fun out => some (.str (ba out), [])) V hK l.length 1 [] (by omega) (by simp) (by simp)
  rw [Den_ofK [] pr_R05_guessText rfl]
  simp only [f_R05_guessText, ba_size, ce, go_sem]
  refine ex_conv1 (key _ _ ?_) ?_
  · intro out ho env h3
    simp only [h3, go_sem]
    rfl
  · intro r h q hq
    simpa using h q (by rw [hq]; rfl)
end Go.Den
