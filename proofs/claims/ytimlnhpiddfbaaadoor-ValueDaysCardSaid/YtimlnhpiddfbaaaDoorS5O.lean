/- Ch. 05: ValueCanonical. -/
import Derived.Test.YtimlnhpiddfbaaaDoorS5C
import Derived.Test.YtimlnhpiddfbaaaDoorS5D
namespace Go.Den
open Go Go.Proofs
set_option linter.unusedSimpArgs false
set_option linter.unusedVariables false
set_option maxRecDepth 100000
set_option maxHeartbeats 1000000
theorem encV_len (v : Val) (t : Int) (hn : InB v) (hs : v.s.size < 1000000) : (encV v t).length ≤ v.s.size + 20 := by
  have h1 := leb_len10 (show v.s.size < 18446744073709551616 by omega)
  have h2 := leb_len10 (zz_lt hn.1 hn.2)
  have h3 : v.s.data.toList.length = v.s.size := rfl
  unfold encV
  cases typeOk t && okV v t <;> cases v.null <;> cases decide (t = 4) <;> simp <;> omega
theorem encV_pos {v : Val} {t : Int} (ht : typeOk t = true) (ho : okV v t = true) : 1 ≤ (encV v t).length := by
  rw [encV_ok ht ho]
  cases v.null <;> cases decide (t = 4) <;> simp
theorem okV_size {v : Val} {t : Int} (ho : okV v t = true) : v.s.size ≤ 200 := by
  cases hn : v.null with
  | true => rw [okV5_null ho hn]; show (0 : Nat) ≤ 200; decide
  | false =>
    by_cases h4 : t = 4
    · subst h4; exact (okV5_text ho hn).2
    · rw [okV5_num ho hn h4]; show (0 : Nat) ≤ 200; decide
theorem parR_err {l : List UInt8} {t : Int} {v : Val} {e : Int} (h : ParR l t v e) : (decide (e = 0) = true ∧ (typeOk t && okV v t) = true ∧ showV v t = l) ∨ decide (e = 0) = false := by
  rcases h with ⟨a1, rfl, rfl⟩ | ⟨a1, a2, a3, a4, rfl⟩ | ⟨a1, a2, rfl, rfl⟩
  · exact .inr rfl
  · exact .inl ⟨rfl, by rw [a1, a2]; rfl, a4⟩
  · exact .inr rfl
theorem law_VC (l : List UInt8) (a t : Int) : Den prog 447 [.sl (l.map bcell), .int .i64 a, .int .i64 t] [] = some (.bool true, []) := by
  rw [Den_ofK [] pr_L05_ValueCanonical rfl]
  have hsan := sanity05
  have ce : (⟨#[]⟩ : ByteArray) = ba [] := rfl
  cases g1 : decide ((400 : Int) < (l.length : Int)) with
  | true => simp only [f_L05_ValueCanonical, hsan, g1, go_sem]
  | false =>
    have hl : l.length ≤ 400 := by simp at g1; omega
    have hba : ({ data := l.toArray } : ByteArray) = ba l := rfl
    have h1 := value_Decode l a t (by omega)
    have hbad := dec_bad l a t
    have hcan := dec_can l a t
    obtain ⟨w, e, h3, p3⟩ := value_Parse l (by omega) t
    have hp := parR_err p3
    have hwb := parR_bnd p3
    generalize decV l a t = r at *
    obtain ⟨⟨nu, n, s⟩, nx, er⟩ := r
    simp only [V3, Val.cells] at h1 hbad hcan
    obtain ⟨wn, wi, ws⟩ := w
    simp only [] at h3
    have hV := value_Valid wn wi ws t hwb
    have hS := value_Show wn wi ws t hwb
    have bq : decide (ba l = ba l) = true := decide_eq_true rfl
    cases ge : decide (er = 0) with
    | false =>
      have he : er ≠ 0 := by simpa using ge
      obtain ⟨b1, b2⟩ := hbad he
      simp only [noV, Val.mk.injEq] at b1
      obtain ⟨rfl, rfl, rfl⟩ := b1
      subst b2
      rcases hp with ⟨q0, q1, q2⟩ | q0
      · rw [q1] at hV
        rw [q2] at hS
        simp only [f_L05_ValueCanonical, hsan, g1, h1, h3, hV, hS, ge, q0, hba, bq, srcOf_osl, ce, beq_self_eq_true, go_sem]
      · simp only [f_L05_ValueCanonical, hsan, g1, h1, h3, ge, q0, hba, srcOf_osl, ce, beq_self_eq_true, go_sem]
    | true =>
      have he : er = 0 := by simpa using ge
      obtain ⟨c0, c1, c2, c3, c4, rest, c5, c6⟩ := hcan he
      have hX1 := encV_pos c2 c3
      have hX2 := encV_len ⟨nu, n, s⟩ t c4 (by have := okV_size c3; simp only [] at this ⊢; omega)
      have hs := okV_size c3
      simp only [] at hs hX2
      have hE := value_Encode [] nu n s t (by simp) (by omega) c4
      have hVd := value_Valid nu n s t c4
      rw [c2, c3] at hVd
      simp only [List.map_nil, List.nil_append] at hE
      generalize encV ⟨nu, n, s⟩ t = X at *
      obtain ⟨k, rfl⟩ := Int.eq_ofNat_of_zero_le c0
      rw [Int.toNat_natCast] at c5
      have hlen := congrArg List.length c5
      rw [List.length_drop, List.length_append] at hlen
      obtain ⟨j, hj⟩ : ∃ j, k + X.length = j := ⟨_, rfl⟩
      have hnx : nx = (j : Int) := by omega
      subst hnx
      have hM : ((l.map bcell).drop k).take (j - k) = X.map bcell := by
        rw [← List.map_drop, c5, ← List.map_take, show j - k = X.length by omega, List.take_left]
      have hSame := R01_Same X X (by omega) (by omega)
      rw [decide_eq_true rfl] at hSame
      have d1 : decide ((k : Int) < 0) = false := by rw [decide_eq_false_iff_not]; omega
      have d2 : decide ((j : Int) ≤ (k : Int)) = false := by rw [decide_eq_false_iff_not]; omega
      have d3 : decide ((l.length : Int) < (j : Int)) = false := by rw [decide_eq_false_iff_not]; omega
      have d4 : (k : Int) ≤ (j : Int) := by omega
      have d5 : (j : Int) ≤ (l.length : Int) := by omega
      rcases hp with ⟨q0, q1, q2⟩ | q0
      · rw [q1] at hV
        rw [q2] at hS
        simp only [f_L05_ValueCanonical, hsan, g1, h1, h3, hV, hS, ge, q0, hba, bq, srcOf_osl, beq_self_eq_true, hE, hVd, hM, hSame, d1, d2, d3, d4, d5, go_sem]
      · simp only [f_L05_ValueCanonical, hsan, g1, h1, h3, ge, q0, hba, srcOf_osl, beq_self_eq_true, hE, hVd, hM, hSame, d1, d2, d3, d4, d5, go_sem]
theorem row_VC (xs : List AV) (h : Args Tryd.prog [22, 3, 3] xs) : Den prog 447 xs [] = some (.bool true, []) := by
  obtain ⟨n, x, ys, rfl, h1, h⟩ := h.one
  obtain ⟨n2, x2, ys2, rfl, h2, h⟩ := h.one
  obtain ⟨n3, x3, ys3, rfl, h3, h⟩ := h.one
  cases h.none
  obtain ⟨L, rfl, hL⟩ := sh_bytes h1
  obtain ⟨a, rfl, ha⟩ := sh_int h2
  obtain ⟨t, rfl, ht⟩ := sh_int h3
  simp only [avOf, Tryd.underlying22, Tryd.underlying3]
  exact law_VC L a t
end Go.Den
