/- Ch. 05: ValueMatchesReference. -/
import Derived.Test.YtimlnhpiddfbaaaGreatDoorS5T
import Derived.Test.YtimlnhpiddfbaaaGreatDoorSan05
import Derived.Test.YtimlnhpiddfbaaaGreatDoorShB
namespace Go.Den
open Go Go.Proofs
set_option linter.unusedSimpArgs false
set_option linter.unusedVariables false
set_option maxRecDepth 100000
set_option maxHeartbeats 1000000
theorem encV_len (v : Val) (t : Int) (hn : -9223372036854775808 ≤ v.n ∧ v.n ≤ 9223372036854775807) : (encV v t).length ≤ v.s.size + 20 ∨ 18446744073709551616 ≤ v.s.size := by
  by_cases hb : 18446744073709551616 ≤ v.s.size
  · exact .inr hb
  left
  have h1 := leb_len10 (show v.s.size < 18446744073709551616 by omega)
  have h2 := leb_len10 (zz_lt hn.1 hn.2)
  have h3 : v.s.data.toList.length = v.s.size := rfl
  unfold encV
  cases typeOk t && okV v t <;> cases v.null <;> cases decide (t = 4) <;> simp <;> omega
theorem law_VMR (l : List UInt8) (b : Bool) (n : Int) (s : ByteArray) (t : Int) (hn : -9223372036854775808 ≤ n ∧ n ≤ 9223372036854775807) : Den prog 474 [.sl (l.map bcell), .agg [.bool b, .int .i64 n, .str s], .int .i64 t] [] = some (.bool true, []) := by
  rw [Den_ofK [] pr_L05_ValueMatchesReference rfl]
  have hsan := sanity05
  cases g1 : decide ((400 : Int) < (l.length : Int)) with
  | true => simp only [f_L05_ValueMatchesReference, hsan, g1, go_sem]
  | false =>
  cases g2 : decide ((400 : Int) < (s.size : Int)) with
  | true => simp only [f_L05_ValueMatchesReference, hsan, g1, g2, go_sem]
  | false =>
    have hl : l.length ≤ 400 := by simp at g1; omega
    have hs : s.size ≤ 400 := by simp at g2; omega
    have hv := value_Valid b n s t hn
    have hw := R05_Valid b n s t
    have he := value_Encode l b n s t (by omega) (by omega) hn
    have hf := R05_Encode l b n s t (by omega) (by omega) hn
    have hg := value_Show b n s t hn
    have hh := R05_Show b n s t hn
    have hk := encV_len ⟨b, n, s⟩ t hn
    simp only [] at hk
    have hS := R01_Same (l ++ encV ⟨b, n, s⟩ t) (l ++ encV ⟨b, n, s⟩ t) (by simp; omega) (by simp; omega)
    rw [decide_eq_true rfl] at hS
    generalize l ++ encV ⟨b, n, s⟩ t = X at *
    generalize showV ⟨b, n, s⟩ t = Y at *
    generalize (typeOk t && okV ⟨b, n, s⟩ t) = B at *
    simp only [f_L05_ValueMatchesReference, hsan, g1, g2, hv, hw, he, hf, hg, hh, hS, beq_self_eq_true, go_sem]
theorem row_VMR (xs : List AV) (h : Args Tryz.prog [22, 24, 3] xs) : Den prog 474 xs [] = some (.bool true, []) := by
  obtain ⟨n, x, ys, rfl, h1, h⟩ := h.one
  obtain ⟨n2, x2, ys2, rfl, h2, h⟩ := h.one
  obtain ⟨n3, x3, ys3, rfl, h3, h⟩ := h.one
  cases h.none
  obtain ⟨L, rfl, hL⟩ := sh_bytes h1
  obtain ⟨b, j, s, rfl, hj, hs⟩ := sh_valb h2
  obtain ⟨t, rfl, ht⟩ := sh_int h3
  simp only [avOf, Tryz.underlying22, Tryz.underlying24, Tryz.underlying3]
  exact law_VMR L b j s t hj
end Go.Den
