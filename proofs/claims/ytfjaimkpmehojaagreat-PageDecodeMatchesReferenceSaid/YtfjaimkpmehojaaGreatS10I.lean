/- Ch. 10: the reference's bytes. -/
import Derived.Test.YtfjaimkpmehojaaGreatS10UA
namespace Go.Den
open Go
set_option linter.unusedSimpArgs false
set_option linter.unusedVariables false
set_option maxRecDepth 100000
set_option maxHeartbeats 1000000
theorem R01_Text2 (l : List UInt8) (s : ByteArray) (hl : l.length < 10000000000) (hs : s.size < 10000000000) : Den prog 452 [.sl (l.map bcell), .str s] [] = some (.osl 0 0 (l ++ (leb s.size ++ s.data.toList)).length 0 (l ++ (leb s.size ++ s.data.toList)).length, [.arr 0 1 ((l ++ (leb s.size ++ s.data.toList)).map bcell)]) := by
  have h := R01_Text l s hl hs
  have e : l.length + (leb s.size).length + s.size = (l ++ (leb s.size ++ s.data.toList)).length := by
    have : s.data.toList.length = s.size := rfl
    simp only [List.length_append, this]; omega
  rw [e, List.append_assoc] at h
  exact h
theorem R01_S2 (l : List UInt8) (n : Int) (h0 : -9223372036854775808 ≤ n) (h1 : n ≤ 9223372036854775807) (hl : l.length < 100000000000) : Den prog 453 [.sl (l.map bcell), .int .i64 n] [] = some (.osl 0 0 (l ++ leb (zz n)).length 0 (l ++ leb (zz n)).length, [.arr 0 1 ((l ++ leb (zz n)).map bcell)]) := by
  have h := R01_S l n h0 h1 hl
  rw [← List.length_append] at h
  exact h
theorem R01_U2 (l : List UInt8) (n : Nat) (hn : n < 18446744073709551616) (hl : l.length < 100000000000) : Den prog 451 [.sl (l.map bcell), .int .u64 n] [] = some (.osl 0 0 (l ++ leb n).length 0 (l ++ leb n).length, [.arr 0 1 ((l ++ leb n).map bcell)]) := by
  have h := R01_U l n hn hl
  rw [← List.length_append] at h
  exact h
theorem R10_Bare (l : List UInt8) (b : Bool) (n : Int) (s : ByteArray) (t : Int) (hl : l.length < 1000000000) (hs : s.size < 1000000000) (hn : -9223372036854775808 ≤ n ∧ n ≤ 9223372036854775807) :
    Den prog 497 [.sl (l.map bcell), .agg [.bool b, .int .i64 n, .str s], .int .i64 t] [] = some (.sl ((l ++ bareB ⟨b, n, s⟩ t).map bcell), []) := by
  rw [Den_ofK [] pr_R10_Bare rfl]
  unfold bareB
  cases d4 : decide (t = 4) with
  | true =>
    have h := R01_Text2 l s (by omega) (by omega)
    simp only [cond_true]
    generalize l ++ (leb s.size ++ s.data.toList) = L at *
    simp only [f_R10_Bare, d4, h, cond_true, go_sem]
  | false =>
    have h := R01_S2 l n hn.1 hn.2 (by omega)
    simp only [cond_false]
    generalize l ++ leb (zz n) = L at *
    simp only [f_R10_Bare, d4, h, cond_false, go_sem]
end Go.Den
