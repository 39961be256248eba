/- Package page: the encoders by their numbers. -/
import Derived.Test.YtfjaimkpmehojaaGreatS10C
import Derived.Test.YtfjaimkpmehojaaGreatFn10W
import Derived.Test.YtfjaimkpmehojaaGreatS5W
namespace Go.Den
open Go
set_option linter.unusedSimpArgs false
set_option linter.unusedVariables false
set_option maxRecDepth 100000
set_option maxHeartbeats 1000000
def codV (k : Int) : AV := bif decide (k = 1) then .iface 77 (.agg []) else bif decide (k = 2) then .iface 78 (.agg []) else bif decide (k = 3) then .iface 79 (.agg []) else bif decide (k = 4) then .iface 80 (.agg []) else .nilif
theorem page_coderOf (k : Int) : Den prog 476 [.int .i64 k] [] = some (codV k, []) := by
  rw [Den_ofK [] pr_page_coderOf rfl]
  unfold codV
  cases d1 : decide (k = 1) with
  | true => simp only [f_page_coderOf, d1, cond_true, go_sem]
  | false =>
  cases d2 : decide (k = 2) with
  | true => simp only [f_page_coderOf, d1, d2, cond_true, cond_false, go_sem]
  | false =>
  cases d3 : decide (k = 3) with
  | true => simp only [f_page_coderOf, d1, d2, d3, cond_true, cond_false, go_sem]
  | false =>
  cases d4 : decide (k = 4) with
  | true => simp only [f_page_coderOf, d1, d2, d3, d4, cond_true, cond_false, go_sem]
  | false => simp only [f_page_coderOf, d1, d2, d3, d4, cond_false, go_sem]
theorem kind_cases (k : Int) : kindOk k = (decide (k = 1) || (decide (k = 2) || (decide (k = 3) || decide (k = 4)))) := by
  unfold kindOk
  rw [Bool.eq_iff_iff]; simp; omega
theorem wire_Text2 (l : List UInt8) (s : ByteArray) (hl : l.length < 10000000000) (hs : s.size < 10000000000) : Den prog 414 [.sl (l.map bcell), .str s] [] = some (.osl 0 0 (l ++ (leb s.size ++ s.data.toList)).length 0 (l ++ (leb s.size ++ s.data.toList)).length, [.arr 0 1 ((l ++ (leb s.size ++ s.data.toList)).map bcell)]) := by
  have h := wire_Text l s hl hs
  have e : l.length + (leb s.size).length + s.size = (l ++ (leb s.size ++ s.data.toList)).length := by
    have : s.data.toList.length = s.size := rfl
    simp only [List.length_append, this]; omega
  rw [e, List.append_assoc] at h
  exact h
theorem wire_S2 (l : List UInt8) (n : Int) (h0 : -9223372036854775808 ≤ n) (h1 : n ≤ 9223372036854775807) (hl : l.length < 100000000000) : Den prog 415 [.sl (l.map bcell), .int .i64 n] [] = some (.osl 0 0 (l ++ leb (zz n)).length 0 (l ++ leb (zz n)).length, [.arr 0 1 ((l ++ leb (zz n)).map bcell)]) := by
  have h := wire_S l n h0 h1 hl
  rw [← List.length_append] at h
  exact h
theorem wire_U2 (l : List UInt8) (n : Nat) (hn : n < 18446744073709551616) (hl : l.length < 100000000000) : Den prog 412 [.sl (l.map bcell), .int .u64 n] [] = some (.osl 0 0 (l ++ leb n).length 0 (l ++ leb n).length, [.arr 0 1 ((l ++ leb n).map bcell)]) := by
  have h := wire_U l n hn hl
  rw [← List.length_append] at h
  exact h
end Go.Den
