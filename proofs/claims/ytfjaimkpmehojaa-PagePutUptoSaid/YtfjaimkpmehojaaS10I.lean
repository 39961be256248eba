/- Ch. 10: the reference's bytes. -/
import Derived.Test.YtfjaimkpmehojaaS10G
namespace Go.Den
open Go
set_option linter.unusedSimpArgs false
set_option linter.unusedVariables false
set_option maxRecDepth 100000
set_option maxHeartbeats 1000000
theorem R01_Text2 (l : List UInt8) (s : ByteArray) (hl : l.length < 10000000000) (hs : s.size < 10000000000) : Den prog 452 [.sl (l.map bcell), .str s] [] = some (.osl 0 0 (l ++ (leb s.size ++ s.data.toList)).length 0 (l ++ (leb s.size ++ s.data.toList)).length, [.arr 0 1 ((l ++ (leb s.size ++ s.data.toList)).map bcell)]) := by
  have h := R01_Text l s hl hs
  have e : l.length + (leb s.size).length + s.size = (l ++ (leb s.size ++ s.data.toList)).length := by
    have : s.data.toList.length = s.size := rfl
    simp only [List.length_append, this]; omega
  rw [e, List.append_assoc] at h
  exact h
theorem R01_S2 (l : List UInt8) (n : Int) (h0 : -9223372036854775808 ≤ n) (h1 : n ≤ 9223372036854775807) (hl : l.length < 100000000000) : Den prog 453 [.sl (l.map bcell), .int .i64 n] [] = some (.osl 0 0 (l ++ leb (zz n)).length 0 (l ++ leb (zz n)).length, [.arr 0 1 ((l ++ leb (zz n)).map bcell)]) := by
  have h := R01_S l n h0 h1 hl
  rw [← List.length_append] at h
  exact h
theorem R01_U2 (l : List UInt8) (n : Nat) (hn : n < 18446744073709551616) (hl : l.length < 100000000000) : Den prog 451 [.sl (l.map bcell), .int .u64 n] [] = some (.osl 0 0 (l ++ leb n).length 0 (l ++ leb n).length, [.arr 0 1 ((l ++ leb n).map bcell)]) := by
  have h := R01_U l n hn hl
  rw [← List.length_append] at h
  exact h
theorem R10_Bare (l : List UInt8) (b : Bool) (n : Int) (s : ByteArray) (t : Int) (hl : l.length < 1000000000) (hs : s.size < 1000000000) (hn : -9223372036854775808 ≤ n ∧ n ≤ 9223372036854775807) :
    Den prog 497 [.sl (l.map bcell), .agg [.bool b, .int .i64 n, .str s], .int .i64 t] [] = some (.sl ((l ++ bareB ⟨b, n, s⟩ t).map bcell), []) := by
  rw [Den_ofK [] pr_R10_Bare rfl]
  unfold bareB
  cases d4 : decide (t = 4) with
  | true =>
    have h := R01_Text2 l s (by omega) (by omega)
    simp only [cond_true]
    generalize l ++ (leb s.size ++ s.data.toList) = L at *
    simp only [f_R10_Bare, d4, h, cond_true, go_sem]
  | false =>
    have h := R01_S2 l n hn.1 hn.2 (by omega)
    simp only [cond_false]
    generalize l ++ leb (zz n) = L at *
    simp only [f_R10_Bare, d4, h, cond_false, go_sem]
theorem R01_Bytes2 (m c : List UInt8) (hm : m.length < 10000000000) (hc : c.length < 10000000000) : Den prog 499 [.osl 1 0 m.length 0 m.length, .sl (c.map bcell)] [.dead, .arr 0 1 (m.map bcell)] = some (.sl ((m ++ (leb c.length ++ c)).map bcell), [.dead, .dead]) := by
  rw [Den_ofK [.dead, .arr 0 1 (m.map bcell)] pr_R01_Bytes rfl]
  have hw2 : IntKind.wrap .u64 (c.length : Int) = c.length := wrap_u64 (by omega) (by omega)
  have h2 := R01_U2 m c.length (by omega) (by omega)
  have h10 := leb_len10 (show c.length < 18446744073709551616 by omega)
  have hb : (m.length + ((leb c.length).length + c.length)) * 1 ≤ 140737488355328 := by omega
  simp only [go_sem] at h2
  simp only [f_R01_Bytes, hw2, h2, hb, Nat.add_assoc, go_sem]
theorem R10_Put (b : List UInt8) (p : Pg) (hb : b.length < 1000000000) (hp : p.b.length < 1000000000) : Den prog 501 [.sl (b.map bcell), .agg p.cells] [] = some (.sl ((putP b p).map bcell), []) := by
  rw [Den_ofK [] pr_R10_Put rfl]
  obtain ⟨k, r, c⟩ := p
  have hk := u64_lt k
  have hr := u64_lt r
  have k1 := leb_len10 hk
  have k2 := leb_len10 hr
  have e1 := u64_eq k
  have e2 := u64_eq r
  have h1 := R01_U2 b (u64 k) hk (by omega)
  have h2 := R01_U2 (b ++ leb (u64 k)) (u64 r) hr (by simp; omega)
  have h3 := R01_Bytes2 (b ++ (leb (u64 k) ++ leb (u64 r))) c (by simp; omega) (by simp at hp; omega)
  unfold putP
  simp only [go_sem] at h1 h2 h3
  simp only [f_R10_Put, Pg.cells, e1, e2, h1, h2, h3, Nat.add_assoc, go_sem]
end Go.Den
