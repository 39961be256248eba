
/- Ch. 10: pages among bytes: Get. -/
import Derived.Test.YtfjaimkpmehojaaS10NA
import Derived.Test.YtfjaimkpmehojaaS10UA
import Derived.Test.YtfjaimkpmehojaaS10E
import Derived.Test.YtfjaimkpmehojaaSan10
namespace Go.Den
open Go
set_option linter.unusedSimpArgs false
set_option linter.unusedVariables false
set_option maxRecDepth 100000
set_option maxHeartbeats 1000000
theorem wire_ReadBytes (b : List UInt8) (at_ : Int) (hb : b.length < 10000000000) : Den prog 480 [.sl (b.map bcell), .int .i64 at_] [] = some (.tup [.sl ((rT b at_).1.map bcell), .int .i64 (rT b at_).2.1, .int .i64 (rT b at_).2.2], []) := by
  rw [Den_ofK [] pr_wire_ReadBytes rfl]
  have h := wire_span b at_ (by omega)
  obtain ⟨h0, h1, h2⟩ := spanS_in b at_
  unfold rT
  generalize spanS b at_ = r at *
  obtain ⟨l, u, e⟩ := r
  simp only [] at h h0 h1 h2 ⊢
  have hm : ((b.map bcell).drop l.toNat).take (u.toNat - l.toNat) = ((b.drop l.toNat).take (u.toNat - l.toNat)).map bcell := by simp
  have hl : ((b.drop l.toNat).take (u.toNat - l.toNat)).length ≤ b.length := by simp; omega
  generalize (b.drop l.toNat).take (u.toNat - l.toNat) = G at *
  have hr := wire_room G 0 (by omega) (by omega) (by omega)
  simp only [f_wire_ReadBytes, h, h0, h1, h2, hm, hr, go_sem]
def G3 (r : Pg × Int × Int) : AV := .tup [.agg r.1.cells, .int .i64 r.2.1, .int .i64 r.2.2]
theorem codV_nil (k : Nat) (h : k ≤ 4) : (codV k = .nilif ∧ k < 1) ∨ (∃ t, codV k = .iface t (.agg [])) ∧ ¬ k < 1 := by
  have : k = 0 ∨ k = 1 ∨ k = 2 ∨ k = 3 ∨ k = 4 := by omega
  rcases this with rfl | rfl | rfl | rfl | rfl
  · exact .inl ⟨rfl, by decide⟩
  · exact .inr ⟨⟨_, rfl⟩, by decide⟩
  · exact .inr ⟨⟨_, rfl⟩, by decide⟩
  · exact .inr ⟨⟨_, rfl⟩, by decide⟩
  · exact .inr ⟨⟨_, rfl⟩, by decide⟩
theorem page_Get (b : List UInt8) (a : Int) (hb : b.length < 10000000000) : Den prog 487 [.sl (b.map bcell), .int .i64 a] [] = some (G3 (getG b a), []) := by
  rw [Den_ofK [] pr_page_Get rfl]
  have u1 := wire_ReadU b a (by omega)
  have u2 := wire_ReadU b (rU b a).2.1 (by omega)
  have u3 := wire_ReadBytes b (rU b (rU b a).2.1).2.1 hb
  have b1 := rU_lt b a
  have b2 := rU_lt b (rU b a).2.1
  unfold getG G3
  generalize rU b a = q1 at *
  generalize rU b q1.2.1 = q2 at *
  generalize rT b q2.2.1 = q3 at *
  obtain ⟨k, x1, e1⟩ := q1
  obtain ⟨n, x2, e2⟩ := q2
  obtain ⟨l, x3, e3⟩ := q3
  unfold t3 at u1 u2
  simp only [] at *
  have c1 : decide ((4 : Int) < (k : Int)) = decide (4 < k) := by rw [Bool.eq_iff_iff]; simp; omega
  have c2 : decide ((1024 : Int) < (n : Int)) = decide (1024 < n) := by rw [Bool.eq_iff_iff]; simp; omega
  cases d1 : decide (e1 = 0) with
  | false => simp only [f_page_Get, u1, d1, cond_true, Bool.not_false, Pg.cells, noP, go_sem]
  | true =>
  simp only [Bool.not_true, cond_false]
  cases d2 : decide (4 < k) with
  | true => simp only [f_page_Get, u1, d1, c1, d2, cond_true, Bool.true_or, Pg.cells, noP, go_sem]
  | false =>
  have hk : k ≤ 4 := by simp at d2; omega
  have w1 : IntKind.wrap .i64 (k : Int) = k := wrap_i64 (by omega) (by omega)
  have hcd := page_coderOf k
  rcases codV_nil k hk with ⟨g1, g2⟩ | ⟨⟨tt, g1⟩, g2⟩
  · rw [g1] at hcd
    rw [decide_eq_true g2]
    simp only [f_page_Get, u1, d1, c1, d2, w1, hcd, cond_true, Bool.or_true, Pg.cells, noP, go_sem]
  · rw [g1] at hcd
    rw [decide_eq_false g2]
    simp only [Bool.or_false, cond_false]
    cases d3 : decide (e2 = 0) with
    | false => simp only [f_page_Get, u1, d1, c1, d2, w1, hcd, u2, d3, cond_true, Bool.not_false, Pg.cells, noP, go_sem]
    | true =>
    simp only [Bool.not_true, cond_false]
    cases d4 : decide (1024 < n) with
    | true => simp only [f_page_Get, u1, d1, c1, d2, w1, hcd, u2, d3, c2, d4, cond_true, Bool.not_false, Pg.cells, noP, go_sem]
    | false =>
    simp only [cond_false]
    have hn : n ≤ 1024 := by simp at d4; omega
    have w2 : IntKind.wrap .i64 (n : Int) = n := wrap_i64 (by omega) (by omega)
    cases d5 : decide (e3 = 0) with
    | false => simp only [f_page_Get, u1, d1, c1, d2, w1, hcd, u2, d3, c2, d4, u3, d5, cond_true, Bool.not_false, Pg.cells, noP, go_sem]
    | true => simp only [f_page_Get, u1, d1, c1, d2, w1, w2, hcd, u2, d3, c2, d4, u3, d5, cond_true, cond_false, Bool.not_true, Pg.cells, noP, go_sem]
theorem R01_Join (a b : List UInt8) (ha : a.length < 10000000000) (hb : b.length < 10000000000) : Den prog 498 [.sl (a.map bcell), .sl (b.map bcell)] [] = some (.sl ((a ++ b).map bcell), []) := by
  rw [Den_ofK [] pr_R01_Join rfl]
  have h1 : a.length * 1 ≤ 140737488355328 := by omega
  have h2 : (a.length + b.length) * 1 ≤ 140737488355328 := by omega
  simp only [f_R01_Join, h1, h2, go_sem]
theorem wire_number2 (n : Nat) (es : List (List AV)) (v : Nat) (hn : n < 18446744073709551616) (he : es.length < 1000000000000) : Den prog 410 [.osl 2 v es.length 0 es.length, .int .u64 n] [.dead, .dead, .arr v 1 es] = some (.osl 2 v (es.length + (leb n).length) 0 (es.length + (leb n).length), [.dead, .dead, .arr v 1 (es ++ (leb n).map bcell)]) := by
  have hp : (128 : Nat) ^ 10 = 1180591620717411303424 := by decide
  rw [Den_ofK [.dead, .dead, .arr v 1 es] pr_wire_number rfl]
  simp only [f_wire_number, go_sem]
  refine fuel_ind (fun k (a : Nat × List (List AV)) => a.1 < 128 ^ k * 128 → a.2.length + k < 1000000000500 → (Run prog 3 (.loop 0 [0, 1] f_wire_number_l0) [(0, .osl 2 v a.2.length 0 a.2.length), (1, .int .u64 (a.1 : Nat))] [.dead, .dead, .arr v 1 a.2]).bind _ = some (AV.osl 2 v (a.2.length + (leb a.1).length) 0 (a.2.length + (leb a.1).length), [Ob.dead, Ob.dead, Ob.arr v 1 (a.2 ++ (leb a.1).map bcell)])) ?_ ?_ 10 (n, es) (by simp only []; omega) (by simp only []; omega)
  · intro ⟨n, es⟩ hn hl
    simp only [Nat.pow_zero, Nat.one_mul] at hn hl ⊢
    have d : decide (128 ≤ (n : Int)) = false := by simp; omega
    have hc : IntKind.wrap .u8 (n : Int) = n := wrap_u8 (by omega) (by omega)
    have hb : (es.length + 1) * 1 ≤ 140737488355328 := by omega
    rw [leb_small hn, Run_loop]
    simp only [f_wire_number_l0_eq, f_wire_number_l0u, d, hc, hb, bcell_of (show n < 256 by omega), fin_back, go_sem]
  · intro k ⟨n, es⟩ ih hn hl
    simp only [] at hn hl ih ⊢
    by_cases hs : n < 128
    · have d : decide (128 ≤ (n : Int)) = false := by simp; omega
      have hc : IntKind.wrap .u8 (n : Int) = n := wrap_u8 (by omega) (by omega)
      have hb : (es.length + 1) * 1 ≤ 140737488355328 := by omega
      rw [leb_small hs, Run_loop]
      simp only [f_wire_number_l0_eq, f_wire_number_l0u, d, hc, hb, bcell_of (show n < 256 by omega), fin_back, go_sem]
    · have d : decide (128 ≤ (n : Int)) = true := by simp; omega
      have hb : (es.length + 1) * 1 ≤ 140737488355328 := by omega
      have e2 : shrI .u64 (n : Int) 7 = ((n / 128 : Nat) : Int) := shr_nat .u64 n 7 (by decide)
      have ih := ih (n / 128, es ++ [bcell (UInt8.ofNat (128 + n % 128))]) (by simp only []; rw [Nat.pow_succ] at hn; omega) (by simp; omega)
      rw [bcell_of (show 128 + n % 128 < 256 by omega)] at ih
      simp only [List.length_append, List.length_cons, List.length_nil, Nat.zero_add] at ih
      have eL : es ++ [AV.int .u8 ((128 + n % 128 : Nat) : Int)] :: (leb (n / 128)).map bcell = es ++ [[AV.int .u8 ((128 + n % 128 : Nat) : Int)]] ++ (leb (n / 128)).map bcell := by simp
      rw [leb_big hs, Run_loop, List.map_cons, bcell_of (show 128 + n % 128 < 256 by omega), List.length_cons, Nat.add_comm (leb (n / 128)).length 1, ← Nat.add_assoc, eL, ← ih]
      simp only [f_wire_number_l0_eq, f_wire_number_l0u, d, hb, or128, e2, go_sem]
theorem fin_two (v sz n l : Nat) (es : List (List AV)) : fin .yes 2 (.osl 2 v n 0 l) [.dead, .dead, .arr v sz es] = some (.osl 2 v n 0 l, [.dead, .dead, .arr v sz es]) := (rfl)
theorem wire_sized2 (m c : List UInt8) (hm : m.length < 10000000000) (hc : c.length < 10000000000) : Den prog 481 [.osl 1 0 m.length 0 m.length, .sl (c.map bcell)] [.dead, .arr 0 1 (m.map bcell)] = some (.osl 2 0 (m.length + (leb c.length).length + c.length) 0 (m.length + (leb c.length).length + c.length), [.dead, .dead, .arr 0 1 ((m ++ (leb c.length ++ c)).map bcell)]) := by
  rw [Den_ofK [.dead, .arr 0 1 (m.map bcell)] pr_wire_sized_byte rfl]
  have hw : IntKind.wrap .i64 (10 + (c.length : Int)) = 10 + c.length := wrap_i64 (by omega) (by omega)
  have hw2 : IntKind.wrap .u64 (c.length : Int) = c.length := wrap_u64 (by omega) (by omega)
  have h1 := wire_room m (10 + c.length) (by omega) (by omega) (by omega)
  have h2 := wire_number2 c.length (m.map bcell) 0 (by omega) (by simp; omega)
  rw [List.length_map] at h2
  have h10 := leb_len10 (show c.length < 18446744073709551616 by omega)
  have hb : (m.length + (leb c.length).length + c.length) * 1 ≤ 140737488355328 := by omega
  simp only [f_wire_sized_byte, hw, hw2, h1, h2, hb, fin_two, go_sem]
theorem wire_Bytes2 (m c : List UInt8) (hm : m.length < 10000000000) (hc : c.length < 10000000000) : Den prog 482 [.osl 1 0 m.length 0 m.length, .sl (c.map bcell)] [.dead, .arr 0 1 (m.map bcell)] = some (.osl 2 0 (m.length + (leb c.length).length + c.length) 0 (m.length + (leb c.length).length + c.length), [.dead, .dead, .arr 0 1 ((m ++ (leb c.length ++ c)).map bcell)]) := by
  rw [Den_ofK [.dead, .arr 0 1 (m.map bcell)] pr_wire_Bytes rfl]
  have h := wire_sized2 m c hm hc
  simp only [go_sem] at h
  simp only [f_wire_Bytes, h, fin_two, go_sem]
theorem page_Put (b : List UInt8) (p : Pg) (hb : b.length < 1000000000) (hp : p.b.length < 1000000000) : Den prog 486 [.sl (b.map bcell), .agg p.cells] [] = some (.sl ((putP b p).map bcell), []) := by
  rw [Den_ofK [] pr_page_Put rfl]
  obtain ⟨k, r, c⟩ := p
  have hk := u64_lt k
  have hr := u64_lt r
  have k1 := leb_len10 hk
  have k2 := leb_len10 hr
  have e1 := u64_eq k
  have e2 := u64_eq r
  have h1 := wire_U2 b (u64 k) hk (by omega)
  have h2 := wire_U2 (b ++ leb (u64 k)) (u64 r) hr (by simp; omega)
  have h3 := wire_Bytes2 (b ++ (leb (u64 k) ++ leb (u64 r))) c (by simp; omega) (by simp at hp; omega)
  unfold putP
  simp only [go_sem] at h1 h2 h3
  simp only [f_page_Put, Pg.cells, e1, e2, h1, h2, h3, Nat.add_assoc, go_sem]
end Go.Den
