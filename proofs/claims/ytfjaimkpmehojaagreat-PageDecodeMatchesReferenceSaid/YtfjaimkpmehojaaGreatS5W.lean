/- Package wire and its reference: numbers and texts as bytes. -/
import Derived.Test.YtfjaimkpmehojaaGreatS06T
import Derived.Test.YtfjaimkpmehojaaGreatSBy
namespace Go.Den
open Go
set_option linter.unusedSimpArgs false
set_option linter.unusedVariables false
set_option maxRecDepth 100000
set_option maxHeartbeats 1000000
theorem wire_number (n : Nat) (es : List (List AV)) (v : Nat) (hn : n < 18446744073709551616) (he : es.length < 1000000000000) : Den prog 410 [.osl 0 v es.length 0 es.length, .int .u64 n] [.arr v 1 es] = some (.osl 0 v (es.length + (leb n).length) 0 (es.length + (leb n).length), [.arr v 1 (es ++ (leb n).map bcell)]) := by
  have hp : (128 : Nat) ^ 10 = 1180591620717411303424 := by decide
  rw [Den_ofK [.arr v 1 es] pr_wire_number rfl]
  simp only [f_wire_number, go_sem]
  refine fuel_ind (fun k (a : Nat × List (List AV)) => a.1 < 128 ^ k * 128 → a.2.length + k < 1000000000500 → (Run prog 1 (.loop 0 [0, 1] f_wire_number_l0) [(0, .osl 0 v a.2.length 0 a.2.length), (1, .int .u64 (a.1 : Nat))] [.arr v 1 a.2]).bind _ = some (AV.osl 0 v (a.2.length + (leb a.1).length) 0 (a.2.length + (leb a.1).length), [Ob.arr v 1 (a.2 ++ (leb a.1).map bcell)])) ?_ ?_ 10 (n, es) (by simp only []; omega) (by simp only []; omega)
  · intro ⟨n, es⟩ hn hl
    simp only [Nat.pow_zero, Nat.one_mul] at hn hl ⊢
    have d : decide (128 ≤ (n : Int)) = false := by simp; omega
    have hc : IntKind.wrap .u8 (n : Int) = n := wrap_u8 (by omega) (by omega)
    have hb : (es.length + 1) * 1 ≤ 140737488355328 := by omega
    rw [leb_small hn, Run_loop]
    simp only [f_wire_number_l0_eq, f_wire_number_l0u, d, hc, hb, bcell_of (show n < 256 by omega), fin_back, go_sem]
  · intro k ⟨n, es⟩ ih hn hl
    simp only [] at hn hl ih ⊢
    by_cases hs : n < 128
    · have d : decide (128 ≤ (n : Int)) = false := by simp; omega
      have hc : IntKind.wrap .u8 (n : Int) = n := wrap_u8 (by omega) (by omega)
      have hb : (es.length + 1) * 1 ≤ 140737488355328 := by omega
      rw [leb_small hs, Run_loop]
      simp only [f_wire_number_l0_eq, f_wire_number_l0u, d, hc, hb, bcell_of (show n < 256 by omega), fin_back, go_sem]
    · have d : decide (128 ≤ (n : Int)) = true := by simp; omega
      have hb : (es.length + 1) * 1 ≤ 140737488355328 := by omega
      have e2 : shrI .u64 (n : Int) 7 = ((n / 128 : Nat) : Int) := shr_nat .u64 n 7 (by decide)
      have ih := ih (n / 128, es ++ [bcell (UInt8.ofNat (128 + n % 128))]) (by simp only []; rw [Nat.pow_succ] at hn; omega) (by simp; omega)
      rw [bcell_of (show 128 + n % 128 < 256 by omega)] at ih
      simp only [List.length_append, List.length_cons, List.length_nil, Nat.zero_add] at ih
      have eL : es ++ [AV.int .u8 ((128 + n % 128 : Nat) : Int)] :: (leb (n / 128)).map bcell = es ++ [[AV.int .u8 ((128 + n % 128 : Nat) : Int)]] ++ (leb (n / 128)).map bcell := by simp
      rw [leb_big hs, Run_loop, List.map_cons, bcell_of (show 128 + n % 128 < 256 by omega), List.length_cons, Nat.add_comm (leb (n / 128)).length 1, ← Nat.add_assoc, eL, ← ih]
      simp only [f_wire_number_l0_eq, f_wire_number_l0u, d, hb, or128, e2, go_sem]
theorem wire_room (l : List UInt8) (k : Int) (h0 : 0 ≤ k) (hk : k < 1000000000000) (hl : l.length < 1000000000000) : Den prog 409 [.sl (l.map bcell), .int .i64 k] [] = some (.osl 0 0 l.length 0 l.length, [.arr 0 1 (l.map bcell)]) := by
  rw [Den_ofK [] pr_wire_room rfl]
  have hw : IntKind.wrap .i64 ((l.length : Int) + k) = l.length + k := wrap_i64 (by omega) (by omega)
  have h1 : (l.length : Int) ≤ l.length + k := by omega
  have h2 : ((l.length : Int) + k) * 1 ≤ 140737488355328 := by omega
  simp only [f_wire_room, hw, h1, h2, List.length_replicate, go_sem]
theorem wire_U (l : List UInt8) (n : Nat) (hn : n < 18446744073709551616) (hl : l.length < 100000000000) : Den prog 412 [.sl (l.map bcell), .int .u64 n] [] = some (.osl 0 0 (l.length + (leb n).length) 0 (l.length + (leb n).length), [.arr 0 1 ((l ++ leb n).map bcell)]) := by
  rw [Den_ofK [] pr_wire_U rfl]
  have h1 := wire_room l 10 (by decide) (by decide) (by omega)
  have h2 := wire_number n (l.map bcell) 0 hn (by simp; omega)
  rw [List.length_map] at h2
  simp only [f_wire_U, h1, h2, go_sem]
theorem wire_S (l : List UInt8) (n : Int) (h0 : -9223372036854775808 ≤ n) (h1 : n ≤ 9223372036854775807) (hl : l.length < 100000000000) : Den prog 415 [.sl (l.map bcell), .int .i64 n] [] = some (.osl 0 0 (l.length + (leb (zz n)).length) 0 (l.length + (leb (zz n)).length), [.arr 0 1 ((l ++ leb (zz n)).map bcell)]) := by
  rw [Den_ofK [] pr_wire_S rfl]
  have hu := wire_U l (zz n) (zz_lt h0 h1) hl
  have hx : xorI .u64 (shlI .u64 (IntKind.wrap .u64 n) 1) (IntKind.wrap .u64 (shrI .i64 n 63)) = (zz n : Nat) := by
    have hs : shlI .u64 (IntKind.wrap .u64 n) 1 = IntKind.wrap .u64 (IntKind.wrap .u64 n * 2) := rfl
    have hr : shrI .i64 n 63 = n.fdiv 9223372036854775808 := rfl
    have hz := zz_lt h0 h1
    by_cases hn : 0 ≤ n
    · have e1 : n.fdiv 9223372036854775808 = 0 := by rw [Int.fdiv_eq_ediv_of_nonneg _ (by decide)]; omega
      have e2 : IntKind.wrap .u64 (IntKind.wrap .u64 n * 2) = ((zz n : Nat) : Int) := by
        rw [wrap_u64 hn (by omega), wrap_u64 (by omega) (by omega)]
        unfold zz; rw [if_pos hn]; omega
      rw [hs, hr, e1, e2, show IntKind.wrap .u64 0 = 0 from rfl, xor_zero _ hz]
    · have e1 : n.fdiv 9223372036854775808 = -1 := by rw [Int.fdiv_eq_ediv_of_nonneg _ (by decide)]; omega
      have w1 : IntKind.wrap .u64 n = n + 18446744073709551616 := wrap_u64_neg (by omega) (by omega)
      have e2 : IntKind.wrap .u64 (IntKind.wrap .u64 n * 2) = ((18446744073709551615 - zz n : Nat) : Int) := by
        rw [w1]
        unfold zz; rw [if_neg hn]
        simp [IntKind.wrap, IntKind.bits, IntKind.signed]
        omega
      rw [hs, hr, e1, e2, show IntKind.wrap .u64 (-1) = 18446744073709551615 from rfl, xor_ones _ (by omega)]
      omega
  simp only [f_wire_S, hx, hu, go_sem]
theorem wire_sized_str (l : List UInt8) (s : ByteArray) (hl : l.length < 10000000000) (hs : s.size < 10000000000) : Den prog 411 [.sl (l.map bcell), .str s] [] = some (.osl 0 0 (l.length + (leb s.size).length + s.size) 0 (l.length + (leb s.size).length + s.size), [.arr 0 1 ((l ++ leb s.size ++ s.data.toList).map bcell)]) := by
  rw [Den_ofK [] pr_wire_sized_string rfl]
  have hw : IntKind.wrap .i64 (10 + (s.size : Int)) = 10 + s.size := wrap_i64 (by omega) (by omega)
  have hw2 : IntKind.wrap .u64 (s.size : Int) = s.size := wrap_u64 (by omega) (by omega)
  have h1 := wire_room l (10 + s.size) (by omega) (by omega) (by omega)
  have h2 := wire_number s.size (l.map bcell) 0 (by omega) (by simp; omega)
  rw [List.length_map] at h2
  have h10 := leb_len10 (show s.size < 18446744073709551616 by omega)
  have hsz : s.data.toList.length = s.size := by simp
  have hb : (l.length + (leb s.size).length + s.size) * 1 ≤ 140737488355328 := by omega
  simp only [f_wire_sized_string, hw, hw2, h1, h2, hb, hsz, go_sem]
theorem wire_Text (l : List UInt8) (s : ByteArray) (hl : l.length < 10000000000) (hs : s.size < 10000000000) : Den prog 414 [.sl (l.map bcell), .str s] [] = some (.osl 0 0 (l.length + (leb s.size).length + s.size) 0 (l.length + (leb s.size).length + s.size), [.arr 0 1 ((l ++ leb s.size ++ s.data.toList).map bcell)]) := by
  rw [Den_ofK [] pr_wire_Text rfl]
  have h1 := wire_sized_str l s hl hs
  simp only [f_wire_Text, h1, go_sem]
theorem R01_U (l : List UInt8) (n : Nat) (hn : n < 18446744073709551616) (hl : l.length < 100000000000) : Den prog 451 [.sl (l.map bcell), .int .u64 n] [] = some (.osl 0 0 (l.length + (leb n).length) 0 (l.length + (leb n).length), [.arr 0 1 ((l ++ leb n).map bcell)]) := by
  have hp : (128 : Nat) ^ 10 = 1180591620717411303424 := by decide
  rw [Den_ofK [] pr_R01_U rfl]
  have hb0 : l.length * 1 ≤ 140737488355328 := by omega
  simp only [f_R01_U, hb0, go_sem]
  refine Eq.trans (b := some (AV.osl 0 0 ((l.map bcell).length + (leb n).length) 0 ((l.map bcell).length + (leb n).length), [Ob.arr 0 1 (l.map bcell ++ (leb n).map bcell)])) ?_ (by simp only [List.length_map])
  have e0 : l.length = (l.map bcell).length := by simp
  rw [e0]
  refine fuel_ind (fun k (a : Nat × List (List AV)) => a.1 < 128 ^ k * 128 → a.1 < 18446744073709551616 → a.2.length + k < 1000000000500 → (Run prog 0 (.loop 1 [1, 5] f_R01_U_l0) [(1, .int .u64 (a.1 : Nat)), (5, .osl 0 0 a.2.length 0 a.2.length)] [.arr 0 1 a.2]).bind _ = some (AV.osl 0 0 (a.2.length + (leb a.1).length) 0 (a.2.length + (leb a.1).length), [Ob.arr 0 1 (a.2 ++ (leb a.1).map bcell)])) ?_ ?_ 10 (n, l.map bcell) (by simp only []; omega) hn (by simp; omega)
  · intro ⟨n, es⟩ hn h64 hl
    simp only [Nat.pow_zero, Nat.one_mul] at hn h64 hl ⊢
    have d : decide (127 < (n : Int)) = false := by simp; omega
    have hc : IntKind.wrap .u8 (n : Int) = n := wrap_u8 (by omega) (by omega)
    have hb : (es.length + 1) * 1 ≤ 140737488355328 := by omega
    rw [leb_small hn, Run_loop]
    simp only [f_R01_U_l0_eq, f_R01_U_l0u, d, hc, hb, bcell_of (show n < 256 by omega), go_sem]
  · intro k ⟨n, es⟩ ih hn h64 hl
    simp only [] at hn h64 hl ih ⊢
    by_cases hs : n < 128
    · have d : decide (127 < (n : Int)) = false := by simp; omega
      have hc : IntKind.wrap .u8 (n : Int) = n := wrap_u8 (by omega) (by omega)
      have hb : (es.length + 1) * 1 ≤ 140737488355328 := by omega
      rw [leb_small hs, Run_loop]
      simp only [f_R01_U_l0_eq, f_R01_U_l0u, d, hc, hb, bcell_of (show n < 256 by omega), go_sem]
    · have d : decide (127 < (n : Int)) = true := by simp; omega
      have hb : (es.length + 1) * 1 ≤ 140737488355328 := by omega
      have z : (128 : Int) ≠ 0 := by decide
      have e1 : IntKind.wrap .u8 (IntKind.wrap .u64 (128 + (n : Int).tmod 128)) = ((128 + n % 128 : Nat) : Int) := by
        have : (n : Int).tmod 128 = ((n % 128 : Nat) : Int) := rfl
        rw [this, wrap_u64 (by omega) (by omega), wrap_u8 (by omega) (by omega)]; simp
      have e2 : IntKind.wrap .u64 ((n : Int).tdiv 128) = ((n / 128 : Nat) : Int) := by
        have : (n : Int).tdiv 128 = ((n / 128 : Nat) : Int) := rfl
        rw [this]
        have : n / 128 ≤ n := Nat.div_le_self _ _
        exact wrap_u64 (by omega) (by omega)
      have ih := ih (n / 128, es ++ [bcell (UInt8.ofNat (128 + n % 128))]) (by simp only []; rw [Nat.pow_succ] at hn; omega) (by simp only []; omega) (by simp; omega)
      rw [bcell_of (show 128 + n % 128 < 256 by omega)] at ih
      simp only [List.length_append, List.length_cons, List.length_nil, Nat.zero_add] at ih
      have eL : es ++ [AV.int .u8 ((128 + n % 128 : Nat) : Int)] :: (leb (n / 128)).map bcell = es ++ [[AV.int .u8 ((128 + n % 128 : Nat) : Int)]] ++ (leb (n / 128)).map bcell := by simp
      rw [leb_big hs, Run_loop, List.map_cons, bcell_of (show 128 + n % 128 < 256 by omega), List.length_cons, Nat.add_comm (leb (n / 128)).length 1, ← Nat.add_assoc, eL, ← ih]
      simp only [f_R01_U_l0_eq, f_R01_U_l0u, d, hb, z, e1, e2, go_sem]
theorem R01_S (l : List UInt8) (n : Int) (h0 : -9223372036854775808 ≤ n) (h1 : n ≤ 9223372036854775807) (hl : l.length < 100000000000) : Den prog 453 [.sl (l.map bcell), .int .i64 n] [] = some (.osl 0 0 (l.length + (leb (zz n)).length) 0 (l.length + (leb (zz n)).length), [.arr 0 1 ((l ++ leb (zz n)).map bcell)]) := by
  rw [Den_ofK [] pr_R01_S rfl]
  have hu := R01_U l (zz n) (zz_lt h0 h1) hl
  have hz := zz_lt h0 h1
  cases d : decide (0 ≤ n) with
  | true =>
    have hn : 0 ≤ n := by simpa using d
    have e : IntKind.wrap .u64 (2 * IntKind.wrap .u64 n) = ((zz n : Nat) : Int) := by
      rw [wrap_u64 hn (by omega), wrap_u64 (by omega) (by omega)]
      unfold zz; rw [if_pos hn]; omega
    simp only [f_R01_S, d, e, hu, go_sem]
  | false =>
    have hn : ¬ 0 ≤ n := by simpa using d
    have w1 : IntKind.wrap .i64 (n + 1) = n + 1 := wrap_i64 (by omega) (by omega)
    have w2 : IntKind.wrap .i64 (0 - (n + 1)) = 0 - (n + 1) := wrap_i64 (by omega) (by omega)
    have w3 : IntKind.wrap .u64 (0 - (n + 1)) = 0 - (n + 1) := wrap_u64 (by omega) (by omega)
    have w4 : IntKind.wrap .u64 (2 * (0 - (n + 1))) = 2 * (0 - (n + 1)) := wrap_u64 (by omega) (by omega)
    have w5 : IntKind.wrap .u64 (2 * (0 - (n + 1)) + 1) = ((zz n : Nat) : Int) := by
      rw [wrap_u64 (by omega) (by omega)]
      unfold zz; rw [if_neg hn]; omega
    simp only [f_R01_S, d, w1, w2, w3, w4, w5, hu, go_sem]
theorem R01_Text (l : List UInt8) (s : ByteArray) (hl : l.length < 10000000000) (hs : s.size < 10000000000) : Den prog 452 [.sl (l.map bcell), .str s] [] = some (.osl 0 0 (l.length + (leb s.size).length + s.size) 0 (l.length + (leb s.size).length + s.size), [.arr 0 1 ((l ++ leb s.size ++ s.data.toList).map bcell)]) := by
  rw [Den_ofK [] pr_R01_Text rfl]
  have hw2 : IntKind.wrap .u64 (s.size : Int) = s.size := wrap_u64 (by omega) (by omega)
  have h1 := R01_U l s.size (by omega) (by omega)
  have h10 := leb_len10 (show s.size < 18446744073709551616 by omega)
  have hsz : s.data.toList.length = s.size := by simp
  have hb : (l.length + (leb s.size).length + s.size) * 1 ≤ 140737488355328 := by omega
  simp only [f_R01_Text, hw2, h1, hb, hsz, go_sem]
theorem orU {i a m : Nat} (hi : i ≤ 9) (ha : a < 128 ^ i) (hm : m < 128) (h9 : i = 9 → m ≤ 1) : orI .u64 (a : Int) (shlI .u64 (m : Int) (IntKind.wrap .i64 (7 * (i : Int)))) = ((a + 128 ^ i * m : Nat) : Int) ∧ a + 128 ^ i * m < 18446744073709551616 := by
  have hp : 128 ^ i = 2 ^ (7 * i) := by rw [Nat.pow_mul]
  have hb : 128 ^ i * m + 128 ^ i ≤ 18446744073709551616 := by
    have : i = 0 ∨ i = 1 ∨ i = 2 ∨ i = 3 ∨ i = 4 ∨ i = 5 ∨ i = 6 ∨ i = 7 ∨ i = 8 ∨ i = 9 := by omega
    rcases this with rfl | rfl | rfl | rfl | rfl | rfl | rfl | rfl | rfl | rfl <;> (try have h9 := h9 rfl) <;> simp only [show (128 : Nat) ^ 0 = 1 by decide, show (128 : Nat) ^ 1 = 128 by decide, show (128 : Nat) ^ 2 = 16384 by decide, show (128 : Nat) ^ 3 = 2097152 by decide, show (128 : Nat) ^ 4 = 268435456 by decide, show (128 : Nat) ^ 5 = 34359738368 by decide, show (128 : Nat) ^ 6 = 4398046511104 by decide, show (128 : Nat) ^ 7 = 562949953421312 by decide, show (128 : Nat) ^ 8 = 72057594037927936 by decide, show (128 : Nat) ^ 9 = 9223372036854775808 by decide] at * <;> omega
  rw [wrap_i64 (by omega) (by omega)]
  have e : (7 : Int) * (i : Int) = ((7 * i : Nat) : Int) := by simp
  rw [hp] at ha hb
  rw [e, shl_nat (by omega) (by omega), orI_add ha (by omega), hp, Nat.add_comm]
  exact ⟨rfl, by omega⟩
def t3 (r : Nat × Int × Int) : AV := .tup [.int .u64 r.1, .int .i64 r.2.1, .int .i64 r.2.2]
theorem wire_ReadU (b : List UInt8) (at_ : Int) (hb : b.length < 100000000000) : Den prog 416 [.sl (b.map bcell), .int .i64 at_] [] = some (t3 (rU b at_), []) := by
  rw [Den_ofK [] pr_wire_ReadU rfl]
  unfold rU
  cases d0 : decide (at_ < 0) with
  | true => simp only [f_wire_ReadU, d0, Bool.true_or, cond_true, t3, go_sem]
  | false =>
  cases d1 : decide ((b.length : Int) < at_) with
  | true => simp only [f_wire_ReadU, d0, d1, Bool.or_true, cond_true, t3, go_sem]
  | false =>
  have h0 : 0 ≤ at_ := by simp at d0; omega
  have h1 : at_ ≤ (b.length : Int) := by simp at d1; omega
  have hL : (b.drop at_.toNat).length + at_.toNat = b.length := by simp; omega
  have hd : (b.map bcell).drop at_.toNat = (b.drop at_.toNat).map bcell := by simp
  generalize hD : b.drop at_.toNat = L at *
  simp only [f_wire_ReadU, d0, d1, h0, h1, hd, Bool.false_or, cond_false, go_sem]
  refine range_ind L (by omega) (fun i (a : Nat) => (Run prog 0 (.loop 0 [1, 7, 8, 22, 23, 24] f_wire_ReadU_l0) [(1, .int .i64 at_), (7, .int .u64 (a : Nat)), (8, .int .i64 6), (22, .sl (L.map bcell)), (23, .int .i64 L.length), (24, .int .i64 i)] []).bind _ = some (t3 (rdU 0 0 at_ L), []))
    (fun i rest a => ∃ k : Nat, i = k ∧ k ≤ 9 ∧ a < 128 ^ k ∧ rdU k a (at_ + k) rest = rdU 0 0 at_ L) ?_ ?_ 0 ⟨0, rfl, by omega, by decide, by simp⟩
  · intro a ⟨k, hk, h9, ha, hr⟩
    rw [← hr, Run_loop]
    simp only [f_wire_ReadU_l0_eq, f_wire_ReadU_l0u, rdU, t3, go_sem]
  · intro i pre rest x a hLx hi hi0 hi1 hx hc hw ⟨k, hk, h9, ha, hr⟩ ih
    subst hk
    have hlen := congrArg List.length hLx
    simp only [List.length_append, List.length_cons] at hlen
    have hx2 := x.toNat_lt
    have ea := and127 x
    have ew : IntKind.wrap .u64 ((x.toNat % 128 : Nat) : Int) = ((x.toNat % 128 : Nat) : Int) := wrap_u64 (by omega) (by omega)
    have hsh : 0 ≤ IntKind.wrap .i64 (7 * (k : Int)) := by rw [wrap_i64 (by omega) (by omega)]; omega
    have w1 : IntKind.wrap .i64 (at_ + (k : Int)) = at_ + k := wrap_i64 (by omega) (by omega)
    have w2 : IntKind.wrap .i64 (at_ + (k : Int) + 1) = at_ + k + 1 := wrap_i64 (by omega) (by omega)
    have q9 : decide ((k : Int) = 9) = decide (k = 9) := by rw [Bool.eq_iff_iff]; simp; omega
    have q1 : decide ((1 : Int) < (x.toNat : Int)) = decide (1 < x.toNat) := by rw [Bool.eq_iff_iff]; simp; omega
    have q128 : decide ((128 : Int) ≤ (x.toNat : Int)) = decide (128 ≤ x.toNat) := by rw [Bool.eq_iff_iff]; simp; omega
    have q0 : decide ((x.toNat : Int) = 0) = decide (x.toNat = 0) := by rw [Bool.eq_iff_iff]; simp
    have qk : decide ((0 : Int) < (k : Int)) = decide (0 < k) := by rw [Bool.eq_iff_iff]; simp
    rw [← hr, Run_loop, rdU]
    by_cases h9' : k = 9 ∧ 1 < x.toNat
    · have g1 : decide (k = 9) = true := decide_eq_true h9'.1
      have g2 : decide (1 < x.toNat) = true := decide_eq_true h9'.2
      clear hr ih hLx
      cases g3 : decide (128 ≤ x.toNat) <;>
      simp only [f_wire_ReadU_l0_eq, f_wire_ReadU_l0u, hx, hc, getE_bytes, bcell, ea, ew, hsh, q9, q1, q128, g1, g2, g3, Bool.and_self, cond_true, cond_false, t3, go_sem]
    · obtain ⟨eo, ho⟩ := orU (i := k) (a := a) (m := x.toNat % 128) h9 ha (by omega) (fun e => by have : ¬ 1 < x.toNat := fun h => h9' ⟨e, h⟩; omega)
      have gg : (decide (k = 9) && decide (1 < x.toNat)) = false := by
        rw [Bool.and_eq_false_iff, decide_eq_false_iff_not, decide_eq_false_iff_not]
        by_cases e : k = 9
        · exact .inr fun h => h9' ⟨e, h⟩
        · exact .inl e
      rw [gg, cond_false]
      cases g3 : decide (128 ≤ x.toNat) with
      | true =>
        have hk9 : k ≠ 9 := fun e => h9' ⟨e, by simp at g3; omega⟩
        have g1 : decide (k = 9) = false := decide_eq_false hk9
        have ih := ih (a + 128 ^ k * (x.toNat % 128)) ⟨k + 1, by omega, by omega, by
          rw [Nat.pow_succ]
          have : x.toNat % 128 < 128 := by omega
          have : 128 ^ k * (x.toNat % 128) ≤ 128 ^ k * 127 := Nat.mul_le_mul_left _ (by omega)
          omega, by
          rw [← hr, rdU, gg, g3, cond_false, cond_true]
          congr 1
          omega⟩
        rw [← hr, rdU, gg, g3, cond_false, cond_true] at ih
        clear hr hLx
        generalize a + 128 ^ k * (x.toNat % 128) = m at *
        simp only [f_wire_ReadU_l0_eq, f_wire_ReadU_l0u, hx, hc, hw, getE_bytes, bcell, ea, ew, hsh, eo, q9, q1, q128, g1, g3, ih, cond_true, cond_false, go_sem]
      | false =>
        clear hr hLx ih
        cases g1 : decide (k = 9) with
        | true =>
          rw [g1, Bool.true_and] at gg
          have qk' : decide (0 < k) = true := by simp at g1 ⊢; omega
          cases g0 : decide (x.toNat = 0) <;>
          simp only [f_wire_ReadU_l0_eq, f_wire_ReadU_l0u, hx, hc, getE_bytes, bcell, ea, ew, hsh, eo, q9, q1, q128, q0, qk, qk', gg, g1, g3, g0, w1, w2, Bool.and_self, Bool.false_and, cond_true, cond_false, t3, go_sem]
        | false =>
          cases g0 : decide (x.toNat = 0) <;> cases gk : decide (0 < k) <;>
          simp only [f_wire_ReadU_l0_eq, f_wire_ReadU_l0u, hx, hc, getE_bytes, bcell, ea, ew, hsh, eo, q9, q1, q128, q0, qk, g1, g3, g0, gk, w1, w2, Bool.and_self, Bool.false_and, Bool.and_false, cond_true, cond_false, t3, go_sem]
theorem R01_ReadU (b : List UInt8) (at_ : Int) (hb : b.length < 100000000000) : Den prog 463 [.sl (b.map bcell), .int .i64 at_] [] = some (t3 (rU b at_), []) := by
  rw [Den_ofK [] pr_R01_ReadU rfl]
  unfold rU
  cases d0 : decide (at_ < 0) with
  | true => simp only [f_R01_ReadU, d0, Bool.true_or, cond_true, t3, go_sem]
  | false =>
  cases d1 : decide ((b.length : Int) < at_) with
  | true => simp only [f_R01_ReadU, d0, d1, Bool.or_true, cond_true, t3, go_sem]
  | false =>
  have h0 : 0 ≤ at_ := by simp at d0; omega
  have h1 : at_ ≤ (b.length : Int) := by simp at d1; omega
  simp only [f_R01_ReadU, d0, d1, Bool.false_or, cond_false, go_sem]
  have start : rdU 0 0 at_ (b.drop at_.toNat) = rdU 0 0 (at_ + (0 : Nat)) (b.drop (at_.toNat + 0)) := by simp
  rw [start]
  refine fuel_ind (fun k (a : Nat × Nat × Nat) => a.1 + k = 10 → a.1 ≤ 9 → a.2.1 < 128 ^ a.1 → a.2.2 = 128 ^ a.1 → (Run prog 0 (.loop 0 [0, 1, 7, 8, 9] f_R01_ReadU_l0) [(0, .sl (b.map bcell)), (1, .int .i64 at_), (7, .int .u64 (a.2.1 : Nat)), (8, .int .u64 (a.2.2 : Nat)), (9, .int .i64 (a.1 : Nat))] []).bind _ = some (t3 (rdU a.1 a.2.1 (at_ + (a.1 : Nat)) (b.drop (at_.toNat + a.1))), [])) ?_ ?_ 10 (0, 0, 1) rfl (by decide) (by decide) rfl
  · intro ⟨i, acc, pl⟩ h1 h2
    exact absurd h1 (by simp only []; simp only [] at h2; omega)
  · intro k ⟨i, acc, pl⟩ ih hik h9 ha hpl
    simp only [] at hik h9 ha hpl ih ⊢
    subst hpl
    have hp9 := pow128 h9
    have d10 : decide ((i : Int) < 10) = true := by simp; omega
    have wl : IntKind.wrap .i64 ((b.length : Int) - at_) = b.length - at_ := wrap_i64 (by omega) (by omega)
    rw [Run_loop]
    by_cases hrest : (i : Int) < b.length - at_
    · have dl : decide ((b.length : Int) - at_ ≤ (i : Int)) = false := by simp; omega
      have hlt : at_.toNat + i < b.length := by omega
      obtain ⟨x, hxe⟩ : ∃ x, b[at_.toNat + i]? = some x := ⟨_, List.getElem?_eq_getElem hlt⟩
      have hdr : b.drop (at_.toNat + i) = x :: b.drop (at_.toNat + (i + 1)) := by
        rw [List.drop_eq_getElem_cons hlt]
        rw [List.getElem?_eq_getElem hlt] at hxe
        simp only [Option.some.injEq] at hxe
        rw [hxe]; rfl
      have w1 : IntKind.wrap .i64 (at_ + (i : Int)) = at_ + i := wrap_i64 (by omega) (by omega)
      have w2 : IntKind.wrap .i64 (at_ + (i : Int) + 1) = at_ + i + 1 := wrap_i64 (by omega) (by omega)
      have w3 : IntKind.wrap .i64 ((i : Int) + 1) = i + 1 := wrap_i64 (by omega) (by omega)
      have hx : getE b (at_ + (i : Int)) = some x := by
        unfold getE
        rw [if_pos (by omega), show (at_ + (i : Int)).toNat = at_.toNat + i by omega]
        exact hxe
      have hx2 := x.toNat_lt
      have wx : IntKind.wrap .u64 (x.toNat : Int) = x.toNat := wrap_u64 (by omega) (by omega)
      have q9 : decide ((i : Int) = 9) = decide (i = 9) := by rw [Bool.eq_iff_iff]; simp; omega
      have q1 : decide ((1 : Int) < (x.toNat : Int)) = decide (1 < x.toNat) := by rw [Bool.eq_iff_iff]; simp; omega
      have q128 : decide ((x.toNat : Int) < 128) = !decide (128 ≤ x.toNat) := by rw [Bool.eq_iff_iff]; simp; omega
      have q0 : decide ((x.toNat : Int) = 0) = decide (x.toNat = 0) := by rw [Bool.eq_iff_iff]; simp
      have qk : decide ((0 : Int) < (i : Int)) = decide (0 < i) := by rw [Bool.eq_iff_iff]; simp
      have tm : (x.toNat : Int).tmod 128 = ((x.toNat % 128 : Nat) : Int) := rfl
      have z128 : (128 : Int) ≠ 0 := by decide
      rw [hdr, rdU]
      by_cases h9' : i = 9 ∧ 1 < x.toNat
      · have g1 : decide (i = 9) = true := decide_eq_true h9'.1
        have g2 : decide (1 < x.toNat) = true := decide_eq_true h9'.2
        clear ih
        simp only [f_R01_ReadU_l0_eq, f_R01_ReadU_l0u, d10, wl, dl, w1, hx, wx, q9, q1, g1, g2, getE_bytes, bcell, Bool.and_self, cond_true, t3, go_sem]
      · obtain ⟨_, ho⟩ := orU (i := i) (a := acc) (m := x.toNat % 128) h9 ha (by omega) (fun e => by have : ¬ 1 < x.toNat := fun h => h9' ⟨e, h⟩; omega)
        have gg : (decide (i = 9) && decide (1 < x.toNat)) = false := by
          rw [Bool.and_eq_false_iff, decide_eq_false_iff_not, decide_eq_false_iff_not]
          by_cases e : i = 9
          · exact .inr fun h => h9' ⟨e, h⟩
          · exact .inl e
        have e1 : IntKind.wrap .u64 (((128 ^ i : Nat) : Int) * ((x.toNat % 128 : Nat) : Int)) = ((128 ^ i * (x.toNat % 128) : Nat) : Int) := by
          rw [← Int.natCast_mul, wrap_u64 (by omega) (by omega)]
        have e2 : IntKind.wrap .u64 ((acc : Int) + ((128 ^ i * (x.toNat % 128) : Nat) : Int)) = ((acc + 128 ^ i * (x.toNat % 128) : Nat) : Int) := by
          rw [← Int.natCast_add, wrap_u64 (by omega) (by omega)]
        rw [gg, cond_false]
        have eP : ∃ P : Int, IntKind.wrap .u64 (((128 ^ i : Nat) : Int) * 128) = P ∧ (i < 9 → P = ((128 ^ (i + 1) : Nat) : Int)) := ⟨_, rfl, fun h => by
          have := pow128 (show i + 1 ≤ 9 by omega)
          have e : ((128 ^ i : Nat) : Int) * 128 = ((128 ^ (i + 1) : Nat) : Int) := by rw [Nat.pow_succ]; simp
          rw [e, wrap_u64 (by omega) (by omega)]⟩
        obtain ⟨P, eP, hP⟩ := eP
        have dc : (decide (i = 9) = true ∧ decide (1 < x.toNat) = false) ∨ decide (i = 9) = false := by
          rw [Bool.and_eq_false_iff] at gg
          cases h : decide (i = 9)
          · exact .inr rfl
          · rw [h] at gg; exact .inl ⟨rfl, by simpa using gg⟩
        cases g3 : decide (128 ≤ x.toNat) with
        | true =>
          have hk9 : i ≠ 9 := fun e => h9' ⟨e, by simp at g3; omega⟩
          have g1 : decide (i = 9) = false := decide_eq_false hk9
          have ih := ih (i + 1, acc + 128 ^ i * (x.toNat % 128), 128 ^ (i + 1)) (by simp only []; omega) (by simp only []; omega) (by
            simp only []
            rw [Nat.pow_succ]
            have : 128 ^ i * (x.toNat % 128) ≤ 128 ^ i * 127 := Nat.mul_le_mul_left _ (by omega)
            omega) rfl
          simp only [] at ih
          rw [← hP (by omega), show at_ + ((i + 1 : Nat) : Int) = at_ + (i : Int) + 1 by omega, show ((i + 1 : Nat) : Int) = (i : Int) + 1 by omega] at ih
          generalize 128 ^ i * (x.toNat % 128) = M at *
          generalize acc + M = m at *
          simp only [f_R01_ReadU_l0_eq, f_R01_ReadU_l0u, d10, wl, dl, w1, w3, hx, wx, q9, q1, q128, g1, g3, tm, z128, e1, e2, eP, getE_bytes, bcell, ih, cond_true, cond_false, go_sem]
        | false =>
          clear ih
          generalize 128 ^ i * (x.toNat % 128) = M at *
          generalize hmm : acc + M = m at *
          rcases dc with ⟨g1, g2⟩ | g1
          · have qk' : decide (0 < i) = true := by simp at g1 ⊢; omega
            cases g0 : decide (x.toNat = 0) <;>
            simp only [f_R01_ReadU_l0_eq, f_R01_ReadU_l0u, d10, wl, dl, w1, w2, hx, wx, q9, q1, q128, q0, qk, qk', g0, g1, g2, g3, tm, z128, e1, e2, eP, hmm, getE_bytes, bcell, Bool.and_self, Bool.false_and, cond_true, cond_false, t3, go_sem]
          · cases g0 : decide (x.toNat = 0) <;> cases gk : decide (0 < i) <;>
            simp only [f_R01_ReadU_l0_eq, f_R01_ReadU_l0u, d10, wl, dl, w1, w2, hx, wx, q9, q1, q128, q0, qk, gk, g0, g1, g3, tm, z128, e1, e2, eP, hmm, getE_bytes, bcell, Bool.and_self, Bool.false_and, Bool.and_false, cond_true, cond_false, t3, go_sem]
    · have dl : decide ((b.length : Int) - at_ ≤ (i : Int)) = true := by simp; omega
      have hdr : b.drop (at_.toNat + i) = [] := List.drop_eq_nil_of_le (by omega)
      rw [hdr]
      simp only [f_R01_ReadU_l0_eq, f_R01_ReadU_l0u, d10, wl, dl, rdU, t3, go_sem]
end Go.Den
