/- Bytes: rules for bit operations and strings, and what they come to. -/
import Derived.Test.YtfjaimkpmehojaaGreatDenLp
namespace Go.Den
open Go
set_option linter.unusedSimpArgs false
set_option linter.unusedVariables false
set_option maxRecDepth 100000
set_option maxHeartbeats 1000000
def xorI (k : IntKind) (a b : Int) : Int := k.wrap (BitVec.ofInt k.bits a ^^^ BitVec.ofInt k.bits b).toNat
def shlI (k : IntKind) (a b : Int) : Int := k.wrap (a * 2 ^ (min b.toNat k.bits))
def shrI (k : IntKind) (a b : Int) : Int := a.fdiv (2 ^ (min b.toNat k.bits))
theorem bin_xor (kd : EK) (k : IntKind) (a b : Int) : bin .xor kd (.int k a) (.int k b) = some (.int k (xorI k a b)) := by simp [bin, xorI]
theorem bin_shl (kd : EK) (k q : IntKind) (a b : Int) (h : 0 ≤ b) : bin .shl kd (.int k a) (.int q b) = some (.int k (shlI k a b)) := by simp [bin, shlI, h]
theorem bin_shr (kd : EK) (k q : IntKind) (a b : Int) (h : 0 ≤ b) : bin .shr kd (.int k a) (.int q b) = some (.int k (shrI k a b)) := by simp [bin, shrI, h]
theorem bin_cat (kd : EK) (a b : ByteArray) (h : a.size + b.size ≤ 9223372036854775807) : bin .add kd (.str a) (.str b) = some (.str (a ++ b)) := by simp [bin, h]
theorem sstrV_both (σ : St) (s : ByteArray) (k q : IntKind) (l h : Int) (h0 : 0 ≤ l) (h1 : l ≤ h) (h2 : h ≤ s.size) : sstrV (.str s) (some (.int k l)) (some (.int q h)) σ = some (.str (s.extract l.toNat h.toNat), σ, false) := by
  have e1 : l.toNat ≤ h.toNat := by omega
  have e2 : h.toNat ≤ s.size := by omega
  have e3 : 0 ≤ h := by omega
  simp [sstrV, bnd, h0, e1, e2, e3]
theorem sliceV_both (σ : St) (sz : Nat) (es : List (List AV)) (k q : IntKind) (l h : Int) (h0 : 0 ≤ l) (h1 : l ≤ h) (h2 : h ≤ es.length) (h3 : szOK sz es) : sliceV sz (.sl es) (some (.int k l)) (some (.int q h)) none σ = some (.sl ((es.drop l.toNat).take (h.toNat - l.toNat)), σ, false) := by
  have e1 : l.toNat ≤ h.toNat := by omega
  have e2 : h.toNat ≤ es.length := by omega
  have e3 : 0 ≤ h := by omega
  simp [sliceV, bnd, h0, e1, e2, e3, h3]
theorem bcell_of {x : Nat} (h : x < 256) : bcell (UInt8.ofNat x) = [.int .u8 x] := by
  simp [bcell, Nat.mod_eq_of_lt h]
theorem szOK_b (l : List UInt8) : szOK 1 (l.map bcell) = True := by
  simp only [eq_iff_iff, iff_true]
  intro e he
  obtain ⟨c, _, rfl⟩ := List.mem_map.1 he
  rfl
theorem szOKb_b (l : List UInt8) : szOKb 1 (l.map bcell) = true := by rw [szOKb_iff, szOK_b]; trivial
theorem srcOf_str (σ : St) (s : ByteArray) : srcOf σ 1 (.str s) = some (s.data.toList.map bcell, false) := by
  simp only [srcOf]; rfl
theorem tobV_b (σ : St) (s : ByteArray) : tobV σ (.str s) = some (.sl (s.data.toList.map bcell), σ, false) := (rfl)
theorem strOf_one (l : List UInt8) (t : Bool) (σ : St) : tostrV σ (some (l.map bcell, t)) = some (.str ⟨l.toArray⟩, σ, t) := by
  rw [tostrV_some, strOf_bytes]; rfl
def srcO (ver n off len : Nat) : Option Ob → Option (List (List AV) × Bool)
  | some (.arr ver' _ es) => if ver' = ver ∧ es.length = n ∧ off + len ≤ n then some ((es.drop off).take len, true) else none
  | _ => none
theorem elems_osl (σ : St) (o ver n off len : Nat) : elems σ (.osl o ver n off len) = srcO ver n off len σ[o]? := by
  simp only [elems, srcO]
  cases σ[o]? with
  | none => rfl
  | some ob => cases ob <;> rfl
theorem srcOf_osl (σ : St) (sz o ver n off len : Nat) : srcOf σ sz (.osl o ver n off len) = srcO ver n off len σ[o]? := elems_osl σ o ver n off len
theorem srcO_full (ver n sz : Nat) (es : List (List AV)) (h : es.length = n) : srcO ver n 0 n (some (.arr ver sz es)) = some (es, true) := by
  subst h; simp [srcO]
attribute [go_sem] elems_osl srcOf_osl srcO_full
attribute [go_sem] bin_xor bin_shl bin_shr bin_cat sstrV_both sliceV_both szOK_b szOKb_b srcOf_str strOf_one
theorem getE_bytes (l : List UInt8) (i : Int) : getE (l.map bcell) i = (getE l i).map bcell := getE_map bcell l i
theorem ofInt_nat {n : Nat} (w : Nat) (h : n < 2 ^ w) : (BitVec.ofInt w (n : Int)).toNat = n := by
  simp [Nat.mod_eq_of_lt h]
theorem wrap_u64 {a : Int} (h0 : 0 ≤ a) (h : a < 18446744073709551616) : IntKind.wrap .u64 a = a := by
  simp [IntKind.wrap, IntKind.bits, IntKind.signed]; omega
theorem wrap_u8 {a : Int} (h0 : 0 ≤ a) (h : a < 256) : IntKind.wrap .u8 a = a := by
  simp [IntKind.wrap, IntKind.bits, IntKind.signed]; omega
theorem wrap_u8_nat (n : Nat) : IntKind.wrap .u8 (n : Int) = ((n % 256 : Nat) : Int) := by
  simp [IntKind.wrap, IntKind.bits, IntKind.signed]
theorem wrap_u64_neg {a : Int} (h0 : -18446744073709551616 ≤ a) (h : a < 0) : IntKind.wrap .u64 a = a + 18446744073709551616 := by
  simp [IntKind.wrap, IntKind.bits, IntKind.signed]; omega
theorem shr_nat (k : IntKind) (n b : Nat) (h : b ≤ k.bits) : shrI k (n : Int) (b : Int) = ((n / 2 ^ b : Nat) : Int) := by
  unfold shrI
  have e : (2 : Int) ^ (min (b : Int).toNat k.bits) = ((2 ^ b : Nat) : Int) := by
    rw [Int.toNat_natCast, Nat.min_eq_left h]; simp
  rw [e, Int.fdiv_eq_ediv_of_nonneg _ (Int.natCast_nonneg _)]
  rfl
theorem or128_all : ∀ m : Fin 256, orI .u8 (m.val : Int) 128 = ((128 + m.val % 128 : Nat) : Int) := by decide +kernel
theorem or128 (n : Nat) : orI .u8 (IntKind.wrap .u8 (n : Int)) 128 = ((128 + n % 128 : Nat) : Int) := by
  rw [wrap_u8_nat, or128_all ⟨n % 256, by omega⟩]
  simp only []
  rw [Nat.mod_mod_of_dvd n (by decide : 128 ∣ 256)]
theorem and127_all : ∀ m : Fin 256, andI .u8 (m.val : Int) 127 = ((m.val % 128 : Nat) : Int) := by decide +kernel
theorem and127 (c : UInt8) : andI .u8 (c.toNat : Int) 127 = ((c.toNat % 128 : Nat) : Int) := and127_all ⟨c.toNat, c.toNat_lt⟩
theorem orI_add {i a m : Nat} (ha : a < 2 ^ i) (h : 2 ^ i * m + a < 18446744073709551616) : orI .u64 (a : Int) ((2 ^ i * m : Nat) : Int) = ((2 ^ i * m + a : Nat) : Int) := by
  unfold orI
  have e1 : (BitVec.ofInt IntKind.u64.bits (a : Int)).toNat = a := ofInt_nat 64 (by have : a ≤ 2 ^ i * m + a := Nat.le_add_left _ _; omega)
  have e2 : (BitVec.ofInt IntKind.u64.bits ((2 ^ i * m : Nat) : Int)).toNat = 2 ^ i * m := ofInt_nat 64 (by have : 2 ^ i * m ≤ 2 ^ i * m + a := Nat.le_add_right _ _; omega)
  rw [BitVec.toNat_or, e1, e2, Nat.or_comm, ← Nat.two_pow_add_eq_or_of_lt ha, wrap_u64 (by omega) (by omega)]
theorem shl_nat {a : Nat} {b : Nat} (h : b ≤ 64) (h2 : 2 ^ b * a < 18446744073709551616) : shlI .u64 (a : Int) (b : Int) = ((2 ^ b * a : Nat) : Int) := by
  unfold shlI
  have e : (2 : Int) ^ (min (b : Int).toNat IntKind.u64.bits) = ((2 ^ b : Nat) : Int) := by
    rw [Int.toNat_natCast, Nat.min_eq_left (show b ≤ IntKind.u64.bits from h)]; simp
  have e2 : (a : Int) * ((2 ^ b : Nat) : Int) = ((2 ^ b * a : Nat) : Int) := by rw [Nat.mul_comm, Int.natCast_mul]
  rw [e, e2, wrap_u64 (by omega) (by omega)]
theorem ones64 (x : BitVec 64) : (x ^^^ BitVec.allOnes 64).toNat = 18446744073709551615 - x.toNat := by
  rw [BitVec.xor_allOnes, BitVec.toNat_not]
theorem xor_zero (a : Nat) (h : a < 18446744073709551616) : xorI .u64 (a : Int) 0 = a := by
  show IntKind.wrap .u64 ((BitVec.ofInt 64 (a : Int) ^^^ BitVec.ofInt 64 0).toNat : Int) = a
  have e2 : (BitVec.ofInt 64 (0 : Int)).toNat = 0 := by simp
  rw [BitVec.toNat_xor, ofInt_nat 64 h, e2, Nat.xor_zero, wrap_u64 (by omega) (by omega)]
theorem xor_ones (a : Nat) (h : a < 18446744073709551616) : xorI .u64 (a : Int) 18446744073709551615 = ((18446744073709551615 - a : Nat) : Int) := by
  show IntKind.wrap .u64 ((BitVec.ofInt 64 (a : Int) ^^^ BitVec.ofInt 64 18446744073709551615).toNat : Int) = _
  have e2 : BitVec.ofInt 64 (18446744073709551615 : Int) = BitVec.allOnes 64 := by decide
  rw [e2, ones64, ofInt_nat 64 h, wrap_u64 (by omega) (by omega)]
theorem xor_i0 (a : Nat) (h : a < 9223372036854775808) : xorI .i64 (a : Int) 0 = a := by
  show IntKind.wrap .i64 ((BitVec.ofInt 64 (a : Int) ^^^ BitVec.ofInt 64 0).toNat : Int) = a
  have e2 : (BitVec.ofInt 64 (0 : Int)).toNat = 0 := by simp
  rw [BitVec.toNat_xor, ofInt_nat 64 (by omega), e2, Nat.xor_zero, wrap_i64 (by omega) (by omega)]
theorem xor_i1 (a : Nat) (h : a < 9223372036854775808) : xorI .i64 (a : Int) (-1) = -(a : Int) - 1 := by
  show IntKind.wrap .i64 ((BitVec.ofInt 64 (a : Int) ^^^ BitVec.ofInt 64 (-1)).toNat : Int) = _
  have e2 : BitVec.ofInt 64 (-1 : Int) = BitVec.allOnes 64 := by decide
  rw [e2, ones64, ofInt_nat 64 (by omega)]
  have e3 : ((18446744073709551615 - a : Nat) : Int) = 18446744073709551615 - a := by omega
  rw [e3]
  simp [IntKind.wrap, IntKind.bits, IntKind.signed]
  omega
theorem and1_u64 (n : Nat) (h : n < 18446744073709551616) : andI .u64 (n : Int) 1 = ((n % 2 : Nat) : Int) := by
  unfold andI
  have e1 : (BitVec.ofInt IntKind.u64.bits (n : Int)).toNat = n := ofInt_nat 64 (by omega)
  have e2 : (BitVec.ofInt IntKind.u64.bits (1 : Int)).toNat = 1 := by decide
  rw [BitVec.toNat_and, e1, e2, Nat.and_one_is_mod, wrap_u64 (by omega) (by omega)]
def leb (n : Nat) : List UInt8 := if n < 128 then [UInt8.ofNat n] else UInt8.ofNat (128 + n % 128) :: leb (n / 128)
termination_by n
decreasing_by omega
theorem leb_small {n : Nat} (h : n < 128) : leb n = [UInt8.ofNat n] := by rw [leb, if_pos h]
theorem leb_big {n : Nat} (h : ¬ n < 128) : leb n = UInt8.ofNat (128 + n % 128) :: leb (n / 128) := by rw [leb, if_neg h]
theorem leb_len : ∀ (k n : Nat), n < 128 ^ k → 0 < k → (leb n).length ≤ k
  | 0, _, _, h => absurd h (by simp)
  | k + 1, n, h, _ => by
    by_cases hn : n < 128
    · rw [leb_small hn]; simp
    · rw [leb_big hn, List.length_cons]
      have h1 : n / 128 < 128 ^ k := by rw [Nat.pow_succ] at h; omega
      have h2 : 0 < k := by
        cases k with
        | zero => simp at h; omega
        | succ k => omega
      have := leb_len k (n / 128) h1 h2
      omega
theorem leb_len10 {n : Nat} (h : n < 18446744073709551616) : (leb n).length ≤ 10 := by
  have hp : (128 : Nat) ^ 10 = 1180591620717411303424 := by decide
  exact leb_len 10 n (by omega) (by decide)
def rdU (i acc : Nat) (p : Int) : List UInt8 → Nat × Int × Int
  | [] => (0, 0, 6)
  | c :: r => bif decide (i = 9) && decide (1 < c.toNat) then (0, 0, 5) else
    bif decide (128 ≤ c.toNat) then rdU (i + 1) (acc + 128 ^ i * (c.toNat % 128)) (p + 1) r else
    bif decide (c.toNat = 0) && decide (0 < i) then (0, 0, 5) else (acc + 128 ^ i * (c.toNat % 128), p + 1, 0)
def rU (b : List UInt8) (at_ : Int) : Nat × Int × Int := bif decide (at_ < 0) || decide ((b.length : Int) < at_) then (0, 0, 1) else rdU 0 0 at_ (b.drop at_.toNat)
theorem pow128 {i : Nat} (h : i ≤ 9) : 128 ^ i ≤ 9223372036854775808 := by
  have : (128 : Nat) ^ 9 = 9223372036854775808 := by decide
  rw [← this]
  exact Nat.pow_le_pow_right (by decide) h
theorem rdU_end : ∀ (L : List UInt8) (i acc : Nat) (p : Int), i ≤ 9 → acc < 128 ^ i →
    ((rdU i acc p L).2.2 = 0 → (rdU i acc p L).1 < 18446744073709551616 ∧ p + 1 ≤ (rdU i acc p L).2.1 ∧ (rdU i acc p L).2.1 ≤ p + L.length) ∧ ((rdU i acc p L).2.2 ≠ 0 → rdU i acc p L = (0, 0, (rdU i acc p L).2.2))
  | [], i, acc, p, _, _ => by simp [rdU]
  | c :: r, i, acc, p, hi, ha => by
    have hc := c.toNat_lt
    have hp := pow128 hi
    rw [rdU]
    cases d1 : (decide (i = 9) && decide (1 < c.toNat)) with
    | true => simp
    | false =>
      simp only [cond_false]
      cases d2 : decide (128 ≤ c.toNat) with
      | true =>
        have h9 : i ≠ 9 := by
          intro e
          rw [e] at d1
          simp at d1 d2
          omega
        have hm : 128 ^ i * (c.toNat % 128) ≤ 128 ^ i * 127 := Nat.mul_le_mul_left _ (by omega)
        obtain ⟨q1, q2⟩ := rdU_end r (i + 1) (acc + 128 ^ i * (c.toNat % 128)) (p + 1) (by omega) (by rw [Nat.pow_succ]; omega)
        refine ⟨fun h => ?_, fun h => ?_⟩
        · have := q1 h
          simp only [cond_true, List.length_cons] at this ⊢
          omega
        · exact q2 h
      | false =>
        simp only [cond_false]
        cases d3 : (decide (c.toNat = 0) && decide (0 < i)) with
        | true => simp
        | false =>
          simp only [cond_false, List.length_cons]
          refine ⟨fun _ => ⟨?_, by omega, by omega⟩, fun h => absurd rfl h⟩
          by_cases h9 : i = 9
          · have h1 : c.toNat ≤ 1 := by
              rw [h9] at d1
              simp at d1
              omega
            have : 128 ^ i * (c.toNat % 128) ≤ 128 ^ i * 1 := Nat.mul_le_mul_left _ (by omega)
            omega
          · have hm : 128 ^ i * (c.toNat % 128) ≤ 128 ^ i * 127 := Nat.mul_le_mul_left _ (by omega)
            have := pow128 (show i + 1 ≤ 9 by omega)
            rw [Nat.pow_succ] at this
            omega
theorem rU_end (b : List UInt8) (at_ : Int) : ((rU b at_).2.2 = 0 → (rU b at_).1 < 18446744073709551616 ∧ 0 ≤ at_ ∧ at_ + 1 ≤ (rU b at_).2.1 ∧ (rU b at_).2.1 ≤ b.length) ∧ ((rU b at_).2.2 ≠ 0 → rU b at_ = (0, 0, (rU b at_).2.2)) := by
  unfold rU
  cases d : (decide (at_ < 0) || decide ((b.length : Int) < at_)) with
  | true => simp
  | false =>
    simp only [cond_false]
    simp only [Bool.or_eq_false_iff, decide_eq_false_iff_not] at d
    obtain ⟨h1, h2⟩ := rdU_end (b.drop at_.toNat) 0 0 at_ (by decide) (by decide)
    refine ⟨fun h => ?_, h2⟩
    have := h1 h
    simp only [List.length_drop] at this
    omega
theorem rdU_leb : ∀ (k n i acc : Nat) (p : Int) (rest : List UInt8), i + k = 10 → n < 128 ^ k → acc + 128 ^ i * n < 18446744073709551616 → (0 < i → 0 < n) → rdU i acc p (leb n ++ rest) = (acc + 128 ^ i * n, p + (leb n).length, 0)
  | 0, n, i, acc, p, rest, hi, hn, hb, h0 => by
    have : n = 0 := by simp at hn; omega
    have := h0 (by omega)
    omega
  | k + 1, n, i, acc, p, rest, hi, hn, hb, h0 => by
    have h9 : i = 9 → n ≤ 1 := by
      intro e
      subst e
      have hp : (128 : Nat) ^ 9 = 9223372036854775808 := by decide
      rw [hp] at hb
      omega
    by_cases hs : n < 128
    · rw [leb_small hs, List.singleton_append, rdU]
      have e : (UInt8.ofNat n).toNat = n := by simp; omega
      have d1 : (decide (i = 9) && decide (1 < n)) = false := by
        rw [Bool.and_eq_false_iff, decide_eq_false_iff_not, decide_eq_false_iff_not]
        by_cases h : i = 9
        · exact .inr (by have := h9 h; omega)
        · exact .inl h
      have d2 : decide (128 ≤ n) = false := by simp; omega
      have d3 : (decide (n = 0) && decide (0 < i)) = false := by
        rw [Bool.and_eq_false_iff, decide_eq_false_iff_not, decide_eq_false_iff_not]
        by_cases h : 0 < i
        · exact .inl (by have := h0 h; omega)
        · exact .inr h
      rw [e, d1, d2, d3, Nat.mod_eq_of_lt hs]
      rfl
    · have hi9 : i ≠ 9 := fun e => by have := h9 e; omega
      rw [leb_big hs, List.cons_append, rdU]
      have e : (UInt8.ofNat (128 + n % 128)).toNat = 128 + n % 128 := by simp; omega
      have d1 : (decide (i = 9) && decide (1 < 128 + n % 128)) = false := by rw [decide_eq_false hi9]; rfl
      have d2 : decide (128 ≤ 128 + n % 128) = true := by simp
      have e2 : (128 + n % 128) % 128 = n % 128 := by omega
      have hn' : n / 128 < 128 ^ k := by rw [Nat.pow_succ] at hn; omega
      have e3 : acc + 128 ^ i * (n % 128) + 128 ^ (i + 1) * (n / 128) = acc + 128 ^ i * n := by
        rw [Nat.pow_succ, Nat.add_assoc, Nat.mul_assoc, ← Nat.mul_add]
        congr 2
        omega
      rw [e, d1, d2, e2, cond_false, cond_true, rdU_leb k (n / 128) (i + 1) _ (p + 1) rest (by omega) hn' (by omega) (by omega), e3, List.length_cons]
      refine Prod.ext rfl (Prod.ext ?_ rfl)
      simp only []
      omega
theorem rdU_can : ∀ (L : List UInt8) (i acc : Nat) (p : Int), (rdU i acc p L).2.2 = 0 → ∃ n rest, L = leb n ++ rest ∧ (rdU i acc p L).1 = acc + 128 ^ i * n ∧ (rdU i acc p L).2.1 = p + (leb n).length ∧ (0 < i → 0 < n)
  | [], i, acc, p, h => by simp [rdU] at h
  | c :: r, i, acc, p, h => by
    have hc := c.toNat_lt
    rw [rdU] at h ⊢
    cases d1 : (decide (i = 9) && decide (1 < c.toNat)) with
    | true => rw [d1] at h; simp at h
    | false =>
      rw [d1] at h
      simp only [cond_false] at h ⊢
      cases d2 : decide (128 ≤ c.toNat) with
      | true =>
        rw [d2] at h
        simp only [cond_true] at h ⊢
        have h128 : 128 ≤ c.toNat := by simpa using d2
        obtain ⟨n, rest, e1, e2, e3, e4⟩ := rdU_can r (i + 1) _ (p + 1) h
        have hn := e4 (by omega)
        have hm : (c.toNat % 128 + 128 * n) % 128 = c.toNat % 128 := by omega
        have hd : (c.toNat % 128 + 128 * n) / 128 = n := by omega
        refine ⟨c.toNat % 128 + 128 * n, rest, ?_, ?_, ?_, fun _ => by omega⟩
        · rw [leb_big (n := c.toNat % 128 + 128 * n) (by omega), hm, hd, e1, List.cons_append]
          congr 1
          apply UInt8.toNat_inj.1
          simp; omega
        · rw [e2, Nat.pow_succ, Nat.add_assoc, Nat.mul_assoc, ← Nat.mul_add]
        · rw [e3, leb_big (n := c.toNat % 128 + 128 * n) (by omega), hd, List.length_cons]; omega
      | false =>
        rw [d2] at h
        simp only [cond_false] at h ⊢
        have h128 : c.toNat < 128 := by simpa using d2
        cases d3 : (decide (c.toNat = 0) && decide (0 < i)) with
        | true => rw [d3] at h; simp at h
        | false =>
          simp only [cond_false] at h ⊢
          refine ⟨c.toNat, r, ?_, ?_, ?_, fun hi => ?_⟩
          · rw [leb_small h128]; simp
          · rw [Nat.mod_eq_of_lt h128]
          · rw [leb_small h128]; simp
          · rw [decide_eq_true hi, Bool.and_true, decide_eq_false_iff_not] at d3
            omega
theorem rU_leb (pre rest : List UInt8) (n : Nat) (hn : n < 18446744073709551616) : rU (pre ++ (leb n ++ rest)) pre.length = (n, (pre.length : Int) + (leb n).length, 0) := by
  have hp : (128 : Nat) ^ 10 = 1180591620717411303424 := by decide
  have h := rdU_leb 10 n 0 0 pre.length rest rfl (by omega) (by omega) (by omega)
  unfold rU
  have d : (decide ((pre.length : Int) < 0) || decide (((pre ++ (leb n ++ rest)).length : Int) < pre.length)) = false := by simp; omega
  rw [d, cond_false, Int.toNat_natCast, List.drop_left, h]
  simp
theorem rU_can (b : List UInt8) (at_ : Int) (h : (rU b at_).2.2 = 0) : ∃ rest, b.drop at_.toNat = leb (rU b at_).1 ++ rest ∧ (rU b at_).2.1 = at_ + (leb (rU b at_).1).length := by
  unfold rU at h ⊢
  cases d : (decide (at_ < 0) || decide ((b.length : Int) < at_)) with
  | true => rw [d] at h; simp at h
  | false =>
    rw [d] at h
    simp only [cond_false] at h ⊢
    obtain ⟨n, rest, e1, e2, e3, _⟩ := rdU_can _ _ _ _ h
    have : (rdU 0 0 at_ (b.drop at_.toNat)).1 = n := by rw [e2]; simp
    rw [this]
    exact ⟨rest, e1, e3⟩
def zz (n : Int) : Nat := if 0 ≤ n then (2 * n).toNat else (-(2 * n) - 1).toNat
def unzz (u : Nat) : Int := if u % 2 = 1 then -((u / 2 : Nat) : Int) - 1 else ((u / 2 : Nat) : Int)
theorem unzz_zz (n : Int) : unzz (zz n) = n := by
  unfold zz unzz
  split <;> split <;> omega
theorem zz_unzz (u : Nat) : zz (unzz u) = u := by
  unfold zz unzz
  split <;> split <;> omega
theorem zz_lt {n : Int} (h0 : -9223372036854775808 ≤ n) (h1 : n ≤ 9223372036854775807) : zz n < 18446744073709551616 := by
  unfold zz; split <;> omega
end Go.Den
