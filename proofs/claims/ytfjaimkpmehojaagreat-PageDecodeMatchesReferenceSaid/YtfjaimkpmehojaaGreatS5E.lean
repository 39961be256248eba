/- Reading texts; values as bytes. -/
import Derived.Test.YtfjaimkpmehojaaGreatS5W
namespace Go.Den
open Go
set_option linter.unusedSimpArgs false
set_option linter.unusedVariables false
set_option maxRecDepth 100000
set_option maxHeartbeats 1000000
theorem unzz_lt {n : Nat} (h : n < 18446744073709551616) : -9223372036854775808 ≤ unzz n ∧ unzz n ≤ 9223372036854775807 := by
  unfold unzz; split <;> omega
def rS (b : List UInt8) (at_ : Int) : Int × Int × Int := (unzz (rU b at_).1, (rU b at_).2.1, (rU b at_).2.2)
theorem rU_lt (b : List UInt8) (at_ : Int) : (rU b at_).1 < 18446744073709551616 := by
  obtain ⟨h1, h2⟩ := rU_end b at_
  by_cases h : (rU b at_).2.2 = 0
  · exact (h1 h).1
  · rw [h2 h]; show (0 : Nat) < _; decide
theorem wire_ReadS (b : List UInt8) (at_ : Int) (hb : b.length < 100000000000) : Den prog 419 [.sl (b.map bcell), .int .i64 at_] [] = some (.tup [.int .i64 (rS b at_).1, .int .i64 (rS b at_).2.1, .int .i64 (rS b at_).2.2], []) := by
  rw [Den_ofK [] pr_wire_ReadS rfl]
  have h := wire_ReadU b at_ hb
  have hn := rU_lt b at_
  unfold rS
  unfold t3 at h
  generalize rU b at_ = r at *
  obtain ⟨n, nx, e⟩ := r
  simp only [] at h hn ⊢
  have e1 : shrI .u64 (n : Int) 1 = ((n / 2 : Nat) : Int) := shr_nat .u64 n 1 (by decide)
  have e2 := and1_u64 n hn
  have e3 : IntKind.wrap .i64 ((n / 2 : Nat) : Int) = ((n / 2 : Nat) : Int) := wrap_i64 (by omega) (by omega)
  have e4 : IntKind.wrap .i64 ((n % 2 : Nat) : Int) = ((n % 2 : Nat) : Int) := wrap_i64 (by omega) (by omega)
  have e5 : IntKind.wrap .i64 (0 - ((n % 2 : Nat) : Int)) = 0 - ((n % 2 : Nat) : Int) := wrap_i64 (by omega) (by omega)
  have e6 : xorI .i64 ((n / 2 : Nat) : Int) (0 - ((n % 2 : Nat) : Int)) = unzz n := by
    unfold unzz
    by_cases h2 : n % 2 = 1
    · rw [h2, if_pos rfl]
      exact xor_i1 (n / 2) (by omega)
    · rw [if_neg h2, show n % 2 = 0 by omega]
      exact xor_i0 (n / 2) (by omega)
  simp only [f_wire_ReadS, h, e1, e2, e3, e4, e5, e6, go_sem]
theorem R01_ReadS (b : List UInt8) (at_ : Int) (hb : b.length < 100000000000) : Den prog 466 [.sl (b.map bcell), .int .i64 at_] [] = some (.tup [.int .i64 (rS b at_).1, .int .i64 (rS b at_).2.1, .int .i64 (rS b at_).2.2], []) := by
  rw [Den_ofK [] pr_R01_ReadS rfl]
  have h := R01_ReadU b at_ hb
  have hn := rU_lt b at_
  unfold rS
  unfold t3 at h
  generalize rU b at_ = r at *
  obtain ⟨n, nx, e⟩ := r
  simp only [] at h hn ⊢
  have z : (2 : Int) ≠ 0 := by decide
  have tm : (n : Int).tmod 2 = ((n % 2 : Nat) : Int) := rfl
  have td : (n : Int).tdiv 2 = ((n / 2 : Nat) : Int) := rfl
  have e1 : IntKind.wrap .u64 ((n / 2 : Nat) : Int) = ((n / 2 : Nat) : Int) := wrap_u64 (by omega) (by omega)
  have e3 : IntKind.wrap .i64 ((n / 2 : Nat) : Int) = ((n / 2 : Nat) : Int) := wrap_i64 (by omega) (by omega)
  have e4 : IntKind.wrap .i64 (0 - ((n / 2 : Nat) : Int)) = 0 - ((n / 2 : Nat) : Int) := wrap_i64 (by omega) (by omega)
  have e5 : IntKind.wrap .i64 (0 - ((n / 2 : Nat) : Int) - 1) = unzz n ∨ n % 2 ≠ 1 := by
    by_cases h2 : n % 2 = 1
    · refine .inl ?_
      rw [wrap_i64 (by omega) (by omega)]
      unfold unzz; rw [if_pos h2]; omega
    · exact .inr h2
  cases d : decide (((n % 2 : Nat) : Int) = 1) with
  | true =>
    have e5 : IntKind.wrap .i64 (0 - ((n / 2 : Nat) : Int) - 1) = unzz n := by
      rcases e5 with h | h
      · exact h
      · simp at d; omega
    simp only [f_R01_ReadS, h, z, tm, td, d, e1, e3, e4, e5, go_sem]
  | false =>
    have e6 : unzz n = ((n / 2 : Nat) : Int) := by
      unfold unzz; rw [if_neg (by simp at d; omega)]
    rw [e6]
    simp only [f_R01_ReadS, h, z, tm, td, d, e1, e3, go_sem]
def spanS (b : List UInt8) (at_ : Int) : Int × Int × Int := bif !decide ((rU b at_).2.2 = 0) then (0, 0, (rU b at_).2.2) else
  bif decide (1048576 < (rU b at_).1) then (0, 0, 2) else
  bif decide ((b.length : Int) - (rU b at_).2.1 < (rU b at_).1) then (0, 0, 6) else ((rU b at_).2.1, (rU b at_).2.1 + (rU b at_).1, 0)
theorem spanS_in (b : List UInt8) (at_ : Int) : 0 ≤ (spanS b at_).1 ∧ (spanS b at_).1 ≤ (spanS b at_).2.1 ∧ (spanS b at_).2.1 ≤ b.length := by
  obtain ⟨h1, h2⟩ := rU_end b at_
  unfold spanS
  cases d0 : decide ((rU b at_).2.2 = 0) with
  | false => simp
  | true =>
    have := h1 (by simpa using d0)
    cases d1 : decide (1048576 < (rU b at_).1) with
    | true => simp
    | false =>
      cases d2 : decide ((b.length : Int) - (rU b at_).2.1 < (rU b at_).1) with
      | true => simp
      | false =>
        simp only [Bool.not_true, cond_false]
        simp at d2
        omega
def rT (b : List UInt8) (at_ : Int) : List UInt8 × Int × Int := ((b.drop (spanS b at_).1.toNat).take ((spanS b at_).2.1.toNat - (spanS b at_).1.toNat), (spanS b at_).2.1, (spanS b at_).2.2)
theorem wire_span (b : List UInt8) (at_ : Int) (hb : b.length < 100000000000) : Den prog 417 [.sl (b.map bcell), .int .i64 at_] [] = some (.tup [.int .i64 (spanS b at_).1, .int .i64 (spanS b at_).2.1, .int .i64 (spanS b at_).2.2], []) := by
  rw [Den_ofK [] pr_wire_span rfl]
  have h := wire_ReadU b at_ hb
  have hn := rU_lt b at_
  obtain ⟨he, _⟩ := rU_end b at_
  unfold spanS
  unfold t3 at h
  generalize rU b at_ = r at *
  obtain ⟨n, nx, e⟩ := r
  simp only [] at h hn he ⊢
  cases d0 : decide (e = 0) with
  | false => simp only [f_wire_span, h, d0, cond_true, go_sem]
  | true =>
  have hb2 := he (by simpa using d0)
  have q1 : decide ((1048576 : Int) < (n : Int)) = decide (1048576 < n) := by rw [Bool.eq_iff_iff]; simp; omega
  cases d1 : decide (1048576 < n) with
  | true => simp only [f_wire_span, h, d0, q1, d1, cond_true, cond_false, go_sem]
  | false =>
  have hn2 : n ≤ 1048576 := by simp at d1; omega
  have w1 : IntKind.wrap .i64 (n : Int) = n := wrap_i64 (by omega) (by omega)
  have w2 : IntKind.wrap .i64 ((b.length : Int) - nx) = b.length - nx := wrap_i64 (by omega) (by omega)
  have w3 : IntKind.wrap .i64 (nx + (n : Int)) = nx + n := wrap_i64 (by omega) (by omega)
  cases d2 : decide ((b.length : Int) - nx < n) <;>
  simp only [f_wire_span, h, d0, q1, d1, w1, w2, w3, d2, cond_true, cond_false, go_sem]
theorem wire_ReadText (b : List UInt8) (at_ : Int) (hb : b.length < 100000000000) : Den prog 418 [.sl (b.map bcell), .int .i64 at_] [] = some (.tup [.str ⟨(rT b at_).1.toArray⟩, .int .i64 (rT b at_).2.1, .int .i64 (rT b at_).2.2], []) := by
  rw [Den_ofK [] pr_wire_ReadText rfl]
  have h := wire_span b at_ hb
  obtain ⟨h0, h1, h2⟩ := spanS_in b at_
  unfold rT
  generalize spanS b at_ = r at *
  obtain ⟨l, u, e⟩ := r
  simp only [] at h h0 h1 h2 ⊢
  have hm : ((b.map bcell).drop l.toNat).take (u.toNat - l.toNat) = ((b.drop l.toNat).take (u.toNat - l.toNat)).map bcell := by simp
  simp only [f_wire_ReadText, h, h0, h1, h2, hm, strOf_bytes, go_sem]
theorem R01_ReadBytes (b : List UInt8) (at_ : Int) (hb : b.length < 100000000000) : Den prog 464 [.sl (b.map bcell), .int .i64 at_] [] = some (.tup [.sl ((rT b at_).1.map bcell), .int .i64 (rT b at_).2.1, .int .i64 (rT b at_).2.2], []) := by
  rw [Den_ofK [] pr_R01_ReadBytes rfl]
  have h := R01_ReadU b at_ hb
  have hn := rU_lt b at_
  obtain ⟨he, _⟩ := rU_end b at_
  unfold rT spanS
  unfold t3 at h
  generalize rU b at_ = r at *
  obtain ⟨n, nx, e⟩ := r
  simp only [] at h hn he ⊢
  have t0 : (0 : Int).toNat = 0 := rfl
  cases d0 : decide (e = 0) with
  | false => simp only [f_R01_ReadBytes, h, d0, t0, Nat.sub_self, cond_true, go_sem]
  | true =>
  have hb2 := he (by simpa using d0)
  have q1 : decide ((1048576 : Int) < (n : Int)) = decide (1048576 < n) := by rw [Bool.eq_iff_iff]; simp; omega
  cases d1 : decide (1048576 < n) with
  | true => simp only [f_R01_ReadBytes, h, d0, q1, d1, t0, Nat.sub_self, cond_true, cond_false, go_sem]
  | false =>
  have hn2 : n ≤ 1048576 := by simp at d1; omega
  have w1 : IntKind.wrap .i64 (n : Int) = n := wrap_i64 (by omega) (by omega)
  have w2 : IntKind.wrap .i64 ((b.length : Int) - nx) = b.length - nx := wrap_i64 (by omega) (by omega)
  have w3 : IntKind.wrap .i64 (nx + (n : Int)) = nx + n := wrap_i64 (by omega) (by omega)
  cases d2 : decide ((b.length : Int) - nx < n) with
  | true => simp only [f_R01_ReadBytes, h, d0, q1, d1, w1, w2, d2, t0, Nat.sub_self, cond_true, cond_false, go_sem]
  | false =>
    have h0 : 0 ≤ nx := by omega
    have h1 : nx ≤ nx + (n : Int) := by omega
    have h2 : nx + (n : Int) ≤ b.length := by simp at d2; omega
    have hm : ((b.map bcell).drop nx.toNat).take ((nx + (n : Int)).toNat - nx.toNat) = ((b.drop nx.toNat).take ((nx + (n : Int)).toNat - nx.toNat)).map bcell := by simp
    have hl : ((b.drop nx.toNat).take ((nx + (n : Int)).toNat - nx.toNat)).length * 1 ≤ 140737488355328 := by simp; omega
    simp only [cond_false, Bool.not_true]
    generalize hG : (b.drop nx.toNat).take ((nx + (n : Int)).toNat - nx.toNat) = G at *
    simp only [f_R01_ReadBytes, h, d0, q1, d1, w1, w2, w3, d2, h0, h1, h2, hm, hl, cond_true, cond_false, go_sem]
theorem R01_ReadText (b : List UInt8) (at_ : Int) (hb : b.length < 100000000000) : Den prog 465 [.sl (b.map bcell), .int .i64 at_] [] = some (.tup [.str ⟨(rT b at_).1.toArray⟩, .int .i64 (rT b at_).2.1, .int .i64 (rT b at_).2.2], []) := by
  rw [Den_ofK [] pr_R01_ReadText rfl]
  have h := R01_ReadBytes b at_ hb
  simp only [f_R01_ReadText, h, strOf_bytes, go_sem]
def noV : Val := ⟨false, 0, ⟨#[]⟩⟩
def readV (b : List UInt8) (at_ t : Int) : Val × Int × Int :=
  bif decide (at_ < 0) || decide ((b.length : Int) < at_) then (noV, 0, 1) else
  bif !typeOk t then (noV, 0, 7) else
  bif decide (at_ = b.length) then (noV, 0, 6) else
  match getE b at_ with
  | none => (noV, 0, 0)
  | some c => bif decide (c.toNat = 0) then (nullV, at_ + 1, 0) else
    bif decide (c.toNat = 1) then (bif decide (t = 4) then (⟨false, 0, ⟨(rT b (at_ + 1)).1.toArray⟩⟩, (rT b (at_ + 1)).2) else (⟨false, (rS b (at_ + 1)).1, ⟨#[]⟩⟩, (rS b (at_ + 1)).2)) else (noV, 0, 5)
def V3 (r : Val × Int × Int) : AV := .tup [.agg r.1.cells, .int .i64 r.2.1, .int .i64 r.2.2]
theorem value_read (b : List UInt8) (at_ t : Int) (hb : b.length < 10000000000) : Den prog 420 [.sl (b.map bcell), .int .i64 at_, .int .i64 t] [] = some (V3 (readV b at_ t), []) := by
  rw [Den_ofK [] pr_value_read rfl]
  unfold readV
  cases d0 : decide (at_ < 0) with
  | true => simp only [f_value_read, d0, Bool.true_or, cond_true, V3, noV, Val.cells, go_sem]
  | false =>
  cases d1 : decide ((b.length : Int) < at_) with
  | true => simp only [f_value_read, d0, d1, Bool.or_true, cond_true, V3, noV, Val.cells, go_sem]
  | false =>
  cases d2 : typeOk t with
  | false => simp only [f_value_read, d0, d1, d2, Bool.or_self, cond_true, cond_false, V3, noV, Val.cells, go_sem]
  | true =>
  cases d3 : decide (at_ = (b.length : Int)) with
  | true => simp only [f_value_read, d0, d1, d2, d3, Bool.or_self, cond_true, cond_false, V3, noV, Val.cells, go_sem]
  | false =>
  have h0 : 0 ≤ at_ := by simp at d0; omega
  have h1 : at_ < (b.length : Int) := by simp at d1 d3; omega
  obtain ⟨c, hc⟩ : ∃ c, getE b at_ = some c := by
    unfold getE; rw [if_pos h0]
    exact ⟨_, List.getElem?_eq_getElem (by omega)⟩
  have w1 : IntKind.wrap .i64 (at_ + 1) = at_ + 1 := wrap_i64 (by omega) (by omega)
  have q0 : decide ((c.toNat : Int) = 0) = decide (c.toNat = 0) := by rw [Bool.eq_iff_iff]; simp
  have q1 : decide ((c.toNat : Int) = 1) = decide (c.toNat = 1) := by rw [Bool.eq_iff_iff]; simp; omega
  rw [hc]
  simp only []
  cases d4 : decide (c.toNat = 0) with
  | true => simp only [f_value_read, d0, d1, d2, d3, hc, getE_bytes, bcell, q0, d4, w1, Bool.or_self, cond_true, cond_false, V3, nullV, Val.cells, go_sem]
  | false =>
  cases d5 : decide (c.toNat = 1) with
  | false => simp only [f_value_read, d0, d1, d2, d3, hc, getE_bytes, bcell, q0, q1, d4, d5, Bool.or_self, cond_true, cond_false, V3, noV, Val.cells, go_sem]
  | true =>
  cases d6 : decide (t = 4) with
  | true =>
    have h := wire_ReadText b (at_ + 1) (by omega)
    simp only [f_value_read, d0, d1, d2, d3, hc, getE_bytes, bcell, q0, q1, d4, d5, d6, w1, h, Bool.or_self, cond_true, cond_false, V3, Val.cells, go_sem]
  | false =>
    have h := wire_ReadS b (at_ + 1) (by omega)
    simp only [f_value_read, d0, d1, d2, d3, hc, getE_bytes, bcell, q0, q1, d4, d5, d6, w1, h, Bool.or_self, cond_true, cond_false, V3, Val.cells, go_sem]
theorem readV_n (b : List UInt8) (at_ t : Int) : -9223372036854775808 ≤ (readV b at_ t).1.n ∧ (readV b at_ t).1.n ≤ 9223372036854775807 := by
  have hz := unzz_lt (rU_lt b (at_ + 1))
  unfold readV
  cases decide (at_ < 0) || decide ((b.length : Int) < at_) <;> simp only [cond_true, cond_false]
  · cases typeOk t <;> simp only [Bool.not_true, Bool.not_false, cond_true, cond_false]
    · exact ⟨by decide, by decide⟩
    · cases decide (at_ = b.length) <;> simp only [cond_true, cond_false]
      · cases getE b at_ with
        | none => simp only []; exact ⟨by decide, by decide⟩
        | some c =>
          simp only []
          cases decide (c.toNat = 0) <;> simp only [cond_true, cond_false]
          · cases decide (c.toNat = 1) <;> simp only [cond_true, cond_false]
            · exact ⟨by decide, by decide⟩
            · cases decide (t = 4) <;> simp only [cond_true, cond_false]
              · exact hz
              · exact ⟨by decide, by decide⟩
          · exact ⟨by decide, by decide⟩
      · exact ⟨by decide, by decide⟩
  · exact ⟨by decide, by decide⟩
def doneV (t : Int) (r : Val × Int × Int) : Val × Int × Int :=
  bif !decide (r.2.2 = 0) then (noV, 0, r.2.2) else bif typeOk t && okV r.1 t then r else (noV, 0, 7)
def decV (b : List UInt8) (at_ t : Int) : Val × Int × Int := doneV t (readV b at_ t)
theorem value_Decode (b : List UInt8) (at_ t : Int) (hb : b.length < 10000000000) : Den prog 436 [.sl (b.map bcell), .int .i64 at_, .int .i64 t] [] = some (V3 (decV b at_ t), []) := by
  rw [Den_ofK [] pr_value_Decode rfl]
  have h := value_read b at_ t hb
  have hn := readV_n b at_ t
  unfold decV doneV
  generalize readV b at_ t = r at *
  obtain ⟨⟨nu, n, s⟩, nx, e⟩ := r
  simp only [V3, Val.cells] at h hn ⊢
  have hv := value_Valid nu n s t hn
  cases d0 : decide (e = 0) with
  | false =>
    have d7 : decide ((7 : Int) = 0) = false := rfl
    simp only [f_value_Decode, h, d0, cond_true, noV, go_sem]
  | true =>
    have e0 : e = 0 := by simpa using d0
    subst e0
    have d7 : decide ((7 : Int) = 0) = false := rfl
    cases d1 : (typeOk t && okV ⟨nu, n, s⟩ t) with
    | true =>
      rw [d1] at hv
      simp only [f_value_Decode, h, hv, d0, cond_true, cond_false, noV, go_sem]
    | false =>
      rw [d1] at hv
      simp only [f_value_Decode, h, hv, d0, d7, cond_true, cond_false, noV, go_sem]
theorem okV_null (t : Int) : okV nullV t = true := rfl
theorem R05_Decode (b : List UInt8) (at_ t : Int) (hb : b.length < 10000000000) : Den prog 472 [.sl (b.map bcell), .int .i64 at_, .int .i64 t] [] = some (V3 (decV b at_ t), []) := by
  rw [Den_ofK [] pr_R05_Decode rfl]
  have d7 : decide ((7 : Int) = 0) = false := rfl
  have d6 : decide ((6 : Int) = 0) = false := rfl
  have d5 : decide ((5 : Int) = 0) = false := rfl
  have d01 : decide ((1 : Int) = 0) = false := rfl
  have d00 : decide ((0 : Int) = 0) = true := rfl
  rw [show decV b at_ t = doneV t (readV b at_ t) from rfl]
  unfold readV
  cases d0 : decide (at_ < 0) with
  | true => simp only [f_R05_Decode, d0, d01, Bool.true_or, Bool.not_false, cond_true, V3, doneV, noV, Val.cells, go_sem]
  | false =>
  cases d1 : decide ((b.length : Int) < at_) with
  | true => simp only [f_R05_Decode, d0, d1, d01, Bool.or_true, Bool.not_false, cond_true, V3, doneV, noV, Val.cells, go_sem]
  | false =>
  cases d2 : typeOk t with
  | false => simp only [f_R05_Decode, d0, d1, d2, d7, Bool.or_self, Bool.not_false, cond_true, cond_false, V3, doneV, noV, Val.cells, go_sem]
  | true =>
  cases d3 : decide (at_ = (b.length : Int)) with
  | true => simp only [f_R05_Decode, d0, d1, d2, d3, d6, Bool.or_self, Bool.not_false, Bool.not_true, cond_true, cond_false, V3, doneV, noV, Val.cells, go_sem]
  | false =>
  have h0 : 0 ≤ at_ := by simp at d0; omega
  have h1 : at_ < (b.length : Int) := by simp at d1 d3; omega
  obtain ⟨c, hc⟩ : ∃ c, getE b at_ = some c := by
    unfold getE; rw [if_pos h0]
    exact ⟨_, List.getElem?_eq_getElem (by omega)⟩
  have w1 : IntKind.wrap .i64 (at_ + 1) = at_ + 1 := wrap_i64 (by omega) (by omega)
  have q0 : decide ((c.toNat : Int) = 0) = decide (c.toNat = 0) := by rw [Bool.eq_iff_iff]; simp
  have q1 : decide ((1 : Int) < (c.toNat : Int)) = (!decide (c.toNat = 0) && !decide (c.toNat = 1)) := by rw [Bool.eq_iff_iff]; simp; omega
  rw [hc]
  simp only []
  cases d4 : decide (c.toNat = 0) with
  | true =>
    have hnl : okV nullV t = true := rfl
    simp only [f_R05_Decode, d0, d1, d2, d3, d00, hc, getE_bytes, bcell, q0, q1, d4, w1, hnl, Bool.or_self, Bool.not_true, Bool.false_and, Bool.and_self, cond_true, cond_false, V3, doneV, go_sem]
    simp only [nullV, Val.cells]
  | false =>
  cases d5' : decide (c.toNat = 1) with
  | false => simp only [f_R05_Decode, d0, d1, d2, d3, d5, hc, getE_bytes, bcell, q0, q1, d4, d5', Bool.or_self, Bool.not_true, Bool.not_false, Bool.and_self, cond_true, cond_false, V3, doneV, noV, Val.cells, go_sem]
  | true =>
  simp only [Bool.or_self, Bool.not_true, cond_true, cond_false]
  cases d6' : decide (t = 4) with
  | true =>
    have h := R01_ReadText b (at_ + 1) (by omega)
    simp only [cond_true]
    generalize rT b (at_ + 1) = r at *
    obtain ⟨s, nx, e⟩ := r
    simp only [] at h ⊢
    have hv := R05_Valid false 0 ⟨s.toArray⟩ t
    rw [d2, Bool.true_and] at hv
    cases d8 : decide (e = 0) with
    | false => simp only [f_R05_Decode, d0, d1, d2, d3, hc, getE_bytes, bcell, q0, q1, d4, d5', d6', d8, w1, h, Bool.or_self, Bool.not_true, Bool.not_false, Bool.and_false, cond_true, cond_false, V3, doneV, noV, Val.cells, go_sem]
    | true =>
      have e0 : e = 0 := by simpa using d8
      subst e0
      cases d9 : okV ⟨false, 0, ⟨s.toArray⟩⟩ t <;>
      (rw [d9] at hv; simp only [f_R05_Decode, d0, d1, d2, d3, d00, hc, getE_bytes, bcell, q0, q1, d4, d5', d6', d8, d9, hv, w1, h, Bool.or_self, Bool.not_true, Bool.not_false, Bool.and_false, Bool.and_self, cond_true, cond_false, V3, doneV, noV, Val.cells, go_sem])
  | false =>
    have h := R01_ReadS b (at_ + 1) (by omega)
    simp only [cond_false]
    generalize rS b (at_ + 1) = r at *
    obtain ⟨n, nx, e⟩ := r
    simp only [] at h ⊢
    have hv := R05_Valid false n ⟨#[]⟩ t
    rw [d2, Bool.true_and] at hv
    cases d8 : decide (e = 0) with
    | false => simp only [f_R05_Decode, d0, d1, d2, d3, hc, getE_bytes, bcell, q0, q1, d4, d5', d6', d8, w1, h, Bool.or_self, Bool.not_true, Bool.not_false, Bool.and_false, cond_true, cond_false, V3, doneV, noV, Val.cells, go_sem]
    | true =>
      have e0 : e = 0 := by simpa using d8
      subst e0
      cases d9 : okV ⟨false, n, ⟨#[]⟩⟩ t <;>
      (rw [d9] at hv; simp only [f_R05_Decode, d0, d1, d2, d3, d00, hc, getE_bytes, bcell, q0, q1, d4, d5', d6', d8, d9, hv, w1, h, Bool.or_self, Bool.not_true, Bool.not_false, Bool.and_false, Bool.and_self, cond_true, cond_false, V3, doneV, noV, Val.cells, go_sem])
def encV (v : Val) (t : Int) : List UInt8 := bif !(typeOk t && okV v t) then [] else bif v.null then [0] else bif decide (t = 4) then 1 :: (leb v.s.size ++ v.s.data.toList) else 1 :: leb (zz v.n)
theorem Clone_b (l : List UInt8) (hl : l.length < 100000000000) : Den prog 413 [.sl (l.map bcell)] [] = some (.osl 0 0 l.length 0 l.length, [.arr 0 1 (l.map bcell)]) := by
  cases l with
  | nil =>
    refine Den_two [] pr_slices_Clone_byte_byte rfl rfl ?_ ?_ ?_ ?_ <;> simp only [f_slices_Clone_byte_byte, AV.alike, alikes, beq_self_eq_true, List.map_nil, List.length_nil, go_sem]
  | cons c l =>
    rw [List.map_cons, Den_one [] pr_slices_Clone_byte_byte rfl]
    have hb : (l.length + 1) * 1 ≤ 140737488355328 := by simp at hl; omega
    simp only [f_slices_Clone_byte_byte, hb, bcell, go_sem]
theorem map_one (l : List UInt8) (c : UInt8) (x : Int) (h : (c.toNat : Int) = x) : (l ++ [c]).map bcell = l.map bcell ++ [[AV.int .u8 x]] := by
  rw [List.map_append, List.map_cons, List.map_nil, bcell, h]
theorem enc_row (l e : List UInt8) (c : UInt8) : (l ++ (c :: e)).map bcell = (l ++ [c]).map bcell ++ e.map bcell := by simp
theorem value_Encode (l : List UInt8) (b : Bool) (n : Int) (s : ByteArray) (t : Int) (hl : l.length < 1000000000) (hs : s.size < 1000000000) (hn : -9223372036854775808 ≤ n ∧ n ≤ 9223372036854775807) :
    Den prog 439 [.sl (l.map bcell), .agg [.bool b, .int .i64 n, .str s], .int .i64 t] [] = some (.osl 0 0 (l ++ encV ⟨b, n, s⟩ t).length 0 (l ++ encV ⟨b, n, s⟩ t).length, [.arr 0 1 ((l ++ encV ⟨b, n, s⟩ t).map bcell)]) := by
  rw [Den_ofK [] pr_value_Encode rfl]
  have hv := value_Valid b n s t hn
  have hc := Clone_b l (by omega)
  have hb : (l.length + 1) * 1 ≤ 140737488355328 := by omega
  have hsz : s.data.toList.length = s.size := by simp
  unfold encV
  simp only []
  cases d0 : (typeOk t && okV ⟨b, n, s⟩ t) with
  | false =>
    rw [d0] at hv
    simp only [f_value_Encode, hv, hc, Bool.not_false, cond_true, go_sem]
  | true =>
    rw [d0] at hv
    cases b with
    | true =>
      simp only [Bool.not_true, cond_true, cond_false]
      rw [map_one l 0 0 rfl]
      simp only [f_value_Encode, hv, hc, hb, go_sem]
    | false =>
      cases d4 : decide (t = 4) with
      | true =>
        have h := wire_Text (l ++ [1]) s (by simp; omega) (by omega)
        simp only [List.length_append, List.length_cons, List.length_nil, Nat.zero_add] at h
        have e : (l ++ [1] ++ leb s.size ++ s.data.toList).map bcell = (l ++ (1 :: (leb s.size ++ s.data.toList))).map bcell := by simp
        rw [e, map_one l 1 1 rfl] at h
        simp only [Bool.not_true, cond_true, cond_false]
        have el : (l ++ (1 :: (leb s.size ++ s.data.toList))).length = l.length + 1 + (leb s.size).length + s.size := by simp; omega
        rw [el]
        generalize (l ++ (1 :: (leb s.size ++ s.data.toList))).map bcell = R at *
        simp only [f_value_Encode, hv, hc, hb, d4, h, go_sem]
      | false =>
        have h := wire_S (l ++ [1]) n hn.1 hn.2 (by simp; omega)
        simp only [List.length_append, List.length_cons, List.length_nil, Nat.zero_add] at h
        have e : (l ++ [1] ++ leb (zz n)).map bcell = (l ++ (1 :: leb (zz n))).map bcell := by simp
        rw [e, map_one l 1 1 rfl] at h
        simp only [Bool.not_true, cond_true, cond_false]
        have el : (l ++ (1 :: leb (zz n))).length = l.length + 1 + (leb (zz n)).length := by simp; omega
        rw [el]
        generalize (l ++ (1 :: leb (zz n))).map bcell = R at *
        simp only [f_value_Encode, hv, hc, hb, d4, h, go_sem]
theorem R05_Encode (l : List UInt8) (b : Bool) (n : Int) (s : ByteArray) (t : Int) (hl : l.length < 1000000000) (hs : s.size < 1000000000) (hn : -9223372036854775808 ≤ n ∧ n ≤ 9223372036854775807) :
    Den prog 461 [.sl (l.map bcell), .agg [.bool b, .int .i64 n, .str s], .int .i64 t] [] = some (.osl 0 0 (l ++ encV ⟨b, n, s⟩ t).length 0 (l ++ encV ⟨b, n, s⟩ t).length, [.arr 0 1 ((l ++ encV ⟨b, n, s⟩ t).map bcell)]) := by
  rw [Den_ofK [] pr_R05_Encode rfl]
  have hv := R05_Valid b n s t
  have hb0 : l.length * 1 ≤ 140737488355328 := by omega
  have hb : (l.length + 1) * 1 ≤ 140737488355328 := by omega
  have hsz : s.data.toList.length = s.size := by simp
  unfold encV
  simp only []
  cases d0 : (typeOk t && okV ⟨b, n, s⟩ t) with
  | false =>
    rw [d0] at hv
    simp only [f_R05_Encode, hv, hb0, Bool.not_false, cond_true, go_sem]
  | true =>
    rw [d0] at hv
    cases b with
    | true =>
      simp only [Bool.not_true, cond_true, cond_false]
      rw [map_one l 0 0 rfl]
      simp only [f_R05_Encode, hv, hb0, hb, go_sem]
    | false =>
      cases d4 : decide (t = 4) with
      | true =>
        have h := R01_Text (l ++ [1]) s (by simp; omega) (by omega)
        simp only [List.length_append, List.length_cons, List.length_nil, Nat.zero_add] at h
        have e : (l ++ [1] ++ leb s.size ++ s.data.toList).map bcell = (l ++ (1 :: (leb s.size ++ s.data.toList))).map bcell := by simp
        rw [e, map_one l 1 1 rfl] at h
        simp only [Bool.not_true, cond_true, cond_false]
        have el : (l ++ (1 :: (leb s.size ++ s.data.toList))).length = l.length + 1 + (leb s.size).length + s.size := by simp; omega
        rw [el]
        generalize (l ++ (1 :: (leb s.size ++ s.data.toList))).map bcell = R at *
        simp only [f_R05_Encode, hv, hb0, hb, d4, h, go_sem]
      | false =>
        have h := R01_S (l ++ [1]) n hn.1 hn.2 (by simp; omega)
        simp only [List.length_append, List.length_cons, List.length_nil, Nat.zero_add] at h
        have e : (l ++ [1] ++ leb (zz n)).map bcell = (l ++ (1 :: leb (zz n))).map bcell := by simp
        rw [e, map_one l 1 1 rfl] at h
        simp only [Bool.not_true, cond_true, cond_false]
        have el : (l ++ (1 :: leb (zz n))).length = l.length + 1 + (leb (zz n)).length := by simp; omega
        rw [el]
        generalize (l ++ (1 :: leb (zz n))).map bcell = R at *
        simp only [f_R05_Encode, hv, hb0, hb, d4, h, go_sem]
def sameB (a b : List UInt8) : Bool := decide (a = b)
theorem R01_Same (a b : List UInt8) (ha : a.length < 10000000000) (hb : b.length < 10000000000) : Den prog 440 [.sl (a.map bcell), .sl (b.map bcell)] [] = some (.bool (decide (a = b)), []) := by
  rw [Den_ofK [] pr_R01_Same rfl]
  by_cases hl : a.length = b.length
  · have dl : decide ((a.length : Int) = (b.length : Int)) = true := by simp; omega
    simp only [f_R01_Same, dl, go_sem]
    refine range_ind a (by omega) (fun i (_ : Unit) => (Run prog 0 (.loop 0 [0, 1, 5] f_R01_Same_l0) [(0, .sl (a.map bcell)), (1, .sl (b.map bcell)), (5, .int .i64 i)] []).bind _ = some (AV.bool (decide (a = b)), []))
      (fun i rest _ => ∃ p rb, a = p ++ rest ∧ b = p ++ rb ∧ i = p.length) ?_ ?_ () ⟨[], b, rfl, rfl, rfl⟩
    · intro _ ⟨p, rb, h1, h2, h3⟩
      have e1 : a = p := by simpa using h1
      have e2 : rb = [] := by
        have := congrArg List.length h2
        simp only [List.length_append] at this
        exact List.length_eq_zero_iff.1 (by rw [← e1] at this; omega)
      have e : a = b := by rw [h2, e2, ← e1]; simp
      have d : decide (a = b) = true := decide_eq_true e
      clear h1 h2 h3
      rw [d, Run_loop]
      simp only [f_R01_Same_l0_eq, f_R01_Same_l0u, go_sem]
    · intro i pre0 rest x _ _ _ hi0 hi1 hx hc hw ⟨p, rb, h1, h2, h3⟩ ih
      obtain ⟨y, r2, hy⟩ : ∃ y r2, rb = y :: r2 := by
        cases rb with
        | nil =>
          have g1 := congrArg List.length h1
          have g2 := congrArg List.length h2
          simp at g1 g2; omega
        | cons y r2 => exact ⟨y, r2, rfl⟩
      subst hy
      have hyb : getE b i = some y := getE_prev h2 h3
      have qe : decide ((x.toNat : Int) = (y.toNat : Int)) = decide (x = y) := by
        rw [Bool.eq_iff_iff]; simp only [decide_eq_true_eq]
        constructor
        · intro h; exact UInt8.toNat_inj.1 (by omega)
        · intro h; rw [h]
      rw [Run_loop]
      cases de : decide (x = y) with
      | true =>
        have exy : x = y := by simpa using de
        subst exy
        have ih := ih () ⟨p ++ [x], r2, by simp [h1], by simp [h2], by simp; omega⟩
        clear h1 h2
        simp only [f_R01_Same_l0_eq, f_R01_Same_l0u, hx, hyb, hc, hw, qe, de, getE_bytes, bcell, ih, go_sem]
      | false =>
        have nxy : x ≠ y := by simpa using de
        have ne : decide (a = b) = false := by
          rw [decide_eq_false_iff_not, h1, h2]
          intro h
          have := List.append_cancel_left h
          simp at this
          exact nxy this.1
        clear h1 h2 ih
        rw [ne]
        simp only [f_R01_Same_l0_eq, f_R01_Same_l0u, hx, hyb, hc, qe, de, getE_bytes, bcell, go_sem]
  · have dl : decide ((a.length : Int) = (b.length : Int)) = false := by simp; omega
    have ne : decide (a = b) = false := by
      rw [decide_eq_false_iff_not]; intro h; exact hl (by rw [h])
    rw [ne]
    simp only [f_R01_Same, dl, go_sem]
end Go.Den
