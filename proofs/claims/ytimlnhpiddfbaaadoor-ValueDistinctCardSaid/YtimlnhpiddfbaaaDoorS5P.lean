/- Numerals and dates: plain laws. -/
import Derived.Test.YtimlnhpiddfbaaaDoorP05D
import Derived.Test.YtimlnhpiddfbaaaDoorSBy
namespace Go.Den
open Go
set_option linter.unusedSimpArgs false
set_option linter.unusedVariables false
set_option maxRecDepth 100000
set_option maxHeartbeats 1000000
/-- A number in at least some digits. -/
def padF : Nat → Nat → Nat → List UInt8
  | 0, _, _ => []
  | f + 1, n, least => if n = 0 ∧ least = 0 then [] else padF f (n / 10) (least - 1) ++ [UInt8.ofNat (48 + n % 10)]
theorem padF_zero (f : Nat) : padF f 0 0 = [] := by cases f <;> rfl
theorem padF_more : ∀ (f g n l : Nat), n < 10 ^ f → l ≤ f → f ≤ g → padF g n l = padF f n l
  | 0, g, n, l, hn, hl, _ => by
    have h0 : n = 0 := by simp at hn; omega
    have h1 : l = 0 := by omega
    subst h0; subst h1
    exact padF_zero g
  | f + 1, 0, _, _, _, _, h => absurd h (by omega)
  | f + 1, g + 1, n, l, hn, hl, h => by
    rw [padF, padF]
    by_cases hc : n = 0 ∧ l = 0
    · rw [if_pos hc, if_pos hc]
    · rw [if_neg hc, if_neg hc, padF_more f g (n / 10) (l - 1) (by rw [Nat.pow_succ] at hn; omega) (by omega) (by omega)]
theorem padF_dec : ∀ (f n : Nat), padF (f + 1) n 1 = decF (f + 1) n ∨ ¬ n < 10 ^ (f + 1)
  | 0, n => by
    by_cases h : n < 10
    · refine .inl ?_
      rw [padF, decF, if_neg (by omega), if_pos h, padF, List.nil_append, Nat.mod_eq_of_lt h]
    · exact .inr (by simpa using h)
  | f + 1, n => by
    by_cases h : n < 10 ^ (f + 2)
    · refine .inl ?_
      rw [padF, decF, if_neg (by omega)]
      by_cases h1 : n < 10
      · rw [if_pos h1, show n / 10 = 0 by omega, show (1 : Nat) - 1 = 0 from rfl, padF_zero, List.nil_append, Nat.mod_eq_of_lt h1]
      · rw [if_neg h1]
        rcases padF_dec f (n / 10) with h2 | h2
        · rw [← h2]
          congr 1
          have : n / 10 ≠ 0 := by omega
          rw [padF, padF]
          rw [if_neg (by omega), if_neg (by omega)]
        · exact absurd (by rw [Nat.pow_succ] at h; omega) h2
    · exact .inr h
theorem dec_pad {f n : Nat} (h : n < 10 ^ (f + 1)) : decF (f + 1) n = padF (f + 1) n 1 := by
  rcases padF_dec f n with h1 | h1
  · exact h1.symm
  · exact absurd h h1
theorem padF_len : ∀ (f n l : Nat), l ≤ f → l ≤ (padF f n l).length
  | 0, n, l, h => by omega
  | f + 1, n, l, h => by
    rw [padF]
    split
    · omega
    · have := padF_len f (n / 10) (l - 1) (by omega)
      rw [List.length_append, List.length_singleton]
      omega
theorem padF_le : ∀ (f n l : Nat), (padF f n l).length ≤ f
  | 0, n, l => Nat.le_refl _
  | f + 1, n, l => by
    rw [padF]
    split
    · simp
    · have := padF_le f (n / 10) (l - 1)
      rw [List.length_append, List.length_singleton]
      omega
/-- Padding with zeros. -/
theorem padF_pad : ∀ (f n l : Nat), 1 ≤ l → l ≤ f → n < 10 ^ f → padF f n l = List.replicate (l - (padF f n 1).length) 48 ++ padF f n 1
  | 0, n, l, h1, h2, _ => by omega
  | f + 1, n, l, h1, h2, hn => by
    have hn' : n / 10 < 10 ^ f := by rw [Nat.pow_succ] at hn; omega
    rw [padF, padF, if_neg (by omega), if_neg (by omega)]
    rw [show (1 : Nat) - 1 = 0 from rfl, List.length_append, List.length_singleton]
    by_cases h3 : l = 1
    · subst h3
      have : 1 - ((padF f (n / 10) 0).length + 1) = 0 := by omega
      rw [this]; rfl
    · have ih := padF_pad f (n / 10) (l - 1) (by omega) (by omega) hn'
      rw [ih, List.append_assoc]
      by_cases h0 : n / 10 = 0
      · cases f with
        | zero => omega
        | succ f =>
          rw [h0, padF_zero, padF, if_neg (by omega), show (0 : Nat) / 10 = 0 from rfl, show (1 : Nat) - 1 = 0 from rfl, padF_zero]
          simp only [List.nil_append, List.length_singleton, List.length_nil, Nat.zero_add]
          obtain ⟨q, rfl⟩ : ∃ q, l = q + 2 := ⟨l - 2, by omega⟩
          have e : List.replicate (q + 2 - 1) (48 : UInt8) = List.replicate (q + 2 - 1 - 1) 48 ++ [48] := by
            show List.replicate (q + 1) (48 : UInt8) = List.replicate q 48 ++ [48]
            rw [List.replicate_succ']
          rw [e, List.append_assoc]
          rfl
      · have e1 : padF f (n / 10) 0 = padF f (n / 10) 1 := by
          cases f with
          | zero => rfl
          | succ f => rw [padF, padF, if_neg (by omega), if_neg (by omega)]
        rw [e1, show l - 1 - (padF f (n / 10) 1).length = l - ((padF f (n / 10) 1).length + 1) by omega]
/-- A number in at least some digits, with its sign. -/
def sgnL (n : Int) (least : Nat) : List UInt8 := bif decide (n < 0) then 45 :: padF 25 n.natAbs least else padF 25 n.natAbs least
theorem itoa_sgn (n : Int) (h0 : -9223372036854775808 ≤ n) (h1 : n ≤ 9223372036854775807) : itoaF n = sgnL n 1 := by
  have hp : (10 : Nat) ^ 20 = 100000000000000000000 := by decide
  unfold itoaF sgnL
  by_cases h : n < 0
  · rw [if_pos h, decide_eq_true h, cond_true, dec_pad (f := 19) (by omega), padF_more 20 25 _ _ (by omega) (by omega) (by omega)]
  · rw [if_neg h, decide_eq_false h, cond_false, show n.toNat = n.natAbs by omega, dec_pad (f := 19) (by omega), padF_more 20 25 _ _ (by omega) (by omega) (by omega)]
theorem repeat_rep : ∀ k, Lib.repeatL [48] k = List.replicate k 48
  | 0 => rfl
  | k + 1 => by rw [Lib.repeatL, repeat_rep k, List.replicate_succ]; rfl
def ba (l : List UInt8) : ByteArray := ⟨l.toArray⟩
theorem ba_data (l : List UInt8) : (ba l).data.toList = l := by simp [ba]
theorem ba_size (l : List UInt8) : (ba l).size = l.length := by simp [ba, ByteArray.size]
theorem ba_app (l m : List UInt8) : ba l ++ ba m = ba (l ++ m) := by
  apply ByteArray.ext
  simp [ba]
theorem ba_of (s : ByteArray) : s = ba s.data.toList := by
  apply ByteArray.ext
  simp [ba]
theorem ba_inj {l m : List UInt8} : ba l = ba m ↔ l = m := by
  constructor
  · intro h
    have := congrArg (fun s => s.data.toList) h
    simpa [ba] using this
  · intro h; rw [h]
theorem bin_ba (kd : EK) (l m : List UInt8) (h : l.length + m.length ≤ 9223372036854775807) : bin .add kd (.str (ba l)) (.str (ba m)) = some (.str (ba (l ++ m))) := by
  rw [bin_cat kd _ _ (by rw [ba_size, ba_size]; exact h), ba_app]
theorem c45 : (⟨#[45]⟩ : ByteArray) = ba [45] := rfl
theorem ba_extract (l : List UInt8) (a b : Nat) : (ba l).extract a b = ba ((l.drop a).take (b - a)) := by
  apply ByteArray.ext
  apply Array.ext'
  simp [ba, List.extract]
/-! Dates. -/
def eraK (z : Int) : Int := z / 146097
def doeN (z : Int) : Nat := (z - z / 146097 * 146097).toNat
def yoeN (z : Int) : Nat := gD (doeN z) / 365
def doyN (z : Int) : Nat := doeN z - stD (yoeN z)
def yearZ (z : Int) : Int := 400 * eraK z + yoeN z + (if 10 ≤ mD (doyN z) then 1 else 0)
def monZ (z : Int) : Nat := if 10 ≤ mD (doyN z) then mD (doyN z) - 9 else mD (doyN z) + 3
def domZ (z : Int) : Nat := ddD (doyN z)
theorem dateZ (z : Int) : doeN z < 146097 ∧ (doeN z : Int) = z - eraK z * 146097 ∧ yoeN z ≤ 399 ∧ stD (yoeN z) ≤ doeN z ∧ doyN z < 366 ∧ mD (doyN z) ≤ 11 ∧ (153 * mD (doyN z) + 2) / 5 ≤ doyN z ∧ 1 ≤ monZ z ∧ monZ z ≤ 12 ∧
    z = janD (yearZ z) + ((cumL (leapB (yearZ z)) (monZ z) + domZ z : Nat) : Int) ∧ domZ z < monL (leapB (yearZ z)) (monZ z) ∧ janD (yearZ z) ≤ z ∧ z < janD (yearZ z + 1) := by
  obtain ⟨k, y, d, hk, hd, h1, h2, h3, h4, h5, h6, h7, Y, M, hY, hM, q1, q2, q3, q4, q5, q6⟩ := date_ok z
  have e1 : doeN z = d := by unfold doeN; rw [← hk]; omega
  have e2 : yoeN z = y := by unfold yoeN; rw [e1, h3]
  have e3 : doyN z = d - stD y := by unfold doyN; rw [e1, e2]
  have e4 : eraK z = k := hk.symm
  have e5 : yearZ z = Y := by unfold yearZ; rw [e4, e2, e3, hY]
  have e6 : monZ z = M := by unfold monZ; rw [e3, hM]
  have e7 : domZ z = ddD (d - stD y) := by unfold domZ; rw [e3]
  rw [e1, e2, e3, e4, e5, e6, e7]
  exact ⟨h1, hd, h2, h4, h5, h6, h7, q1, q2, q3, q4, q5, q6⟩
theorem jan1970 : janD 1970 = 719468 := by decide
end Go.Den
