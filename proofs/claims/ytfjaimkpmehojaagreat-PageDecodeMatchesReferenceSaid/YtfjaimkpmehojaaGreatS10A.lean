/- Ch. 10, plain: bare encodings read back; null masks. -/
import Derived.Test.YtfjaimkpmehojaaGreatS5C
namespace Go.Den
open Go
set_option linter.unusedSimpArgs false
set_option linter.unusedVariables false
set_option maxRecDepth 100000
set_option maxHeartbeats 1000000
theorem rS_enc (pre rest : List UInt8) (n : Int) (h0 : -9223372036854775808 ≤ n) (h1 : n ≤ 9223372036854775807) : rS (pre ++ (leb (zz n) ++ rest)) pre.length = (n, (pre.length : Int) + (leb (zz n)).length, 0) := by
  unfold rS
  rw [rU_leb pre rest (zz n) (zz_lt h0 h1)]
  simp only [unzz_zz]
theorem rT_enc (pre rest s : List UInt8) (hs : s.length ≤ 1048576) : rT (pre ++ (leb s.length ++ (s ++ rest))) pre.length = (s, (pre.length : Int) + (leb s.length).length + s.length, 0) := by
  have hr := rU_leb pre (s ++ rest) s.length (by omega)
  have eL : (pre ++ (leb s.length ++ (s ++ rest))).length = pre.length + (leb s.length).length + s.length + rest.length := by simp only [List.length_append]; omega
  have eD : (pre ++ (leb s.length ++ (s ++ rest))).drop (pre.length + (leb s.length).length) = s ++ rest := by
    rw [← List.append_assoc, List.drop_append_of_le_length (by simp), List.drop_of_length_le (by simp), List.nil_append]
  generalize pre ++ (leb s.length ++ (s ++ rest)) = B at *
  have hS : spanS B (pre.length : Int) = ((pre.length : Int) + (leb s.length).length, (pre.length : Int) + (leb s.length).length + s.length, 0) := by
    unfold spanS
    rw [hr]
    simp only []
    rw [decide_eq_false (show ¬ 1048576 < s.length by omega), decide_eq_false (show ¬ (B.length : Int) - ((pre.length : Int) + (leb s.length).length) < s.length by omega)]
    simp
  unfold rT
  rw [hS]
  simp only []
  rw [show ((pre.length : Int) + (leb s.length).length).toNat = pre.length + (leb s.length).length by omega, eD, show ((pre.length : Int) + (leb s.length).length + s.length).toNat - (pre.length + (leb s.length).length) = s.length by omega, List.take_left]
def bareB (v : Val) (t : Int) : List UInt8 := bif decide (t = 4) then leb v.s.size ++ v.s.data.toList else leb (zz v.n)
def readB (b : List UInt8) (a t : Int) : Val × Int × Int := bif decide (t = 4) then (⟨false, 0, ba (rT b a).1⟩, (rT b a).2) else (⟨false, (rS b a).1, ⟨#[]⟩⟩, (rS b a).2)
theorem readB_bare (pre rest : List UInt8) (v : Val) (t : Int) (hv : okV v t = true) (hn : v.null = false) (hi : InB v) : readB (pre ++ (bareB v t ++ rest)) pre.length t = (v, (pre.length : Int) + (bareB v t).length, 0) := by
  unfold readB bareB
  by_cases h4 : t = 4
  · subst h4
    obtain ⟨v0, v2⟩ := okV5_text hv hn
    have hl : v.s.data.toList.length = v.s.size := rfl
    have h := rT_enc pre rest v.s.data.toList (by omega)
    rw [hl] at h
    simp only [decide_true, cond_true, List.append_assoc]
    rw [h, ← ba_of]
    obtain ⟨a, b, c⟩ := v
    simp only [] at hn v0 hl ⊢
    rw [hn, v0]
    refine Prod.ext rfl (Prod.ext ?_ rfl)
    simp only [List.length_append, hl]
    omega
  · have vs := okV5_num hv hn h4
    rw [decide_eq_false h4]
    simp only [cond_false]
    rw [rS_enc pre rest v.n hi.1 hi.2]
    obtain ⟨a, b, c⟩ := v
    simp only [] at hn vs ⊢
    rw [hn, vs]
def bitsN : List Bool → Nat
  | [] => 0
  | b :: r => (bif b then 1 else 0) + 2 * bitsN r
theorem bitsN_lt : ∀ l : List Bool, bitsN l < 2 ^ l.length
  | [] => by simp [bitsN]
  | b :: r => by
    have := bitsN_lt r
    simp only [bitsN, List.length_cons, Nat.pow_succ]
    cases b <;> simp <;> omega
theorem bitsN_set : ∀ (l : List Bool) (j : Nat), l[j]? = some false → bitsN (l.set j true) = bitsN l + 2 ^ j
  | [], j, h => by simp at h
  | b :: r, 0, h => by
    simp at h; subst h
    simp [bitsN]; omega
  | b :: r, j + 1, h => by
    have := bitsN_set r j (by simpa using h)
    simp only [List.set_cons_succ, bitsN, this, Nat.pow_succ]
    omega
theorem bitsN_get : ∀ (l : List Bool) (j : Nat) (b : Bool), l[j]? = some b → bitsN l / 2 ^ j % 2 = bif b then 1 else 0
  | [], j, b, h => by simp at h
  | c :: r, 0, b, h => by
    simp at h; subst h
    simp only [bitsN, Nat.pow_zero, Nat.div_one]
    cases c <;> simp <;> omega
  | c :: r, j + 1, b, h => by
    have := bitsN_get r j b (by simpa using h)
    rw [← this]
    simp only [bitsN, Nat.pow_succ]
    rw [Nat.mul_comm (2 ^ j) 2, ← Nat.div_div_eq_div_mul]
    congr 2
    cases c <;> simp <;> omega
theorem bit_or_all : ∀ (x : Fin 256) (j : Fin 8), x.val / 2 ^ j.val % 2 = 0 → orI .u8 (x.val : Int) ((2 ^ j.val : Nat) : Int) = ((x.val + 2 ^ j.val : Nat) : Int) ∧ x.val + 2 ^ j.val < 256 := by decide +kernel
theorem bit_or (l : List Bool) (j : Nat) (hl : l.length ≤ 8) (h : l[j]? = some false) : orI .u8 (bitsN l : Int) ((2 ^ j : Nat) : Int) = ((bitsN (l.set j true) : Nat) : Int) ∧ bitsN (l.set j true) < 256 := by
  have hj : j < l.length := by
    rcases Nat.lt_or_ge j l.length with h1 | h1
    · exact h1
    · rw [List.getElem?_eq_none h1] at h; simp at h
  have hb := bitsN_lt l
  have hp : 2 ^ l.length ≤ 2 ^ 8 := Nat.pow_le_pow_right (by decide) hl
  have h8 : (2 : Nat) ^ 8 = 256 := rfl
  have e := bitsN_get l j false h
  rw [bitsN_set l j h]
  exact bit_or_all ⟨bitsN l, by omega⟩ ⟨j, by omega⟩ e
def maskB (l : List Bool) : List UInt8 := if h : l = [] then [] else UInt8.ofNat (bitsN (l.take 8)) :: maskB (l.drop 8)
termination_by l.length
decreasing_by
  have : 0 < l.length := List.length_pos_iff.2 h
  rw [List.length_drop]; omega
theorem maskB_nil : maskB [] = [] := by rw [maskB]; simp
theorem maskB_cons {l : List Bool} (h : l ≠ []) : maskB l = UInt8.ofNat (bitsN (l.take 8)) :: maskB (l.drop 8) := by rw [maskB]; simp [h]
theorem maskB_len : ∀ (n : Nat) (l : List Bool), l.length ≤ n → (maskB l).length = (l.length + 7) / 8
  | 0, l, h => by
    have : l = [] := List.length_eq_zero_iff.1 (by omega)
    subst this; rw [maskB_nil]; rfl
  | n + 1, l, h => by
    by_cases hl : l = []
    · subst hl; rw [maskB_nil]; rfl
    · have h0 : 0 < l.length := List.length_pos_iff.2 hl
      rw [maskB_cons hl, List.length_cons, maskB_len n (l.drop 8) (by rw [List.length_drop]; omega), List.length_drop]
      omega
theorem maskB_at : ∀ (k : Nat) (l : List Bool), 8 * k < l.length → (maskB l)[k]? = some (UInt8.ofNat (bitsN ((l.drop (8 * k)).take 8)))
  | 0, l, h => by
    have hl : l ≠ [] := by intro e; subst e; simp at h
    rw [maskB_cons hl]; simp
  | k + 1, l, h => by
    have hl : l ≠ [] := by intro e; subst e; simp at h
    rw [maskB_cons hl, List.getElem?_cons_succ, maskB_at k (l.drop 8) (by rw [List.length_drop]; omega), List.drop_drop, show 8 + 8 * k = 8 * (k + 1) by omega]
theorem maskB_bit (l : List Bool) (i : Nat) (b : Bool) (h : l[i]? = some b) : ∃ c : UInt8, (maskB l)[i / 8]? = some c ∧ c.toNat / 2 ^ (i % 8) % 2 = bif b then 1 else 0 := by
  have hi : i < l.length := by
    rcases Nat.lt_or_ge i l.length with h1 | h1
    · exact h1
    · rw [List.getElem?_eq_none h1] at h; simp at h
  refine ⟨_, maskB_at (i / 8) l (by omega), ?_⟩
  have hl : ((l.drop (8 * (i / 8))).take 8).length ≤ 8 := by rw [List.length_take]; omega
  have hb := bitsN_lt ((l.drop (8 * (i / 8))).take 8)
  have hp : 2 ^ ((l.drop (8 * (i / 8))).take 8).length ≤ 2 ^ 8 := Nat.pow_le_pow_right (by decide) hl
  have h8 : (2 : Nat) ^ 8 = 256 := rfl
  rw [UInt8.toNat_ofNat', Nat.mod_eq_of_lt (show bitsN ((l.drop (8 * (i / 8))).take 8) < 2 ^ 8 by omega)]
  refine bitsN_get _ _ _ ?_
  rw [List.getElem?_take, if_pos (by omega), List.getElem?_drop, show 8 * (i / 8) + i % 8 = i by omega, h]
theorem maskB_set (l : List Bool) (i : Nat) (h : l[i]? = some false) : ∃ c d : UInt8, (maskB l)[i / 8]? = some c ∧ orI .u8 (c.toNat : Int) ((2 ^ (i % 8) : Nat) : Int) = (d.toNat : Int) ∧ maskB (l.set i true) = (maskB l).set (i / 8) d := by
  have hi : i < l.length := by
    rcases Nat.lt_or_ge i l.length with h1 | h1
    · exact h1
    · rw [List.getElem?_eq_none h1] at h; simp at h
  obtain ⟨g, hg⟩ : ∃ g, (l.drop (8 * (i / 8))).take 8 = g := ⟨_, rfl⟩
  have hl : g.length ≤ 8 := by rw [← hg, List.length_take]; omega
  have hgi : g[i % 8]? = some false := by
    rw [← hg, List.getElem?_take, if_pos (by omega), List.getElem?_drop, show 8 * (i / 8) + i % 8 = i by omega, h]
  have hb := bitsN_lt g
  have hp : 2 ^ g.length ≤ 2 ^ 8 := Nat.pow_le_pow_right (by decide) hl
  have h8 : (2 : Nat) ^ 8 = 256 := rfl
  obtain ⟨e1, e2⟩ := bit_or g (i % 8) hl hgi
  have hat := maskB_at (i / 8) l (by omega)
  rw [hg] at hat
  refine ⟨UInt8.ofNat (bitsN g), UInt8.ofNat (bitsN (g.set (i % 8) true)), hat, ?_, ?_⟩
  · rw [UInt8.toNat_ofNat', Nat.mod_eq_of_lt (show bitsN g < 2 ^ 8 by omega), UInt8.toNat_ofNat', Nat.mod_eq_of_lt (show bitsN (g.set (i % 8) true) < 2 ^ 8 by omega)]
    exact e1
  · apply List.ext_getElem?
    intro k
    by_cases hk : 8 * k < l.length
    · rw [maskB_at k (l.set i true) (by rw [List.length_set]; exact hk)]
      by_cases e : i / 8 = k
      · subst e
        have hlt : i / 8 < (maskB l).length := by rw [maskB_len _ l (Nat.le_refl _)]; omega
        rw [List.getElem?_set_self hlt]
        congr 3
        rw [← hg]
        apply List.ext_getElem?
        intro q
        by_cases hq : q < 8
        · rw [List.getElem?_take, if_pos hq, List.getElem?_drop]
          by_cases e : q = i % 8
          · subst e
            rw [show 8 * (i / 8) + i % 8 = i by omega, List.getElem?_set_self hi, List.getElem?_set_self (by rw [List.length_take, List.length_drop]; omega)]
          · rw [List.getElem?_set_ne (by omega), List.getElem?_set_ne (fun h => e h.symm), List.getElem?_take, if_pos hq, List.getElem?_drop]
        · rw [List.getElem?_take, if_neg hq, List.getElem?_set_ne (by omega), List.getElem?_take, if_neg hq]
      · rw [List.getElem?_set_ne e, maskB_at k l hk]
        congr 3
        apply List.ext_getElem?
        intro q
        by_cases hq : q < 8
        · rw [List.getElem?_take, if_pos hq, List.getElem?_take, if_pos hq, List.getElem?_drop, List.getElem?_drop, List.getElem?_set_ne (by omega)]
        · rw [List.getElem?_take, if_neg hq, List.getElem?_take, if_neg hq]
    · have n1 : (maskB (l.set i true)).length ≤ k := by rw [maskB_len _ _ (Nat.le_refl _), List.length_set]; omega
      have n2 : ((maskB l).set (i / 8) (UInt8.ofNat (bitsN (g.set (i % 8) true)))).length ≤ k := by rw [List.length_set, maskB_len _ _ (Nat.le_refl _)]; omega
      rw [List.getElem?_eq_none n1, List.getElem?_eq_none n2]
end Go.Den
