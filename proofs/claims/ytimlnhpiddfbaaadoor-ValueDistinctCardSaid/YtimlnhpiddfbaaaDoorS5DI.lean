/- Ch. 05: ValueDistinct. -/
import Derived.Test.YtimlnhpiddfbaaaDoorS5RT
namespace Go.Den
open Go Go.Proofs
set_option linter.unusedSimpArgs false
set_option linter.unusedVariables false
set_option maxRecDepth 100000
set_option maxHeartbeats 1000000
theorem enc_pre_le {x y : Val} {t : Int} (ht : typeOk t = true) (hx : okV x t = true) (hy : okV y t = true) (ix : InB x) (iy : InB y) (hl : (encV x t).length ≤ (encV y t).length) (h : encV x t = (encV y t).take (encV x t).length) : x = y := by
  have h1 := dec_enc [] ((encV y t).drop (encV x t).length) x t ht hx ix
  have h2 := dec_enc [] [] y t ht hy iy
  have e : encV y t = encV x t ++ (encV y t).drop (encV x t).length := by
    conv => lhs; rw [← List.take_append_drop (encV x t).length (encV y t), ← h]
  rw [List.nil_append] at h1 h2
  rw [← e] at h1
  rw [List.append_nil, h1] at h2
  exact (Prod.mk.inj h2).1
theorem enc_pre {x y : Val} {t : Int} (ht : typeOk t = true) (hx : okV x t = true) (hy : okV y t = true) (ix : InB x) (iy : InB y) {n : Nat} (hn : n = min (encV x t).length (encV y t).length) : decide ((encV x t).take n = (encV y t).take n) = decide (x = y) := by
  rw [Bool.eq_iff_iff, decide_eq_true_eq, decide_eq_true_eq]
  constructor
  · intro h
    rcases Nat.le_total (encV x t).length (encV y t).length with hl | hl
    · rw [Nat.min_eq_left hl] at hn
      subst hn
      rw [List.take_length] at h
      exact enc_pre_le ht hx hy ix iy hl h
    · rw [Nat.min_eq_right hl] at hn
      subst hn
      rw [List.take_length] at h
      exact (enc_pre_le ht hy hx iy ix hl h.symm).symm
  · intro h; rw [h]
theorem show_eq {x y : Val} {t : Int} (ht : typeOk t = true) (hx : okV x t = true) (hy : okV y t = true) (ix : InB x) (iy : InB y) : decide (ba (showV x t) = ba (showV y t)) = decide (x = y) := by
  rw [Bool.eq_iff_iff, decide_eq_true_eq, decide_eq_true_eq, ba_inj]
  exact ⟨showV_inj ht hx hy ix iy, fun h => by rw [h]⟩
theorem val_eq (x y : Val) : (x.null == y.null && (decide (x.n = y.n) && decide (x.s = y.s))) = decide (x = y) := by
  obtain ⟨a, b, c⟩ := x
  obtain ⟨d, e, f⟩ := y
  rw [Bool.eq_iff_iff]
  simp [Val.mk.injEq]
theorem law_VDI (b : Bool) (n : Int) (s : ByteArray) (c : Bool) (m : Int) (z : ByteArray) (t : Int) (hn : -9223372036854775808 ≤ n ∧ n ≤ 9223372036854775807) (hm : -9223372036854775808 ≤ m ∧ m ≤ 9223372036854775807) (t0 : 0 ≤ t) (t1 : t ≤ 255) :
    Den prog 448 [.agg [.bool b, .int .i64 n, .str s, .bool c, .int .i64 m, .str z], .int .u8 t] [] = some (.bool true, []) := by
  rw [Den_ofK [] pr_L05_ValueDistinct rfl]
  have hsan := sanity05
  cases g1 : decide ((400 : Int) < (s.size : Int)) with
  | true => simp only [f_L05_ValueDistinct, hsan, g1, go_sem]
  | false =>
  cases g2 : decide ((400 : Int) < (z.size : Int)) with
  | true => simp only [f_L05_ValueDistinct, hsan, g1, g2, go_sem]
  | false =>
    obtain ⟨r, k, w1, w2, w3, hk⟩ := k5 t t0 t1
    have nz : (5 : Int) ≠ 0 := by decide
    have hf1 := R05_Fit b n s k
    have hf2 := R05_Fit c m z k
    obtain ⟨o1, o2⟩ := fitS_ok ⟨b, n, s⟩ k hk hn
    obtain ⟨o3, o4⟩ := fitS_ok ⟨c, m, z⟩ k hk hm
    generalize fitS ⟨b, n, s⟩ k = x at *
    generalize fitS ⟨c, m, z⟩ k = y at *
    obtain ⟨xb, xn, xs⟩ := x
    obtain ⟨yb, yn, ys⟩ := y
    simp only [Val.cells] at hf1 hf2
    have s1 := okV_size o1
    have s2 := okV_size o3
    simp only [] at s1 s2
    have hE1 := value_Encode [] xb xn xs k (by simp) (by omega) o2
    have hE2 := value_Encode [] yb yn ys k (by simp) (by omega) o4
    simp only [List.map_nil, List.nil_append] at hE1 hE2
    have l1 := encV_len ⟨xb, xn, xs⟩ k o2 (by simp only []; omega)
    have l2 := encV_len ⟨yb, yn, ys⟩ k o4 (by simp only []; omega)
    simp only [] at l1 l2
    have hS1 := value_Show xb xn xs k o2
    have hS2 := value_Show yb yn ys k o4
    obtain ⟨j, hj⟩ : ∃ j, j = min (encV ⟨xb, xn, xs⟩ k).length (encV ⟨yb, yn, ys⟩ k).length := ⟨_, rfl⟩
    have hp := enc_pre hk o1 o3 o2 o4 hj
    have hq := show_eq hk o1 o3 o2 o4
    have hv := val_eq ⟨xb, xn, xs⟩ ⟨yb, yn, ys⟩
    simp only [] at hv
    rw [← hv] at hp hq
    generalize encV ⟨xb, xn, xs⟩ k = A at *
    generalize encV ⟨yb, yn, ys⟩ k = B at *
    generalize showV ⟨xb, xn, xs⟩ k = U at *
    generalize showV ⟨yb, yn, ys⟩ k = V at *
    have hR := R01_Same (A.take j) (B.take j) (by rw [List.length_take]; omega) (by rw [List.length_take]; omega)
    rw [List.map_take, List.map_take, hp] at hR
    have hmin : (if (B.length : Int) < (A.length : Int) then (B.length : Int) else (A.length : Int)) = (j : Int) := by split <;> omega
    have j0 : (0 : Int) ≤ (j : Int) := by omega
    have j1 : (j : Int) ≤ (A.length : Int) := by omega
    have j2 : (j : Int) ≤ (B.length : Int) := by omega
    have j3 : j ≤ A.length := by omega
    have j4 : j ≤ B.length := by omega
    simp only [f_L05_ValueDistinct, hsan, g1, g2, w1, w2, w3, nz, hf1, hf2, hE1, hE2, hmin, hR, hS1, hS2, hq, j0, j1, j2, j3, j4, sliceO_to, frzO_part, beq_self_eq_true, go_sem]
theorem row_VDI (xs : List AV) (h : Args Tryd.prog [39, 5] xs) : Den prog 448 xs [] = some (.bool true, []) := by
  obtain ⟨n, x, ys, rfl, h1, h⟩ := h.one
  obtain ⟨n2, x2, ys2, rfl, h2, h⟩ := h.one
  cases h.none
  obtain ⟨ps, m, hl, rfl, hp⟩ := Sh.array h1 Tryd.underlying39
  obtain ⟨a, b, rfl⟩ : ∃ a b, ps = [a, b] := by
    match ps, hl with
    | [a, b], _ => exact ⟨a, b, rfl⟩
  obtain ⟨b1, j1, s1, rfl, q1, _⟩ := sh_valb (hp a (by simp))
  obtain ⟨b2, j2, s2, rfl, q2, _⟩ := sh_valb (hp b (by simp))
  obtain ⟨t, rfl, ht0, ht1⟩ := sh_u8 h2
  simp only [avOf, Tryd.underlying39, Tryd.underlying5, List.flatten_cons, List.flatten_nil, List.cons_append, List.nil_append, List.append_nil]
  exact law_VDI b1 j1 s1 b2 j2 s2 t q1 q2 ht0 ht1
end Go.Den
