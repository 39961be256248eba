/- What the reference shows; what both parse. -/
import Derived.Test.YtimlnhpiddfbaaaGreatDoorS5S
namespace Go.Den
open Go
set_option linter.unusedSimpArgs false
set_option linter.unusedVariables false
set_option maxRecDepth 100000
set_option maxHeartbeats 1000000
theorem R05_Show (b : Bool) (n : Int) (s : ByteArray) (t : Int) (hn : -9223372036854775808 ≤ n ∧ n ≤ 9223372036854775807) : Den prog 462 [.agg [.bool b, .int .i64 n, .str s], .int .i64 t] [] = some (.str (ba (showV ⟨b, n, s⟩ t)), []) := by
  rw [Den_ofK [] pr_R05_Show rfl]
  have hv := R05_Valid b n s t
  have ce : (⟨#[]⟩ : ByteArray) = ba [] := rfl
  have cn : (⟨#[110, 117, 108, 108]⟩ : ByteArray) = ba nullB := rfl
  have ct : (⟨#[116, 114, 117, 101]⟩ : ByteArray) = ba [116, 114, 117, 101] := rfl
  have cf : (⟨#[102, 97, 108, 115, 101]⟩ : ByteArray) = ba [102, 97, 108, 115, 101] := rfl
  have cba : ∀ l : List UInt8, (⟨l.toArray⟩ : ByteArray) = ba l := fun _ => rfl
  unfold showV
  simp only []
  cases d0 : (typeOk t && okV ⟨b, n, s⟩ t) with
  | false =>
    rw [d0] at hv
    simp only [f_R05_Show, hv, Bool.not_false, cond_true, ce, go_sem]
  | true =>
    rw [d0] at hv
    have hok : okV ⟨b, n, s⟩ t = true := by rw [Bool.and_eq_true] at d0; exact d0.2
    cases b with
    | true => simp only [f_R05_Show, hv, Bool.not_true, cond_true, cond_false, cn, go_sem]
    | false =>
      cases d1 : decide (t = 1) with
      | true =>
        unfold boolB
        cases dn : decide (n = 1) <;>
        simp only [f_R05_Show, hv, d1, dn, ct, cf, Bool.not_true, cond_true, cond_false, go_sem]
      | false =>
      cases d4 : decide (t = 4) with
      | true =>
        have ht : t = 4 := by simpa using d4
        subst ht
        have hs := okV_text hok rfl
        have hq := R05_quoted s (by omega)
        generalize quoteL s.data.toList = Q at *
        simp only [f_R05_Show, hv, d1, d4, hq, strOf_bytes, cba, Bool.not_true, cond_true, cond_false, go_sem]
      | false =>
      cases d5 : decide (t = 5) with
      | true =>
        have ht : t = 5 := by simpa using d5
        subst ht
        obtain ⟨h0, h1⟩ := okV_day hok rfl
        have hd := R05_date n h0 h1
        obtain ⟨y0, y1⟩ := year_bnd h0 h1
        have hm := mon_bnd (n + 719468)
        have hdd := dom_bnd (n + 719468)
        obtain ⟨V1, p1⟩ := R05_signed (yearZ (n + 719468)) 4 (by omega) (by omega) (by decide)
        obtain ⟨V2, p2⟩ := R05_decimal (monZ (n + 719468)) 2 (by omega) (by decide)
        obtain ⟨V3, p3⟩ := R05_decimal (domZ (n + 719468) + 1) 2 (by omega) (by decide)
        rw [show ((4 : Nat) : Int) = 4 from rfl] at p1
        rw [show ((2 : Nat) : Int) = 2 from rfl] at p2 p3
        have l1 := sgn_len (yearZ (n + 719468)) 4
        have l2 := padF_le 25 (monZ (n + 719468)) 2
        have l3 := padF_le 25 (domZ (n + 719468) + 1) 2
        unfold dayB
        have e2 : sgnL (monZ (n + 719468)) 2 = padF 25 (monZ (n + 719468)) 2 := by
          unfold sgnL; rw [decide_eq_false (by omega), cond_false, Int.natAbs_natCast]
        have e3 : sgnL ((domZ (n + 719468) : Int) + 1) 2 = padF 25 (domZ (n + 719468) + 1) 2 := by
          unfold sgnL; rw [decide_eq_false (by omega), cond_false, show ((domZ (n + 719468) : Int) + 1).natAbs = domZ (n + 719468) + 1 by omega]
        rw [e2, e3]
        have u2 : IntKind.wrap .u64 (monZ (n + 719468) : Int) = (monZ (n + 719468) : Int) := wrap_u64 (by omega) (by omega)
        have u3 : IntKind.wrap .u64 ((domZ (n + 719468) : Int) + 1) = ((domZ (n + 719468) + 1 : Nat) : Int) := by rw [wrap_u64 (by omega) (by omega)]; omega
        generalize sgnL (yearZ (n + 719468)) 4 = Y at *
        generalize padF 25 (monZ (n + 719468)) 2 = M at *
        generalize padF 25 (domZ (n + 719468) + 1) 2 = D at *
        generalize yearZ (n + 719468) = y at *
        generalize monZ (n + 719468) = m at *
        generalize hddd : domZ (n + 719468) = dd at *
        generalize dd + 1 = dd1 at *
        have b45 : bcell 45 = [AV.int .u8 45] := rfl
        have g1 : (Y.length + 1) * 1 ≤ 140737488355328 := by omega
        have g2 : (Y.length + 1 + M.length) * 1 ≤ 140737488355328 := by omega
        have g3 : (Y.length + 1 + M.length + 1) * 1 ≤ 140737488355328 := by omega
        have g4 : (Y.length + 1 + M.length + 1 + D.length) * 1 ≤ 140737488355328 := by omega
        have L1 : Y.length + (M.length + 1) = Y.length + 1 + M.length := by omega
        have L2 : Y.length + (M.length + 1 + 1) = Y.length + 1 + M.length + 1 := by omega
        have L3 : Y.length + (M.length + (D.length + 1) + 1) = Y.length + 1 + M.length + 1 + D.length := by omega
        have hstr : strOf (Y.map bcell ++ ([AV.int .u8 45] :: (M.map bcell ++ ([AV.int .u8 45] :: D.map bcell)))) = some (Y ++ (45 :: (M ++ (45 :: D)))) := by
          have := strOf_bytes (Y ++ (45 :: (M ++ (45 :: D))))
          simpa [bcell] using this
        simp only [f_R05_Show, hv, hd, p1, p2, p3, u2, u3, d1, d4, d5, g1, g2, g3, g4, L1, L2, L3, hstr, cba, Bool.not_true, cond_true, cond_false, go_sem]
      | false =>
        obtain ⟨V, hf⟩ := R05_signed n 1 hn.1 hn.2 (by decide)
        rw [show ((1 : Nat) : Int) = 1 from rfl] at hf
        generalize sgnL n 1 = Q at *
        simp only [f_R05_Show, hv, d1, d4, d5, hf, strOf_bytes, cba, Bool.not_true, cond_true, cond_false, go_sem]
end Go.Den
