/- Encodings: what is decoded is what was encoded. -/
import Derived.Test.YtfjaimkpmehojaaGreatS5B
namespace Go.Den
open Go
set_option linter.unusedSimpArgs false
set_option linter.unusedVariables false
set_option maxRecDepth 100000
set_option maxHeartbeats 1000000
theorem encV_ok {v : Val} {t : Int} (ht : typeOk t = true) (ho : okV v t = true) : encV v t = bif v.null then [0] else bif decide (t = 4) then 1 :: (leb v.s.size ++ v.s.data.toList) else 1 :: leb (zz v.n) := by
  unfold encV; rw [ht, ho]; rfl
theorem dec_enc (pre rest : List UInt8) (v : Val) (t : Int) (ht : typeOk t = true) (ho : okV v t = true) (hi : InB v) : decV (pre ++ (encV v t ++ rest)) pre.length t = (v, (pre.length : Int) + (encV v t).length, 0) := by
  have main : readV (pre ++ (encV v t ++ rest)) pre.length t = (v, (pre.length : Int) + (encV v t).length, 0) := by
    rw [encV_ok ht ho]
    unfold readV
    rw [ht, Bool.not_true, cond_false]
    cases hn : v.null with
    | true =>
      have e1 : decide ((pre.length : Int) < 0) = false := by rw [decide_eq_false_iff_not]; omega
      have e2 : decide (((pre ++ ([0] ++ rest)).length : Int) < pre.length) = false := by rw [decide_eq_false_iff_not]; simp; omega
      have e3 : decide ((pre.length : Int) = ((pre ++ ([0] ++ rest)).length : Int)) = false := by rw [decide_eq_false_iff_not]; simp; omega
      have e4 : getE (pre ++ ([0] ++ rest)) (pre.length : Int) = some 0 := by rw [getE_nat]; simp
      rw [cond_true, e1, e2, e3, e4, okV5_null ho hn]
      rfl
    | false =>
      rw [cond_false]
      cases h4 : decide (t = 4) with
      | true =>
        have t4 : t = 4 := by simpa using h4
        obtain ⟨v0, v2⟩ := okV5_text (t4 ▸ ho) hn
        have hl : v.s.data.toList.length = v.s.size := rfl
        rw [cond_true]
        have hr := rU_leb (pre ++ [1]) (v.s.data.toList ++ rest) v.s.size (by omega)
        have eB : pre ++ [1] ++ (leb v.s.size ++ (v.s.data.toList ++ rest)) = pre ++ (1 :: (leb v.s.size ++ v.s.data.toList) ++ rest) := by simp
        rw [eB] at hr
        have eL : (pre ++ (1 :: (leb v.s.size ++ v.s.data.toList) ++ rest)).length = pre.length + 1 + (leb v.s.size).length + v.s.size + rest.length := by simp only [List.length_append, List.length_cons, hl]; omega
        have eD : (pre ++ (1 :: (leb v.s.size ++ v.s.data.toList) ++ rest)).drop (pre.length + 1 + (leb v.s.size).length) = v.s.data.toList ++ rest := by
          rw [← eB, ← List.append_assoc, List.drop_append_of_le_length (by simp; omega), List.drop_of_length_le (by simp; omega), List.nil_append]
        have e4 : getE (pre ++ (1 :: (leb v.s.size ++ v.s.data.toList) ++ rest)) (pre.length : Int) = some 1 := by rw [getE_nat]; simp
        generalize pre ++ (1 :: (leb v.s.size ++ v.s.data.toList) ++ rest) = B at *
        have e1 : decide ((pre.length : Int) < 0) = false := by rw [decide_eq_false_iff_not]; omega
        have e2 : decide ((B.length : Int) < pre.length) = false := by rw [decide_eq_false_iff_not]; omega
        have e3 : decide ((pre.length : Int) = (B.length : Int)) = false := by rw [decide_eq_false_iff_not]; omega
        rw [List.length_append, List.length_cons, List.length_nil] at hr
        rw [show ((pre.length + (0 + 1) : Nat) : Int) = (pre.length : Int) + 1 by omega] at hr
        have hs : spanS B ((pre.length : Int) + 1) = ((pre.length : Int) + 1 + (leb v.s.size).length, (pre.length : Int) + 1 + (leb v.s.size).length + v.s.size, 0) := by
          unfold spanS
          rw [hr]
          simp only []
          rw [decide_eq_false (show ¬ 1048576 < v.s.size by omega), decide_eq_false (show ¬ (B.length : Int) - ((pre.length : Int) + 1 + (leb v.s.size).length) < v.s.size by omega)]
          simp
        have hT : rT B ((pre.length : Int) + 1) = (v.s.data.toList, (pre.length : Int) + 1 + (leb v.s.size).length + v.s.size, 0) := by
          unfold rT
          rw [hs]
          simp only []
          rw [show ((pre.length : Int) + 1 + (leb v.s.size).length).toNat = pre.length + 1 + (leb v.s.size).length by omega, eD, show ((pre.length : Int) + 1 + (leb v.s.size).length + v.s.size).toNat - (pre.length + 1 + (leb v.s.size).length) = v.s.data.toList.length by omega, List.take_left]
        rw [e1, e2, e3, e4, hT]
        have hv : v = ⟨false, 0, v.s⟩ := by
          obtain ⟨a, b, c⟩ := v
          simp only [] at hn v0
          rw [hn, v0]
        have hc : ({ data := v.s.data.toList.toArray } : ByteArray) = v.s := by apply ByteArray.ext; simp
        simp only [Bool.or_self, cond_false, cond_true]
        show (_ : Val × Int × Int) = _
        rw [show decide ((1 : UInt8).toNat = 0) = false from rfl, show decide ((1 : UInt8).toNat = 1) = true from rfl]
        simp only [cond_false, cond_true, hc]
        rw [← hv]
        have : (1 :: (leb v.s.size ++ v.s.data.toList)).length = 1 + (leb v.s.size).length + v.s.size := by simp only [List.length_cons, List.length_append, hl]; omega
        rw [this]
        refine Prod.ext rfl (Prod.ext ?_ rfl)
        simp only []
        omega
      | false =>
        have t4 : t ≠ 4 := by simpa using h4
        have vs := okV5_num ho hn t4
        rw [cond_false]
        have hr := rU_leb (pre ++ [1]) rest (zz v.n) (zz_lt hi.1 hi.2)
        have eB : pre ++ [1] ++ (leb (zz v.n) ++ rest) = pre ++ (1 :: leb (zz v.n) ++ rest) := by simp
        rw [eB] at hr
        have eL : (pre ++ (1 :: leb (zz v.n) ++ rest)).length = pre.length + 1 + (leb (zz v.n)).length + rest.length := by simp only [List.length_append, List.length_cons]; omega
        have e4 : getE (pre ++ (1 :: leb (zz v.n) ++ rest)) (pre.length : Int) = some 1 := by rw [getE_nat]; simp
        generalize pre ++ (1 :: leb (zz v.n) ++ rest) = B at *
        have e1 : decide ((pre.length : Int) < 0) = false := by rw [decide_eq_false_iff_not]; omega
        have e2 : decide ((B.length : Int) < pre.length) = false := by rw [decide_eq_false_iff_not]; omega
        have e3 : decide ((pre.length : Int) = (B.length : Int)) = false := by rw [decide_eq_false_iff_not]; omega
        rw [List.length_append, List.length_cons, List.length_nil] at hr
        rw [show ((pre.length + (0 + 1) : Nat) : Int) = (pre.length : Int) + 1 by omega] at hr
        rw [e1, e2, e3, e4]
        have hv : v = ⟨false, v.n, ⟨#[]⟩⟩ := by
          obtain ⟨a, b, c⟩ := v
          simp only [] at hn vs ⊢
          rw [hn, vs]
        unfold rS
        rw [hr]
        simp only [Bool.or_self, cond_false, cond_true]
        rw [show decide ((1 : UInt8).toNat = 0) = false from rfl, show decide ((1 : UInt8).toNat = 1) = true from rfl]
        simp only [cond_false, cond_true, unzz_zz]
        rw [← hv]
        refine Prod.ext rfl (Prod.ext ?_ rfl)
        simp only [List.length_cons]
        omega
  unfold decV doneV
  rw [main]
  simp only []
  rw [ht, ho]
  rfl
theorem dec_bad (b : List UInt8) (a t : Int) (h : (decV b a t).2.2 ≠ 0) : (decV b a t).1 = noV ∧ (decV b a t).2.1 = 0 := by
  unfold decV doneV at h ⊢
  generalize readV b a t = r at *
  cases d : decide (r.2.2 = 0) with
  | false => simp
  | true =>
    rw [d] at h
    simp only [Bool.not_true, cond_false] at h ⊢
    cases dv : typeOk t && okV r.1 t with
    | false => simp
    | true =>
      rw [dv] at h
      simp at d
      exact absurd d h
theorem readV_can (b : List UInt8) (a t : Int) (h : (readV b a t).2.2 = 0) (ht : typeOk t = true) : 0 ≤ a ∧ a ≤ b.length ∧
    (((readV b a t).1 = nullV ∧ ∃ rest, b.drop a.toNat = 0 :: rest ∧ (readV b a t).2.1 = a + 1) ∨
     (t = 4 ∧ ∃ l rest : List UInt8, (readV b a t).1 = ⟨false, 0, ba l⟩ ∧ b.drop a.toNat = 1 :: (leb l.length ++ (l ++ rest)) ∧ (readV b a t).2.1 = a + 1 + (leb l.length).length + l.length) ∨
     (t ≠ 4 ∧ ∃ (n : Int) (rest : List UInt8), (readV b a t).1 = ⟨false, n, ⟨#[]⟩⟩ ∧ b.drop a.toNat = 1 :: (leb (zz n) ++ rest) ∧ (readV b a t).2.1 = a + 1 + (leb (zz n)).length)) := by
  unfold readV at h ⊢
  cases d0 : (decide (a < 0) || decide ((b.length : Int) < a)) with
  | true => rw [d0] at h; simp at h
  | false =>
    rw [d0] at h
    simp only [Bool.or_eq_false_iff, decide_eq_false_iff_not] at d0
    refine ⟨by omega, by omega, ?_⟩
    rw [ht] at h ⊢
    simp only [Bool.not_true, cond_false] at h ⊢
    cases d1 : decide (a = (b.length : Int)) with
    | true => rw [d1] at h; simp at h
    | false =>
      rw [d1] at h
      rw [decide_eq_false_iff_not] at d1
      obtain ⟨k, rfl⟩ := Int.eq_ofNat_of_zero_le (show 0 ≤ a by omega)
      have hk : k < b.length := by omega
      have e4 : getE b (k : Int) = some b[k] := by rw [getE_nat]; simp
      have eD : b.drop k = b[k] :: b.drop (k + 1) := List.drop_eq_getElem_cons hk
      rw [e4] at h ⊢
      simp only [cond_false, Int.toNat_natCast] at h ⊢
      rw [eD]
      generalize b[k] = c at *
      cases d2 : decide (c.toNat = 0) with
      | true =>
        left
        have : c = 0 := by apply UInt8.toNat_inj.1; simpa using d2
        subst this
        exact ⟨rfl, _, rfl, rfl⟩
      | false =>
        rw [d2] at h
        cases d3 : decide (c.toNat = 1) with
        | false => rw [d3] at h; simp at h
        | true =>
          rw [d3] at h
          have : c = 1 := by apply UInt8.toNat_inj.1; simpa using d3
          subst this
          right
          simp only [cond_false, cond_true] at h ⊢
          cases d4 : decide (t = 4) with
          | true =>
            left
            refine ⟨by simpa using d4, ?_⟩
            rw [d4] at h
            simp only [cond_true] at h ⊢
            have hs : (rU b ((k : Int) + 1)).2.2 = 0 ∧ (rU b ((k : Int) + 1)).1 ≤ 1048576 ∧ ((rU b ((k : Int) + 1)).1 : Int) ≤ (b.length : Int) - (rU b ((k : Int) + 1)).2.1 ∧ spanS b ((k : Int) + 1) = ((rU b ((k : Int) + 1)).2.1, (rU b ((k : Int) + 1)).2.1 + (rU b ((k : Int) + 1)).1, 0) := by
              unfold rT at h
              simp only [] at h
              unfold spanS at h ⊢
              cases q0 : decide ((rU b ((k : Int) + 1)).2.2 = 0) with
              | false =>
                rw [q0] at h
                simp at h q0
                exact absurd h q0
              | true =>
                rw [q0] at h
                simp only [Bool.not_true, cond_false] at h ⊢
                cases q1 : decide (1048576 < (rU b ((k : Int) + 1)).1) with
                | true => rw [q1] at h; simp at h
                | false =>
                  rw [q1] at h
                  simp only [cond_false] at h ⊢
                  cases q2 : decide ((b.length : Int) - (rU b ((k : Int) + 1)).2.1 < (rU b ((k : Int) + 1)).1) with
                  | true => rw [q2] at h; simp at h
                  | false =>
                    simp at q0 q1 q2
                    exact ⟨q0, by omega, by omega, rfl⟩
            obtain ⟨s1, s2, s3, s4⟩ := hs
            obtain ⟨rest, r1, r2⟩ := rU_can b _ s1
            unfold rT
            rw [s4]
            simp only []
            rw [show ((k : Int) + 1).toNat = k + 1 by omega] at r1
            rw [r1]
            have eM : b.drop (rU b ((k : Int) + 1)).2.1.toNat = rest := by
              rw [r2, show ((k : Int) + 1 + ((leb (rU b ((k : Int) + 1)).1).length : Int)).toNat = (k + 1) + (leb (rU b ((k : Int) + 1)).1).length by omega, ← List.drop_drop, r1, List.drop_left]
            have eN : ((rU b ((k : Int) + 1)).2.1 + ((rU b ((k : Int) + 1)).1 : Int)).toNat - (rU b ((k : Int) + 1)).2.1.toNat = (rU b ((k : Int) + 1)).1 := by omega
            have eR : (rU b ((k : Int) + 1)).1 ≤ rest.length := by
              have := congrArg List.length eM
              simp at this
              omega
            rw [eM, eN, r2]
            generalize (rU b ((k : Int) + 1)).1 = n at *
            refine ⟨rest.take n, rest.drop n, rfl, ?_, ?_⟩
            · rw [List.take_append_drop, List.length_take, Nat.min_eq_left eR]
            · rw [List.length_take, Nat.min_eq_left eR]
          | false =>
            right
            refine ⟨by simpa using d4, ?_⟩
            rw [d4] at h
            simp only [cond_false] at h ⊢
            unfold rS at h ⊢
            simp only [] at h ⊢
            obtain ⟨rest, r1, r2⟩ := rU_can b _ h
            rw [show ((k : Int) + 1).toNat = k + 1 by omega] at r1
            rw [r1, r2]
            exact ⟨_, rest, rfl, by rw [zz_unzz], by rw [zz_unzz]⟩
theorem dec_can (b : List UInt8) (a t : Int) (h : (decV b a t).2.2 = 0) : 0 ≤ a ∧ a ≤ b.length ∧ typeOk t = true ∧ okV (decV b a t).1 t = true ∧ InB (decV b a t).1 ∧ ∃ rest, b.drop a.toNat = encV (decV b a t).1 t ++ rest ∧ (decV b a t).2.1 = a + (encV (decV b a t).1 t).length := by
  have hn := readV_n b a t
  have hd : decV b a t = readV b a t ∧ (readV b a t).2.2 = 0 ∧ (typeOk t && okV (readV b a t).1 t) = true := by
    unfold decV doneV at h ⊢
    cases d : decide ((readV b a t).2.2 = 0) with
    | false =>
      rw [d] at h
      simp at d h
      exact absurd h d
    | true =>
      rw [d] at h
      simp only [Bool.not_true, cond_false] at h ⊢
      cases dv : typeOk t && okV (readV b a t).1 t with
      | false => rw [dv] at h; simp at h
      | true => exact ⟨rfl, by simpa using d, rfl⟩
  obtain ⟨e1, e2, e3⟩ := hd
  rw [e1]
  simp only [Bool.and_eq_true] at e3
  obtain ⟨b0, b1, hc⟩ := readV_can b a t e2 e3.1
  refine ⟨b0, b1, e3.1, e3.2, hn, ?_⟩
  rw [encV_ok e3.1 e3.2]
  rcases hc with ⟨c1, rest, c2, c3⟩ | ⟨c0, l, rest, c1, c2, c3⟩ | ⟨c0, n, rest, c1, c2, c3⟩
  · rw [c1, c2, c3]
    exact ⟨rest, rfl, rfl⟩
  · rw [c1, c2, c3, c0]
    simp only [cond_false, decide_true, cond_true, ba_data, ba_size]
    exact ⟨rest, by simp, by simp; omega⟩
  · rw [c1, c2, c3]
    simp only [cond_false, decide_eq_false c0]
    exact ⟨rest, by simp, by simp; omega⟩
end Go.Den
