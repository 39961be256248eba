
/- SchemaFitsMatchesReference; rows made for a schema fit it. -/
import Derived.Test.YtghipgdajgeoiaaGreatDoorS06U
import Derived.Test.YtghipgdajgeoiaaGreatDoorS06L
namespace Go.Den
open Go Go.Proofs
set_option linter.unusedSimpArgs false
set_option linter.unusedVariables false
set_option maxRecDepth 100000
set_option maxHeartbeats 1000000
theorem wrap_i32 (a : Int) : -2147483648 ≤ IntKind.wrap .i32 a ∧ IntKind.wrap .i32 a ≤ 2147483647 := by
  simp [IntKind.wrap, IntKind.bits, IntKind.signed]
  split <;> omega
theorem and1 (a : Int) : andI .i64 a 1 = a % 2 := by
  change IntKind.wrap .i64 ((BitVec.ofInt 64 a &&& BitVec.ofInt 64 1).toNat : Int) = a % 2
  have e : (BitVec.ofInt 64 a &&& BitVec.ofInt 64 1).toNat = (a % 2).toNat := by
    rw [BitVec.toNat_and]
    have h7 : (BitVec.ofInt 64 1).toNat = 2 ^ 1 - 1 := by decide
    rw [h7, Nat.and_two_pow_sub_one_eq_mod, BitVec.toNat_ofInt]
    omega
  rw [e, wrap_i64 (by omega) (by omega)]
  omega
theorem tmod_day (n : Int) : -1000000 ≤ n.tmod 1000001 ∧ n.tmod 1000001 ≤ 1000000 := by
  have h1 := Int.tmod_lt_of_pos n (show (0 : Int) < 1000001 by decide)
  have h2 : -1000001 < n.tmod 1000001 := by
    rcases Int.le_total 0 n with h | h
    · have := Int.tmod_nonneg 1000001 h; omega
    · have := Int.tmod_lt_of_pos (-n) (show (0 : Int) < 1000001 by decide)
      rw [Int.neg_tmod] at this; omega
  omega
theorem cutS_size (s : ByteArray) : ((cutS 200 s).size : Int) ≤ 200 := by
  have h1 := cutI_ge (k := 200) s (by decide)
  have h2 := cutI_le 200 s
  have h3 : cutI 200 s ≤ 200 := by unfold cutI; split <;> omega
  unfold cutS
  rw [ByteArray.size_extract]
  omega
/-- What is made for a type keeps to it. -/
theorem okV_made {v : Val} {t : Int} (ht : typeOk t = true) (hn : (madeV v t).null = false) : okV (madeV v t) t = true ∧ (i64B v.n → i64B (madeV v t).n) := by
  unfold madeV at *
  have hq := typeOk_cases ht
  rw [ht, cond_true] at hn ⊢
  unfold fitS at *
  cases hv : v.null with
  | true => rw [hv, cond_true] at hn; exact absurd hn (by decide)
  | false =>
  simp only [hv, cond_false]
  have w1 := wrap_i32 v.n
  have w2 := tmod_day v.n
  have w3 := cutS_size v.s
  have w4 := and1 v.n
  clear hn ht
  rcases hq with h | h | h | h | h <;> subst h <;> simp only [okV, decide_true, decide_false, loT, hiT, cond_true, cond_false, dt11, dt12, dt13, dt14, dt15, dt21, dt22, dt23, dt24, dt25, dt31, dt32, dt33, dt34, dt35, dt41, dt42, dt43, dt44, dt45, dt51, dt52, dt53, dt54, dt55, i64B]
  · refine ⟨?_, fun _ => by omega⟩
    simp only [Bool.and_eq_true, decide_eq_true_eq]
    exact ⟨⟨trivial, by omega⟩, by omega⟩
  · have e : IntKind.wrap .i64 (IntKind.wrap .i32 v.n) = IntKind.wrap .i32 v.n := wrap_i64 (by omega) (by omega)
    rw [e]
    refine ⟨?_, fun _ => by omega⟩
    simp only [Bool.and_eq_true, decide_eq_true_eq]
    exact ⟨⟨trivial, by omega⟩, by omega⟩
  · exact ⟨by simp, fun h => h⟩
  · refine ⟨?_, fun _ => by omega⟩
    simp only [Bool.and_eq_true, decide_eq_true_eq]
    exact ⟨trivial, w3⟩
  · refine ⟨?_, fun _ => by omega⟩
    simp only [Bool.and_eq_true, decide_eq_true_eq]
    exact ⟨⟨trivial, by omega⟩, by omega⟩
theorem getF_self {fs : List Fld} (u : UQ fs) {f : Fld} (h : f ∈ fs) : getF fs f.id = f := by
  obtain ⟨h1, h2⟩ := getF_id (hasF_mem h)
  exact uniq_mem u h2 h h1
theorem rowS_fits {fs : List Fld} {next : Int} (s : SV fs next) : ∀ (L : List Fld) (raw : List Val) (p : Int), (∀ f ∈ L, f ∈ fs) → L.Pairwise (fun a b => a.id < b.id) → (∀ f ∈ L, p < f.id) → fitsS fs p (rowS L raw) = true
  | [], raw, p, _, _, _ => by simp [rowS, fitsS]
  | f :: r, [], p, _, _, _ => by simp [rowS, fitsS]
  | f :: r, v :: q, p, hm, hp, hl => by
    obtain ⟨p1, p2⟩ := List.pairwise_cons.1 hp
    have skip := rowS_fits s r q p (fun g hg => hm g (by simp [hg])) p2 (fun g hg => hl g (by simp [hg]))
    rw [rowS]
    cases h1 : decide (f.type = 6) || v.null with
    | true => exact skip
    | false =>
      rw [cond_false]
      cases h2 : (madeV v f.type).null with
      | true => exact skip
      | false =>
        have go := rowS_fits s r q f.id (fun g hg => hm g (by simp [hg])) p2 p1
        have hf := hm f (by simp)
        rw [cond_false, fitsS, go, Bool.and_true]
        simp only [Bool.or_eq_false_iff, decide_eq_false_iff_not] at h1
        have ht : typeOk f.type = true := by have := s.ty f hf; simp [typeOk]; omega
        have h3 : decide (f.type = 6) = false := by simpa using h1.1
        have h4 := hl f (by simp)
        simp only [fitC, hasF_mem hf, getF_self s.n.q hf, h2, h3, ht, (okV_made ht h2).1, h4, decide_true, Bool.and_self, Bool.not_false]
theorem rowS_bnd {fs : List Fld} {next : Int} (s : SV fs next) : ∀ (L : List Fld) (raw : List Val), (∀ f ∈ L, f ∈ fs) → (∀ v ∈ raw, i64B v.n) → ∀ c ∈ rowS L raw, i64B c.v.n
  | [], raw, _, _ => by simp [rowS]
  | f :: r, [], _, _ => by simp [rowS]
  | f :: r, v :: q, hm, hb => by
    have go := rowS_bnd s r q (fun g hg => hm g (by simp [hg])) (fun g hg => hb g (by simp [hg]))
    rw [rowS]
    cases h1 : decide (f.type = 6) || v.null with
    | true => exact go
    | false =>
      rw [cond_false]
      cases h2 : (madeV v f.type).null with
      | true => exact go
      | false =>
        rw [cond_false]
        intro c hc
        rcases List.mem_cons.1 hc with rfl | hc
        · simp only [Bool.or_eq_false_iff, decide_eq_false_iff_not] at h1
          have ht : typeOk f.type = true := by have := s.ty f (hm f (by simp)); simp [typeOk]; omega
          exact (okV_made ht h2).2 (hb v (by simp))
        · exact go c hc
end Go.Den
