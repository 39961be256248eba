
/- What a translation keeps. -/
import Derived.Test.YtghipgdajgeoiaaGreatDoorS07U
namespace Go.Den
open Go
set_option linter.unusedSimpArgs false
set_option linter.unusedVariables false
set_option maxRecDepth 100000
set_option maxHeartbeats 1000000
def le2 (u t : Int) : Prop := t = u ∨ (u = 2 ∧ t = 3)
theorem eff_ty {T T' : Int → Option Int} {c : Chg} {n : Int} (e : Eff T T' c n) {j t : Int} (h : T' j = some t) (hj : j < n) : ∃ u, T j = some u ∧ le2 u t := by
  rcases e with ⟨_, t0, q⟩ | ⟨_, q⟩ | ⟨_, q⟩ | ⟨_, h2, q⟩ | ⟨_, h4, q⟩ | ⟨_, h4, w4, hne, q⟩ <;> rw [q] at h
  · rw [if_neg (by omega)] at h; exact ⟨t, h, .inl rfl⟩
  · split at h
    · exact absurd h (by simp)
    · exact ⟨t, h, .inl rfl⟩
  · exact ⟨t, h, .inl rfl⟩
  · split at h
    · rename_i ej; cases h; rw [ej]; exact ⟨2, h2, .inr ⟨rfl, rfl⟩⟩
    · exact ⟨t, h, .inl rfl⟩
  · rw [if_neg (by omega)] at h
    split at h
    · exact absurd h (by simp)
    · exact ⟨t, h, .inl rfl⟩
  · rw [if_neg (by omega)] at h
    split at h
    · exact absurd h (by simp)
    · exact ⟨t, h, .inl rfl⟩
theorem Chain.mono {L : List Chg} {k : Nat} (h : Chain L (k + 1)) : (stA L k).next ≤ (stA L (k + 1)).next := by
  obtain ⟨c, _, _, h3, _, h5⟩ := h.step
  have := (applyC_ev (stA L k).fs (stA L k).next c h3).1
  omega
theorem Chain.monoN {L : List Chg} {m : Nat} (h : Chain L m) : ∀ (d k : Nat), k + d = m → (stA L k).next ≤ (stA L m).next
  | 0, k, e => by rw [show k = m by omega]; omega
  | d + 1, k, e => by
    have h1 := (h.down (show k + 1 ≤ m by omega)).mono
    have h2 := h.monoN d (k + 1) (by omega)
    omega
theorem ty_down {L : List Chg} {m : Nat} (h : Chain L m) {j t : Int} (ht : tyF (stA L m).fs j = some t) : ∀ (d k : Nat), k + d = m → j < (stA L k).next → ∃ u, tyF (stA L k).fs j = some u ∧ le2 u t
  | 0, k, e, _ => by rw [show k = m by omega]; exact ⟨t, ht, .inl rfl⟩
  | d + 1, k, e, hj => by
    have hc := h.down (show k + 1 ≤ m by omega)
    have hm := hc.mono
    obtain ⟨u1, h1, h2⟩ := ty_down h ht d (k + 1) (by omega) (by omega)
    obtain ⟨c, hcc, _⟩ := hc.step
    obtain ⟨u, h3, h4⟩ := eff_ty (hc.eff hcc) h1 hj
    refine ⟨u, h3, ?_⟩
    unfold le2 at *
    omega
/-- A field that two schemas of a list have with the same type has it between them. -/
theorem ty_between {L : List Chg} {m : Nat} (h : Chain L m) {p q : Nat} (hpq : p ≤ q) (hq : q ≤ m) {j t : Int} (hp : tyF (stA L p).fs j = some t) (ht : tyF (stA L q).fs j = some t) (k : Nat) (h1 : p ≤ k) (h2 : k ≤ q) : tyF (stA L k).fs j = some t := by
  have hjp := ((h.down (show p ≤ m by omega)).sv.bd j t hp).2
  have hk := h.down (show k ≤ m by omega)
  have hmn := hk.monoN (k - p) p (by omega)
  obtain ⟨u, u1, u2⟩ := ty_down (h.down hq) ht (q - k) k (by omega) (by omega)
  obtain ⟨v, v1, v2⟩ := ty_down hk u1 (k - p) p (by omega) hjp
  rw [hp] at v1; cases v1
  rw [u1]
  unfold le2 at *
  congr 1
  omega
theorem getC_apart {r : List Cell} (s : Srt r) {a x y j : Int} (t : ByteArray) (ha : j ≠ a) (hx : j ≠ x) (hy : j ≠ y) : getC (apartL r a x y t) j = getC r j := by
  unfold apartL
  have s0 := putL_srt s a nullV
  cases (getC r a).null with
  | true => simp only [cond_true]; rw [getC_put s, if_neg ha]
  | false => simp only [cond_false]; rw [getC_put (putL_srt s0 _ _), if_neg hy, getC_put s0, if_neg hx, getC_put s, if_neg ha]
theorem keep_fwd {T T' : Int → Option Int} {c : Chg} {n : Int} (e : Eff T T' c n) (bd : Bd T n) {r : List Cell} (s : Srt r) {j t t' : Int} (h : T j = some t) (h' : T' j = some t') : getC (fwdL c n r) j = getC r j := by
  have hb := bd j t h
  unfold fwdL
  rcases e with ⟨k, t0, q⟩ | ⟨k, q⟩ | ⟨k, q⟩ | ⟨k, h2, q⟩ | ⟨k, h4, q⟩ | ⟨k, h4, w4, hne, q⟩
  · have e2 : decide (c.kind = 2) = false := by simp; omega
    have e6 : decide (c.kind = 6) = false := by simp; omega
    have e7 : decide (c.kind = 7) = false := by simp; omega
    simp only [e2, e6, e7, cond_false]
  · have e2 : decide (c.kind = 2) = true := by simpa using k
    have hj : j ≠ c.id := by intro e; rw [q, if_pos e] at h'; exact absurd h' (by simp)
    simp only [e2, cond_true]
    rw [getC_put s, if_neg hj]
  · have e2 : decide (c.kind = 2) = false := by simp; omega
    have e6 : decide (c.kind = 6) = false := by simp; omega
    have e7 : decide (c.kind = 7) = false := by simp; omega
    simp only [e2, e6, e7, cond_false]
  · have e2 : decide (c.kind = 2) = false := by simp; omega
    have e6 : decide (c.kind = 6) = false := by simp; omega
    have e7 : decide (c.kind = 7) = false := by simp; omega
    simp only [e2, e6, e7, cond_false]
  · have e2 : decide (c.kind = 2) = false := by simp; omega
    have e6 : decide (c.kind = 6) = true := by simpa using k
    have hj : j ≠ c.id := by intro e; rw [q, if_neg (by omega), if_pos e] at h'; exact absurd h' (by simp)
    simp only [e2, e6, cond_true, cond_false]
    exact getC_apart s _ hj (by omega) (by omega)
  · have e2 : decide (c.kind = 2) = false := by simp; omega
    have e6 : decide (c.kind = 6) = false := by simp; omega
    have e7 : decide (c.kind = 7) = true := by simpa using k
    have hj : j ≠ c.id ∧ j ≠ c.wi := by
      constructor
      · intro e; rw [q, if_neg (by omega), if_pos (.inl e)] at h'; exact absurd h' (by simp)
      · intro e; rw [q, if_neg (by omega), if_pos (.inr e)] at h'; exact absurd h' (by simp)
    simp only [e2, e6, e7, cond_true, cond_false]
    rw [getC_put (putL_srt (putL_srt s _ _) _ _), if_neg (by omega), getC_put (putL_srt s _ _), if_neg hj.2, getC_put s, if_neg hj.1]
theorem keep_bak {T T' : Int → Option Int} {c : Chg} {n : Int} (e : Eff T T' c n) (bd : Bd T n) {r : List Cell} (s : Srt r) {j t : Int} (h : T j = some t) (h' : T' j = some t) : getC (bakL c n r) j = getC r j := by
  have hb := bd j t h
  unfold bakL
  rcases e with ⟨k, t0, q⟩ | ⟨k, q⟩ | ⟨k, q⟩ | ⟨k, h2, q⟩ | ⟨k, h4, q⟩ | ⟨k, h4, w4, hne, q⟩
  · have e1 : decide (c.kind = 1) = true := by simpa using k
    simp only [e1, cond_true]
    rw [getC_put s, if_neg (by omega)]
  · have e1 : decide (c.kind = 1) = false := by simp; omega
    have e4 : decide (c.kind = 4) = false := by simp; omega
    have e6 : decide (c.kind = 6) = false := by simp; omega
    have e7 : decide (c.kind = 7) = false := by simp; omega
    simp only [e1, e4, e6, e7, cond_false]
  · have e1 : decide (c.kind = 1) = false := by simp; omega
    have e4 : decide (c.kind = 4) = false := by simp; omega
    have e6 : decide (c.kind = 6) = false := by simp; omega
    have e7 : decide (c.kind = 7) = false := by simp; omega
    simp only [e1, e4, e6, e7, cond_false]
  · have e1 : decide (c.kind = 1) = false := by simp; omega
    have e4 : decide (c.kind = 4) = true := by simpa using k
    have hj : j ≠ c.id := by
      intro e
      rw [q, if_pos e] at h'
      rw [e, h2] at h
      rw [← h] at h'; exact absurd h' (by decide)
    simp only [e1, e4, cond_true, cond_false]
    unfold narrowL
    cases decide ((getC r c.id).n < -2147483648) || decide (2147483647 < (getC r c.id).n) with
    | true => simp only [cond_true]; rw [getC_put s, if_neg hj]
    | false => rfl
  · have e1 : decide (c.kind = 1) = false := by simp; omega
    have e4 : decide (c.kind = 4) = false := by simp; omega
    have e6 : decide (c.kind = 6) = true := by simpa using k
    have hj : j ≠ c.id := by intro e; rw [q, if_neg (by omega), if_pos e] at h'; exact absurd h' (by simp)
    simp only [e1, e4, e6, cond_true, cond_false]
    rw [getC_put (putL_srt (putL_srt s _ _) _ _), if_neg hj, getC_put (putL_srt s _ _), if_neg (by omega), getC_put s, if_neg (by omega)]
  · have e1 : decide (c.kind = 1) = false := by simp; omega
    have e4 : decide (c.kind = 4) = false := by simp; omega
    have e6 : decide (c.kind = 6) = false := by simp; omega
    have e7 : decide (c.kind = 7) = true := by simpa using k
    have hj : j ≠ c.id ∧ j ≠ c.wi := by
      constructor
      · intro e; rw [q, if_neg (by omega), if_pos (.inl e)] at h'; exact absurd h' (by simp)
      · intro e; rw [q, if_neg (by omega), if_pos (.inr e)] at h'; exact absurd h' (by simp)
    simp only [e1, e4, e6, e7, cond_true, cond_false]
    exact getC_apart s _ (by omega) hj.1 hj.2
theorem fwdN_keep {L : List Chg} {m : Nat} (h : Chain L m) {j t : Int} : ∀ (k i : Nat) {r : List Cell}, i + k ≤ m → ftA L i r → (∀ q, i ≤ q → q ≤ i + k → tyF (stA L q).fs j = some t) → getC (fwdN L i k r) j = getC r j
  | 0, i, r, _, _, _ => rfl
  | k + 1, i, r, hk, f, ht => by
    have hc1 := h.down (show i + 1 ≤ m by omega)
    obtain ⟨c, hc, _⟩ := hc1.step
    rw [fwdN, hc]
    simp only []
    rw [fwdN_keep h k (i + 1) (by omega) (fwd_step hc1 hc f) (fun q h1 h2 => ht q (by omega) (by omega))]
    exact keep_fwd (hc1.eff hc) (hc1.down (Nat.le_succ i)).sv.bd f.srt (ht i (by omega) (by omega)) (ht (i + 1) (by omega) (by omega))
theorem bakN_keep {L : List Chg} {m : Nat} (h : Chain L m) {j t : Int} : ∀ (k i : Nat) {r : List Cell}, i ≤ m → k ≤ i → ftA L i r → (∀ q, i - k ≤ q → q ≤ i → tyF (stA L q).fs j = some t) → getC (bakN L i k r) j = getC r j
  | 0, i, r, _, _, _, _ => by cases i <;> rfl
  | k + 1, 0, r, _, hk, _, _ => absurd hk (by omega)
  | k + 1, i + 1, r, hi, hk, f, ht => by
    have hc1 := h.down hi
    obtain ⟨c, hc, _⟩ := hc1.step
    rw [bakN, hc]
    simp only []
    rw [bakN_keep h k i (by omega) (by omega) (bak_step hc1 hc f) (fun q h1 h2 => ht q (by omega) (by omega))]
    exact keep_bak (hc1.eff hc) (hc1.down (Nat.le_succ i)).sv.bd f.srt (ht i (by omega) (by omega)) (ht (i + 1) (by omega) (by omega))
/-- What Translate comes to between two places of a possible list. -/
theorem transL_ok {L : List Chg} {m : Nat} (h : Chain L m) {a b : Nat} (ha : a ≤ m) (hb : b ≤ m) {r : List Cell} (f : ftA L a r) :
    transL L r a b = (bakN L a (a - b) (fwdN L a (b - a) r), 0) ∧ ftA L b (bakN L a (a - b) (fwdN L a (b - a) r)) := by
  have hl := h.le
  have hx : (mxI (a : Int) (b : Int)).toNat ≤ m := by unfold mxI; split <;> omega
  have he := (h.down hx).e
  have sv := (h.down ha).sv
  have hf : fitsS (stA L a).fs 0 r = true := of_ft sv.n.q.pos f
  constructor
  · unfold transL
    have d1 : decide ((a : Int) < 0) = false := by simp
    have d2 : decide ((L.length : Int) < (a : Int)) = false := by simp; omega
    have d3 : decide ((b : Int) < 0) = false := by simp
    have d4 : decide ((L.length : Int) < (b : Int)) = false := by simp; omega
    have d5 : decide ((stA L (mxI (a : Int) (b : Int)).toNat).e = 0) = true := by simpa using he
    rw [d1, d2, d3, d4, d5, Int.toNat_natCast, hf]
    rw [show ((a : Int) - (b : Int)).toNat = a - b by omega, show ((b : Int) - (a : Int)).toNat = b - a by omega]
    rfl
  · by_cases hab : a ≤ b
    · rw [show a - b = 0 by omega]
      have := fwdN_ft h (b - a) a (by omega) f
      rw [show a + (b - a) = b by omega] at this
      cases a <;> exact this
    · rw [show b - a = 0 by omega]
      have := bakN_ft h (a - b) a ha (by omega) f
      rw [show a - (a - b) = b by omega] at this
      exact this
theorem trans_keep {L : List Chg} {m : Nat} (h : Chain L m) {a b : Nat} (ha : a ≤ m) (hb : b ≤ m) {r : List Cell} (f : ftA L a r) {j t : Int} (h1 : tyF (stA L a).fs j = some t) (h2 : tyF (stA L b).fs j = some t) :
    getC (bakN L a (a - b) (fwdN L a (b - a) r)) j = getC r j := by
  by_cases hab : a ≤ b
  · rw [show a - b = 0 by omega]
    have := fwdN_keep h (b - a) a (by omega) f (fun q q1 q2 => ty_between h hab hb h1 h2 q q1 (by omega))
    cases a <;> exact this
  · rw [show b - a = 0 by omega]
    exact bakN_keep h (a - b) a ha (by omega) f (fun q q1 q2 => ty_between h (by omega) ha h2 h1 q (by omega) q2)
/-- A made list is possible. -/
theorem chain_made (L : List Chg) (k : Nat) : Chain (madeC [] 1 (L.take k)) (madeC [] 1 (L.take k)).length :=
  ⟨Nat.le_refl _, madeC_ok _ _ _, by unfold stA; rw [List.take_of_length_le (Nat.le_refl _)]; exact after_made _ _ _ _⟩
def plI (w n : Int) : Int := w.tmod (n + 1)
theorem plI_bd {w n : Int} (h0 : 0 ≤ w) (hn : 0 ≤ n) : 0 ≤ plI w n ∧ plI w n ≤ n := by
  unfold plI
  have h1 := Int.tmod_nonneg (n + 1) h0
  have h2 := Int.tmod_lt_of_pos w (show 0 < n + 1 by omega)
  omega
end Go.Den
