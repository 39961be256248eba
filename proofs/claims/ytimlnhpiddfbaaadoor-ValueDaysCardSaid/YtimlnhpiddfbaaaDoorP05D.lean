/- Days and years: plain arithmetic for ch. 05. -/
import Derived.KernelRfl
namespace Go.Den
def gD (d : Nat) : Nat := d - d / 1460 + d / 36524 - d / 146096
theorem gD_step (d : Nat) (h : d < 146096) : gD d ≤ gD (d + 1) := by
  unfold gD
  have h1 : (d + 1) / 1460 ≤ d / 1460 + 1 := by omega
  have h2 : d / 36524 ≤ (d + 1) / 36524 := by omega
  have h3 : d / 146096 = 0 := by omega
  have h4 : (d + 1) / 146096 = 0 ∨ d = 146095 := by omega
  rcases h4 with h4 | h4
  · omega
  · subst h4; decide
theorem gD_mono : ∀ {k d : Nat}, d + k ≤ 146096 → gD d ≤ gD (d + k)
  | 0, _, _ => Nat.le_refl _
  | k + 1, d, h => Nat.le_trans (gD_mono (k := k) (by omega)) (gD_step (d + k) (by omega))
/-- The first day of a year of an era. -/
def stD (y : Nat) : Nat := 365 * y + y / 4 - y / 100 + y / 400
def yrB : Nat → Bool
  | 0 => Nat.beq (gD (stD 0) / 365) 0 && Nat.beq (gD (stD 1 - 1) / 365) 0
  | y + 1 => yrB y && (Nat.beq (gD (stD (y + 1)) / 365) (y + 1) && Nat.beq (gD (stD (y + 2) - 1) / 365) (y + 1))
theorem yr_all : yrB 399 = true := by kernel_rfl
theorem yrB_ok : ∀ {n : Nat}, yrB n = true → ∀ y, y ≤ n → gD (stD y) / 365 = y ∧ gD (stD (y + 1) - 1) / 365 = y
  | 0, h, y, hy => by
    have : y = 0 := by omega
    subst this
    simp only [yrB, Bool.and_eq_true] at h
    exact ⟨Nat.eq_of_beq_eq_true h.1, Nat.eq_of_beq_eq_true h.2⟩
  | n + 1, h, y, hy => by
    rw [yrB, Bool.and_eq_true, Bool.and_eq_true] at h
    by_cases e : y = n + 1
    · subst e; exact ⟨Nat.eq_of_beq_eq_true h.2.1, Nat.eq_of_beq_eq_true h.2.2⟩
    · exact yrB_ok h.1 y (by omega)
/-- The year of a day in an era. -/
theorem yoe_eq {y d : Nat} (hy : y ≤ 399) (h0 : stD y ≤ d) (h1 : d < stD (y + 1)) : gD d / 365 = y := by
  obtain ⟨a, b⟩ := yrB_ok yr_all y hy
  have hmax : stD (y + 1) ≤ 146097 := by unfold stD; omega
  have m1 := gD_mono (d := stD y) (k := d - stD y) (by omega)
  have m2 := gD_mono (d := d) (k := stD (y + 1) - 1 - d) (by omega)
  rw [show stD y + (d - stD y) = d by omega] at m1
  rw [show d + (stD (y + 1) - 1 - d) = stD (y + 1) - 1 by omega] at m2
  have := Nat.div_le_div_right (c := 365) m1
  have := Nat.div_le_div_right (c := 365) m2
  omega
theorem between {f : Nat → Nat} {d : Nat} (h0 : f 0 ≤ d) : ∀ {n : Nat}, d < f n → ∃ y, y < n ∧ f y ≤ d ∧ d < f (y + 1)
  | 0, hn => absurd hn (by omega)
  | n + 1, hn => by
    by_cases h : d < f n
    · obtain ⟨y, h1, h2, h3⟩ := between h0 h
      exact ⟨y, by omega, h2, h3⟩
    · exact ⟨n, by omega, by omega, hn⟩
/-- The first day of a year that begins in March. -/
def eD (y : Int) : Int := 365 * y + y / 4 - y / 100 + y / 400
theorem eD_era (k : Int) (y : Nat) : eD (400 * k + y) = 146097 * k + stD y := by
  unfold eD stD
  have h : y / 100 ≤ 365 * y + y / 4 := by omega
  have a1 : (400 * k + (y : Int)) / 4 = 100 * k + ((y / 4 : Nat) : Int) := by omega
  have a2 : (400 * k + (y : Int)) / 100 = 4 * k + ((y / 100 : Nat) : Int) := by omega
  have a3 : (400 * k + (y : Int)) / 400 = k + ((y / 400 : Nat) : Int) := by omega
  rw [a1, a2, a3]
  omega
/-- January 1 of a year, in days from March 1 of the year 0. -/
def janD (y : Int) : Int := eD (y - 1) + 306
def leapB (y : Int) : Bool := decide (y % 4 = 0) && (!decide (y % 100 = 0) || decide (y % 400 = 0))
def lenD (y : Int) : Int := bif leapB y then 366 else 365
theorem jan_step (y : Int) : janD (y + 1) = janD y + lenD y := by
  unfold janD eD lenD leapB
  rw [show y + 1 - 1 = y by omega]
  by_cases h4 : y % 4 = 0
  · by_cases h100 : y % 100 = 0
    · by_cases h400 : y % 400 = 0
      · simp [h4, h100, h400]; omega
      · simp [h4, h100, h400]; omega
    · have h400 : ¬ y % 400 = 0 := by omega
      simp [h4, h100]; omega
  · have h100 : ¬ y % 100 = 0 := by omega
    have h400 : ¬ y % 400 = 0 := by omega
    simp [h4]; omega
theorem lenD_pos (y : Int) : 365 ≤ lenD y ∧ lenD y ≤ 366 := by unfold lenD; cases leapB y <;> simp
theorem jan_mono {a b : Int} (h : a ≤ b) : janD a ≤ janD b := by
  obtain ⟨k, rfl⟩ : ∃ k : Nat, b = a + k := ⟨(b - a).toNat, by omega⟩
  clear h
  induction k with
  | zero => simp
  | succ k ih =>
    have e := jan_step (a + k)
    have := lenD_pos (a + k)
    rw [show a + ((k + 1 : Nat) : Int) = a + k + 1 by omega, e]
    omega
theorem jan_uniq {a b z : Int} (h1 : janD a ≤ z) (h2 : z < janD (a + 1)) (h3 : janD b ≤ z) (h4 : z < janD (b + 1)) : a = b := by
  rcases Int.lt_trichotomy a b with h | h | h
  · have := jan_mono (show a + 1 ≤ b by omega); omega
  · exact h
  · have := jan_mono (show b + 1 ≤ a by omega); omega
/-- The day in an era, its year of the era, the day of that year. -/
theorem era (z : Int) : ∃ (k : Int) (y d : Nat), k = z / 146097 ∧ (d : Int) = z - k * 146097 ∧ d < 146097 ∧ y ≤ 399 ∧ gD d / 365 = y ∧ stD y ≤ d ∧ d < stD (y + 1) ∧ eD (400 * k + y) + ((d - stD y : Nat) : Int) = z ∧ z < eD (400 * k + y + 1) := by
  obtain ⟨d, hd⟩ : ∃ d : Nat, (d : Int) = z % 146097 := ⟨(z % 146097).toNat, by omega⟩
  have hd1 : d < 146097 := by omega
  obtain ⟨y, h1, h2, h3⟩ := between (f := stD) (d := d) (by unfold stD; omega) (n := 400) (by show d < 146097; exact hd1)
  have e1 := eD_era (z / 146097) y
  have e2 := eD_era (z / 146097) (y + 1)
  refine ⟨z / 146097, y, d, rfl, by omega, hd1, by omega, yoe_eq (by omega) h2 h3, h2, h3, by rw [e1]; omega, ?_⟩
  rw [show 400 * (z / 146097) + (y : Int) + 1 = 400 * (z / 146097) + ((y + 1 : Nat) : Int) by omega, e2]
  omega
/-! Months. -/
def monL (l : Bool) : Nat → Nat
  | 2 => bif l then 29 else 28
  | 4 | 6 | 9 | 11 => 30
  | _ => 31
/-- Days of a year before a month. -/
def cumL (l : Bool) : Nat → Nat
  | 0 => 0
  | 1 => 0
  | m + 2 => cumL l (m + 1) + monL l (m + 1)
def mD (d : Nat) : Nat := (5 * d + 2) / 153
def ddD (d : Nat) : Nat := d - (153 * mD d + 2) / 5
def spring (l : Bool) (d : Nat) : Bool := Nat.ble (mD d) 9 && (Nat.ble ((153 * mD d + 2) / 5) d && (Nat.beq (cumL l (mD d + 3) + ddD d) (d + 59 + (bif l then 1 else 0)) && Nat.blt (ddD d) (monL l (mD d + 3))))
def winter (l : Bool) (d : Nat) : Bool := Nat.ble 10 (mD d) && (Nat.ble (mD d) 11 && (Nat.ble ((153 * mD d + 2) / 5) d && (Nat.beq (cumL l (mD d - 9) + ddD d + 306) d && Nat.blt (ddD d) (monL l (mD d - 9)))))
def seasons (l : Bool) (n : Nat) : Nat → Bool
  | 0 => true
  | d + 1 => seasons l n d && (if d < 306 then spring l d else (winter l d || Nat.ble n d))
theorem seas0 : seasons false 365 365 = true := by kernel_rfl
theorem seas1 : seasons true 366 366 = true := by kernel_rfl
theorem seas_get {l : Bool} {n : Nat} : ∀ {k d : Nat}, seasons l n k = true → d < k → d < n → (d < 306 → spring l d = true) ∧ (306 ≤ d → winter l d = true)
  | 0, d, _, h, _ => absurd h (by omega)
  | k + 1, d, h, hd, hn => by
    rw [seasons, Bool.and_eq_true] at h
    by_cases e : d = k
    · subst e
      refine ⟨fun h1 => ?_, fun h1 => ?_⟩
      · have := h.2; rw [if_pos h1] at this; exact this
      · have := h.2
        rw [if_neg (by omega), Bool.or_eq_true] at this
        rcases this with h2 | h2
        · exact h2
        · have := Nat.le_of_ble_eq_true h2; omega
    · exact seas_get h.1 (by omega) hn
theorem seas (l : Bool) (d : Nat) (h : d < 365 + (bif l then 1 else 0)) : (d < 306 → spring l d = true) ∧ (306 ≤ d → winter l d = true) := by
  cases l
  · exact seas_get seas0 (by simpa using h) (by simpa using h)
  · exact seas_get seas1 (by simpa using h) (by simpa using h)
theorem spring_any (l : Bool) (d : Nat) (h : d < 306) : spring l d = true := by
  cases l
  · exact (seas_get seas0 (show d < 365 by omega) (by omega)).1 h
  · exact (seas_get seas1 (show d < 366 by omega) (by omega)).1 h
/-- The date of a day: its year, month and day of the month (from 0), counted from March 1 of the year 0. -/
theorem date_ok (z : Int) : ∃ (k : Int) (y d : Nat), k = z / 146097 ∧ (d : Int) = z - k * 146097 ∧ d < 146097 ∧ y ≤ 399 ∧ gD d / 365 = y ∧ stD y ≤ d ∧ d - stD y < 366 ∧ mD (d - stD y) ≤ 11 ∧ (153 * mD (d - stD y) + 2) / 5 ≤ d - stD y ∧
    ∃ (Y : Int) (M : Nat), Y = 400 * k + y + (if 10 ≤ mD (d - stD y) then 1 else 0) ∧ M = (if 10 ≤ mD (d - stD y) then mD (d - stD y) - 9 else mD (d - stD y) + 3) ∧ 1 ≤ M ∧ M ≤ 12 ∧
      z = janD Y + ((cumL (leapB Y) M + ddD (d - stD y) : Nat) : Int) ∧ ddD (d - stD y) < monL (leapB Y) M ∧ janD Y ≤ z ∧ z < janD (Y + 1) := by
  obtain ⟨k, y, d, hk, hd, hd1, hy, hg, h2, h3, h4, h5⟩ := era z
  have e1 : eD (400 * k + y) = janD (400 * k + y + 1) - 306 := by unfold janD; rw [show 400 * k + (y : Int) + 1 - 1 = 400 * k + y by omega]; omega
  have e2 : eD (400 * k + y + 1) = janD (400 * k + y + 1 + 1) - 306 := by unfold janD; rw [show 400 * k + (y : Int) + 1 + 1 - 1 = 400 * k + y + 1 by omega]; omega
  have s1 := jan_step (400 * k + y)
  have s2 := jan_step (400 * k + y + 1)
  have q1 : lenD (400 * k + y + 1) = 365 + ((bif leapB (400 * k + y + 1) then 1 else 0 : Nat) : Int) := by unfold lenD; cases leapB (400 * k + y + 1) <;> rfl
  have q2 : lenD (400 * k + y) = 365 + ((bif leapB (400 * k + y) then 1 else 0 : Nat) : Int) := by unfold lenD; cases leapB (400 * k + y) <;> rfl
  have b1 : (bif leapB (400 * k + y + 1) then 1 else 0 : Nat) ≤ 1 := by cases leapB (400 * k + y + 1) <;> simp
  have b2 : (bif leapB (400 * k + y) then 1 else 0 : Nat) ≤ 1 := by cases leapB (400 * k + y) <;> simp
  have hdl : d - stD y < 365 + (bif leapB (400 * k + y + 1) then 1 else 0) := by omega
  generalize hdoy : d - stD y = t at *
  obtain ⟨w1, w2⟩ := seas (leapB (400 * k + y + 1)) t hdl
  by_cases ht : t < 306
  · have h := spring_any (leapB (400 * k + y)) t ht
    simp only [spring, Bool.and_eq_true] at h
    obtain ⟨p1, p2, p3, p4⟩ := h
    have p1 := Nat.le_of_ble_eq_true p1
    have p2 := Nat.le_of_ble_eq_true p2
    have p3 := Nat.eq_of_beq_eq_true p3
    have p4 := Nat.le_of_ble_eq_true p4
    have c1 : ¬ 10 ≤ mD t := by omega
    refine ⟨k, y, d, hk, hd, hd1, hy, hg, h2, by omega, by rw [hdoy]; omega, by rw [hdoy]; exact p2, 400 * k + y, mD t + 3, by rw [hdoy, if_neg c1]; omega, by rw [hdoy, if_neg c1], by omega, by omega, by rw [hdoy]; omega, by rw [hdoy]; exact p4, by omega, by omega⟩
  · have h := w2 (by omega)
    simp only [winter, Bool.and_eq_true] at h
    obtain ⟨p0, p1, p2, p3, p4⟩ := h
    have p0 := Nat.le_of_ble_eq_true p0
    have p1 := Nat.le_of_ble_eq_true p1
    have p2 := Nat.le_of_ble_eq_true p2
    have p3 := Nat.eq_of_beq_eq_true p3
    have p4 := Nat.le_of_ble_eq_true p4
    refine ⟨k, y, d, hk, hd, hd1, hy, hg, h2, by omega, by rw [hdoy]; exact p1, by rw [hdoy]; exact p2, 400 * k + y + 1, mD t - 9, by rw [hdoy, if_pos p0], by rw [hdoy, if_pos p0], by omega, by omega, by rw [hdoy]; omega, by rw [hdoy]; exact p4, by omega, by omega⟩
theorem cum_step (l : Bool) (m : Nat) (h : 1 ≤ m) : cumL l (m + 1) = cumL l m + monL l m := by
  cases m with
  | zero => exact absurd h (by decide)
  | succ m => rfl
theorem cum_mono (l : Bool) : ∀ {k m : Nat}, 1 ≤ m → cumL l m ≤ cumL l (m + k)
  | 0, _, _ => Nat.le_refl _
  | k + 1, m, h => by
    have := cum_mono l (k := k) h
    rw [show m + (k + 1) = m + k + 1 by omega, cum_step l (m + k) (by omega)]
    omega
/-- The month of a day of the year. -/
theorem cum_uniq {l : Bool} {a b j : Nat} (ha : 1 ≤ a) (hb : 1 ≤ b) (h1 : cumL l a ≤ j) (h2 : j < cumL l (a + 1)) (h3 : cumL l b ≤ j) (h4 : j < cumL l (b + 1)) : a = b := by
  rcases Nat.lt_trichotomy a b with h | h | h
  · have := cum_mono l (m := a + 1) (k := b - (a + 1)) (by omega)
    rw [show a + 1 + (b - (a + 1)) = b by omega] at this
    omega
  · exact h
  · have := cum_mono l (m := b + 1) (k := a - (b + 1)) (by omega)
    rw [show b + 1 + (a - (b + 1)) = a by omega] at this
    omega
theorem cum_year (l : Bool) : (cumL l 13 : Int) = bif l then 366 else 365 := by cases l <;> rfl
end Go.Den
