/- Translated rows fit. -/
import Derived.Test.YtghipgdajgeoiabDoorS07E
namespace Go.Den
open Go
set_option linter.unusedSimpArgs false
set_option linter.unusedVariables false
set_option maxRecDepth 100000
set_option maxHeartbeats 1000000
theorem okT_some {o : Option Int} {v : Val} (h : okT o v = true) : ∃ t, o = some t ∧ typeOk t = true ∧ v.null = false ∧ okV v t = true := by
  cases o with
  | none => exact absurd h (by simp [okT])
  | some t =>
    simp only [okT, Bool.and_eq_true, Bool.not_eq_true'] at h
    exact ⟨t, rfl, h.1, h.2.1, h.2.2⟩
/-- A text that fits. -/
def TextOk (v : Val) : Prop := v.null = false ∧ v.n = 0 ∧ v.s.size ≤ 200
theorem okT_text {v : Val} : okT (some 4) v = true ↔ TextOk v := by
  simp only [okT, okV, TextOk, decide_true, cond_true, Bool.and_eq_true, Bool.not_eq_true', decide_eq_true_eq]
  constructor
  · rintro ⟨_, h1, h2⟩
    rw [h1, cond_false, Bool.and_eq_true, decide_eq_true_eq, decide_eq_true_eq] at h2
    exact ⟨h1, h2.1, by omega⟩
  · rintro ⟨h1, h2, h3⟩
    refine ⟨by decide, h1, ?_⟩
    rw [h1, cond_false, Bool.and_eq_true, decide_eq_true_eq, decide_eq_true_eq]
    exact ⟨h2, by omega⟩
theorem divV_ok {s t : ByteArray} (h : s.size ≤ 200) : TextOk (divV s t).1 ∧ ((divV s t).2.null = false → TextOk (divV s t).2) := by
  unfold divV
  cases decide (0 ≤ ixS s t) with
  | false => exact ⟨⟨rfl, rfl, h⟩, fun h => absurd h (by simp [nullV])⟩
  | true =>
    simp only [cond_true]
    refine ⟨⟨rfl, rfl, ?_⟩, fun _ => ⟨rfl, rfl, ?_⟩⟩ <;> (show (ByteArray.extract _ _ _).size ≤ 200; rw [ByteArray.size_extract]; omega)
theorem conV_ok {a b : Val} {t : ByteArray} (h : (conV a b t).null = false) : TextOk (conV a b t) := by
  unfold conV at *
  cases hn : a.null && b.null with
  | true => rw [hn] at h; exact absurd h (by simp [nullV])
  | false =>
    simp only [cond_false]
    have := cutS_size (a.s ++ t ++ b.s)
    exact ⟨rfl, rfl, by show (cutS 200 _).size ≤ 200; omega⟩
theorem Ft.put {T T' : Int → Option Int} {r : List Cell} (f : Ft T r) (id : Int) (v : Val) (h0 : v.null = false → okT (T' id) v = true) (h1 : ∀ j, j ≠ id → (getC r j).null = false → okT (T' j) (getC r j) = true) : Ft T' (putL r id v) :=
  ⟨putL_srt f.srt id v, putL_nn f.srt f.nn id v, fun j hj => by
    rw [getC_put f.srt] at hj ⊢
    by_cases e : j = id
    · rw [if_pos e] at hj ⊢
      rw [nz_null] at hj
      rw [nz_of hj, e]
      exact h0 hj
    · rw [if_neg e] at hj ⊢
      exact h1 j e hj⟩
theorem Ft.mono {T T' : Int → Option Int} {r : List Cell} (f : Ft T r) (h : ∀ j, (getC r j).null = false → okT (T' j) (getC r j) = true) : Ft T' r := ⟨f.srt, f.nn, h⟩
theorem nv : nullV.null = true := rfl
/-- Which types a row without some fields fits. -/
theorem Ft.cut {T : Int → Option Int} {r : List Cell} (f : Ft T r) (id : Int) : Ft (fun j => if j = id then none else T j) (putL r id nullV) :=
  f.put id nullV (fun h => absurd h (by decide)) fun j hj h => by simp only [if_neg hj]; exact f.ok j h
theorem apart_ft {T T' : Int → Option Int} {r : List Cell} {a x y : Int} {t : ByteArray} (f : Ft T r) (ha : T a = some 4) (hx : T' x = some 4) (hy : T' y = some 4) (hT : ∀ j, j ≠ a → T' j = T j ∨ j = x ∨ j = y) (hTa : T' a = none ∨ a = x ∨ a = y)
    (hxa : T x = none) (hya : T y = none) : Ft T' (apartL r a x y t) := by
  have c := f.cut a
  have base : ∀ j, (getC (putL r a nullV) j).null = false → okT (T' j) (getC (putL r a nullV) j) = true := by
    intro j hj
    have h := c.ok j hj
    obtain ⟨u, h1, _⟩ := okT_some h
    by_cases e : j = a
    · rw [if_pos e] at h1; exact absurd h1 (by simp)
    · simp only [if_neg e] at h h1
      rcases hT j e with h' | h' | h'
      · rw [h']; exact h
      · rw [h', hxa] at h1; exact absurd h1 (by simp)
      · rw [h', hya] at h1; exact absurd h1 (by simp)
  have f0 : Ft T' (putL r a nullV) := c.mono base
  unfold apartL
  cases hn : (getC r a).null with
  | true => exact f0
  | false =>
    have ht := f.ok a hn
    rw [ha, okT_text] at ht
    obtain ⟨d1, d2⟩ := divV_ok (t := t) ht.2.2
    have f1 : Ft T' (putL (putL r a nullV) x (divV (getC r a).s t).1) := f0.put x _ (fun _ => by rw [hx, okT_text]; exact d1) fun j _ h => f0.ok j h
    exact f1.put y _ (fun h => by rw [hy, okT_text]; exact d2 h) fun j _ h => f1.ok j h
theorem fwd_ft {T T' : Int → Option Int} {c : Chg} {n : Int} (e : Eff T T' c n) (bd : Bd T n) {r : List Cell} (f : Ft T r) : Ft T' (fwdL c n r) := by
  have tn : ∀ j t, T j = some t → j ≠ n ∧ j ≠ n + 1 := fun j t h => by have := bd j t h; omega
  have tN : T n = none := by cases h : T n with | none => rfl | some t => exact absurd rfl (tn _ _ h).1
  have tN1 : T (n + 1) = none := by cases h : T (n + 1) with | none => rfl | some t => exact absurd rfl (tn _ _ h).2
  unfold fwdL
  rcases e with ⟨k, t, h⟩ | ⟨k, h⟩ | ⟨k, h⟩ | ⟨k, h2, h⟩ | ⟨k, h4, h⟩ | ⟨k, h4, w4, hne, h⟩
  · have e2 : decide (c.kind = 2) = false := by simp; omega
    have e6 : decide (c.kind = 6) = false := by simp; omega
    have e7 : decide (c.kind = 7) = false := by simp; omega
    simp only [e2, e6, e7, cond_false]
    refine f.mono fun j hj => ?_
    have ok := f.ok j hj
    obtain ⟨u, h1, _⟩ := okT_some ok
    rw [h, if_neg (tn j u h1).1]; exact ok
  · have e2 : decide (c.kind = 2) = true := by simpa using k
    simp only [e2, cond_true]
    refine (f.cut c.id).mono fun j hj => ?_
    rw [h]; exact (f.cut c.id).ok j hj
  · have e2 : decide (c.kind = 2) = false := by simp; omega
    have e6 : decide (c.kind = 6) = false := by simp; omega
    have e7 : decide (c.kind = 7) = false := by simp; omega
    simp only [e2, e6, e7, cond_false]
    exact f.mono fun j hj => by rw [h]; exact f.ok j hj
  · have e2 : decide (c.kind = 2) = false := by simp; omega
    have e6 : decide (c.kind = 6) = false := by simp; omega
    have e7 : decide (c.kind = 7) = false := by simp; omega
    simp only [e2, e6, e7, cond_false]
    refine f.mono fun j hj => ?_
    have ok := f.ok j hj
    rw [h]
    by_cases ej : j = c.id
    · rw [if_pos ej]
      rw [ej, h2] at ok
      rw [ej]
      obtain ⟨u, h1, _, h3, h5⟩ := okT_some ok
      cases h1
      simp only [okV, h3, decide_true, dt24, dt23, cond_false, Bool.and_eq_true] at h5
      simp only [okT, okV, h3, decide_true, dt34, dt33, cond_false, cond_true, Bool.not_false, Bool.true_and]
      exact h5.1.1
    · rw [if_neg ej]; exact ok
  · have e2 : decide (c.kind = 2) = false := by simp; omega
    have e6 : decide (c.kind = 6) = true := by simpa using k
    simp only [e2, e6, cond_true, cond_false]
    have hc := tn _ _ h4
    refine apart_ft f h4 (by rw [h, if_pos (.inl rfl)]) (by rw [h, if_pos (.inr rfl)]) (fun j hj => ?_) (.inl (by rw [h, if_neg (fun x => x.elim hc.1 hc.2), if_pos rfl])) tN tN1
    by_cases e1 : j = n
    · exact .inr (.inl e1)
    · by_cases e1' : j = n + 1
      · exact .inr (.inr e1')
      · exact .inl (by rw [h, if_neg (fun x => x.elim e1 e1'), if_neg hj])
  · have e2 : decide (c.kind = 2) = false := by simp; omega
    have e6 : decide (c.kind = 6) = false := by simp; omega
    have e7 : decide (c.kind = 7) = true := by simpa using k
    simp only [e2, e6, e7, cond_true, cond_false]
    have c2 := (f.cut c.id).cut c.wi
    refine c2.put n _ (fun hn => by rw [h, if_pos rfl, okT_text]; exact conV_ok hn) fun j hj hnn => ?_
    have ok := c2.ok j hnn
    obtain ⟨u, h1, _⟩ := okT_some ok
    rw [h, if_neg hj]
    by_cases ew : j = c.wi
    · simp only [if_pos ew] at h1; exact absurd h1 (by simp)
    · by_cases ei : j = c.id
      · simp only [if_neg ew, if_pos ei] at h1; exact absurd h1 (by simp)
      · simp only [if_neg ew, if_neg ei] at ok
        rw [if_neg (fun x => x.elim ei ew)]; exact ok
theorem bak_ft {T T' : Int → Option Int} {c : Chg} {n : Int} (e : Eff T T' c n) (bd : Bd T n) {r : List Cell} (f : Ft T' r) : Ft T (bakL c n r) := by
  have tn : ∀ j t, T j = some t → j ≠ n ∧ j ≠ n + 1 := fun j t h => by have := bd j t h; omega
  have tN : T n = none := by cases h : T n with | none => rfl | some t => exact absurd rfl (tn _ _ h).1
  have tN1 : T (n + 1) = none := by cases h : T (n + 1) with | none => rfl | some t => exact absurd rfl (tn _ _ h).2
  unfold bakL
  rcases e with ⟨k, t, h⟩ | ⟨k, h⟩ | ⟨k, h⟩ | ⟨k, h2, h⟩ | ⟨k, h4, h⟩ | ⟨k, h4, w4, hne, h⟩
  · have e1 : decide (c.kind = 1) = true := by simpa using k
    simp only [e1, cond_true]
    refine (f.cut n).mono fun j hj => ?_
    have ok := (f.cut n).ok j hj
    by_cases ej : j = n
    · simp only [if_pos ej] at ok; exact absurd ok (by simp [okT])
    · simp only [if_neg ej, h] at ok; exact ok
  · have e1 : decide (c.kind = 1) = false := by simp; omega
    have e4 : decide (c.kind = 4) = false := by simp; omega
    have e6 : decide (c.kind = 6) = false := by simp; omega
    have e7 : decide (c.kind = 7) = false := by simp; omega
    simp only [e1, e4, e6, e7, cond_false]
    refine f.mono fun j hj => ?_
    have ok := f.ok j hj
    rw [h] at ok
    split at ok
    · exact absurd ok (by simp [okT])
    · exact ok
  · have e1 : decide (c.kind = 1) = false := by simp; omega
    have e4 : decide (c.kind = 4) = false := by simp; omega
    have e6 : decide (c.kind = 6) = false := by simp; omega
    have e7 : decide (c.kind = 7) = false := by simp; omega
    simp only [e1, e4, e6, e7, cond_false]
    exact f.mono fun j hj => by rw [← h]; exact f.ok j hj
  · have e1 : decide (c.kind = 1) = false := by simp; omega
    have e4 : decide (c.kind = 4) = true := by simpa using k
    simp only [e1, e4, cond_true, cond_false]
    have other : ∀ j, j ≠ c.id → (getC r j).null = false → okT (T j) (getC r j) = true := fun j hj hn => by
      have := f.ok j hn
      rw [h, if_neg hj] at this; exact this
    unfold narrowL
    cases hr : decide ((getC r c.id).n < -2147483648) || decide (2147483647 < (getC r c.id).n) with
    | true => exact f.put c.id nullV (fun h => absurd h (by decide)) other
    | false =>
      simp only [cond_false]
      refine f.mono fun j hn => ?_
      by_cases ej : j = c.id
      · have ok := f.ok j hn
        rw [ej] at ok hn ⊢
        rw [h, if_pos rfl] at ok
        rw [h2]
        obtain ⟨u, q1, _, _, q5⟩ := okT_some ok
        cases q1
        simp only [okV, hn, decide_true, dt34, dt33, cond_false, cond_true, decide_eq_true_eq] at q5
        simp only [Bool.or_eq_false_iff, decide_eq_false_iff_not] at hr
        simp only [okT, okV, hn, loT, hiT, decide_true, dt21, dt22, dt24, dt23, cond_false, cond_true, Bool.not_false, Bool.true_and, Bool.and_eq_true, decide_eq_true_eq]
        exact ⟨by decide, ⟨q5, by omega⟩, by omega⟩
      · exact other j ej hn
  · have e1 : decide (c.kind = 1) = false := by simp; omega
    have e4 : decide (c.kind = 4) = false := by simp; omega
    have e6 : decide (c.kind = 6) = true := by simpa using k
    simp only [e1, e4, e6, cond_true, cond_false]
    have c2 := (f.cut n).cut (n + 1)
    refine c2.put c.id _ (fun hn => ?_) fun j hj hnn => ?_
    · rw [h4, okT_text]
      unfold conL at hn ⊢
      cases hb : (getC r (n + 1)).null with
      | true =>
        rw [hb, cond_true] at hn
        have := f.ok n hn
        rw [h, if_pos (.inl rfl), okT_text] at this
        exact this
      | false =>
        rw [hb, cond_false] at hn
        exact conV_ok hn
    · have ok := c2.ok j hnn
      by_cases ea : j = n + 1
      · simp only [if_pos ea] at ok; exact absurd ok (by simp [okT])
      · by_cases eb : j = n
        · simp only [if_neg ea, if_pos eb] at ok; exact absurd ok (by simp [okT])
        · simp only [h, ea, eb, hj, or_self, if_false] at ok
          exact ok
  · have e1 : decide (c.kind = 1) = false := by simp; omega
    have e4 : decide (c.kind = 4) = false := by simp; omega
    have e6 : decide (c.kind = 6) = false := by simp; omega
    have e7 : decide (c.kind = 7) = true := by simpa using k
    simp only [e1, e4, e6, e7, cond_true, cond_false]
    have h1 := tn _ _ h4
    have h2 := tn _ _ w4
    refine apart_ft f (by rw [h, if_pos rfl]) h4 w4 (fun j hj => ?_) (.inl tN) (by rw [h, if_neg h1.1, if_pos (.inl rfl)]) (by rw [h, if_neg h2.1, if_pos (.inr rfl)])
    by_cases ei : j = c.id
    · exact .inr (.inl ei)
    · by_cases ew : j = c.wi
      · exact .inr (.inr ew)
      · exact .inl (by rw [h, if_neg hj, if_neg (fun x => x.elim ei ew)])
end Go.Den
