/- Feeds: the plain laws (picked). -/
import Derived.Test.YtcbehobgahcdkaaSFeedL
import Derived.Test.YtcbehobgahcdkaaTpA
import Derived.Test.YtcbehobgahcdkaaS27
namespace Go.Den
open Go
set_option linter.unusedSimpArgs false
set_option linter.unusedVariables false
set_option maxRecDepth 100000
set_option maxHeartbeats 1000000
variable {α β γ : Type}
theorem lk_ext {key : α → Int} : ∀ {L M : List α}, Srt key L → Srt key M → (∀ n, lk key L n = lk key M n) → L = M
  | [], [], _, _, _ => rfl
  | [], b :: M, _, _, h => by have := h (key b); rw [lk_nil, lk_cons, if_pos rfl] at this; simp at this
  | a :: L, [], _, _, h => by have := h (key a); rw [lk_nil, lk_cons, if_pos rfl] at this; simp at this
  | a :: L, b :: M, hL, hM, h => by
    obtain ⟨l1, l2⟩ := hL.cons
    obtain ⟨m1, m2⟩ := hM.cons
    have ha := h (key a)
    have hb := h (key b)
    rw [lk_cons, if_pos rfl, lk_cons] at ha
    rw [lk_cons, lk_cons (n := key b), if_pos rfl] at hb
    have hk : key a = key b := by
      rcases Int.lt_trichotomy (key a) (key b) with hlt | he | hgt
      · rw [if_neg (by omega), lk_low (fun c hc => by have := m1 c hc; omega)] at ha; simp at ha
      · exact he
      · rw [if_neg (by omega), lk_low (fun c hc => by have := l1 c hc; omega)] at hb; simp at hb
    rw [if_pos hk.symm] at ha
    have hab : a = b := by simpa using ha
    subst hab
    have : L = M := lk_ext l2 m2 fun n => by
      have := h n
      rw [lk_cons, lk_cons] at this
      by_cases hn : key a = n
      · rw [lk_low (fun c hc => by have := l1 c hc; omega), lk_low (fun c hc => by have := m1 c hc; omega)]
      · rw [if_neg hn, if_neg hn] at this; exact this
    rw [this]
theorem fnd_ext {L M : List Line} (hL : Srt Line.n L) (hM : Srt Line.n M) (h : ∀ n, fnd L n = fnd M n) : L = M := by
  refine lk_ext hL hM fun n => ?_
  have := h n
  unfold fnd at this
  cases h1 : lk Line.n L n with
  | none => cases h2 : lk Line.n M n with
    | none => rfl
    | some b => simp [h1, h2] at this
  | some a => cases h2 : lk Line.n M n with
    | none => simp [h1, h2] at this
    | some b =>
      simp [h1, h2] at this
      obtain ⟨_, e1⟩ := lk_some h1
      obtain ⟨_, e2⟩ := lk_some h2
      obtain ⟨n1, r1⟩ := a
      obtain ⟨n2, r2⟩ := b
      simp at this e1 e2
      rw [this, e1, e2]
def clean (I : List Item) : List Item := I.filterMap fun i => if i.b = i.a then none else some i
theorem clean_lk {I : List Item} (h : Srt Item.n I) : Srt Item.n (clean I) ∧ ∀ n, lk Item.n (clean I) n = (lk Item.n I n).bind fun i => if i.b = i.a then none else some i :=
  lk_filterMap (fun a b hab => by split at hab <;> simp at hab; rw [hab]) h
theorem eventsOf_clean : ∀ (I : List Item), eventsOf (clean I) = eventsOf I
  | [] => rfl
  | i :: r => by
    have ih := eventsOf_clean r
    simp only [clean] at ih ⊢
    rw [List.filterMap_cons]
    by_cases h : i.b = i.a
    · simp only [h, if_true]
      rw [ih, eventsOf, h]; simp [chg]
    · simp only [h, if_false]
      rw [eventsOf, eventsOf, ih]
theorem clean_mem {I : List Item} {i : Item} : i ∈ clean I → i ∈ I ∧ i.b ≠ i.a := by
  intro h
  simp only [clean, List.mem_filterMap] at h
  obtain ⟨j, hj, e⟩ := h
  split at e
  · simp at e
  · rename_i hne; simp at e; subst e; exact ⟨hj, hne⟩
def inR (I : List Item) : Prop := ∀ i ∈ I, 0 ≤ i.n ∧ i.n < 4611686018427387904
theorem itemsOf_events : ∀ (I : List Item) (out : List Item), Srt Item.n I → (∀ i ∈ I, i.b ≠ i.a) → (∀ y, out.getLast? = some y → ∀ i ∈ I, y.n < i.n) → itemsOf out (eventsOf I) = out ++ I
  | [], out, _, _, _ => by simp [eventsOf, itemsOf]
  | i :: r, out, hs, hc, ho => by
    obtain ⟨h1, h2⟩ := hs.cons
    have hci := hc i (by simp)
    have ih := itemsOf_events r (out ++ [i]) h2 (fun j hj => hc j (by simp [hj])) (fun y hy j hj => by simp at hy; subst hy; exact h1 j hj)
    have hadd : ∀ e : Event, e.l.n = i.n → addEv out e = out ++ [Item.upd ⟨i.n, none, none⟩ e] := by
      intro e he
      unfold addEv
      cases hl : out.getLast? with
      | none => simp [he]
      | some y =>
        have := ho y hl i (by simp)
        simp only []
        rw [if_neg (by omega), he]
    have hadd2 : ∀ (j : Item) (e : Event), e.l.n = j.n → addEv (out ++ [j]) e = out ++ [j.upd e] := by
      intro j e he
      unfold addEv
      simp [he]
    obtain ⟨n, b, a⟩ := i
    simp only [] at hci hadd
    rw [eventsOf]
    cases b with
    | none => cases a with
      | none => exact absurd rfl hci
      | some s =>
        simp only [chg, reduceCtorEq, if_false, List.nil_append, List.cons_append, itemsOf]
        rw [hadd _ rfl]
        simp only [Item.upd]
        rw [if_neg (by decide), ih]; simp
    | some r0 => cases a with
      | none =>
        simp only [chg, reduceCtorEq, if_false, List.nil_append, List.cons_append, itemsOf, List.append_nil]
        rw [hadd _ rfl]
        simp only [Item.upd, if_true]
        rw [ih]; simp
      | some s =>
        simp only [chg, if_neg hci, List.nil_append, List.cons_append, itemsOf]
        rw [hadd _ rfl]
        simp only [Item.upd, if_true]
        rw [hadd2 _ _ rfl]
        simp only [Item.upd]
        rw [if_neg (by decide), ih]; simp
theorem feedOk_events : ∀ (I : List Item) (p : Option Event), Srt Item.n I → (∀ i ∈ I, i.b ≠ i.a) → inR I → (∀ y, p = some y → ∀ i ∈ I, y.l.n < i.n) → feedOk p (eventsOf I) = true
  | [], p, _, _, _, _ => by simp only [eventsOf]; cases p <;> rfl
  | i :: r, p, hs, hc, hr, hp => by
    obtain ⟨h1, h2⟩ := hs.cons
    have hci := hc i (by simp)
    have hri := hr i (by simp)
    have ih := fun e : Event => fun he : e.l.n = i.n => feedOk_events r (some e) h2 (fun j hj => hc j (by simp [hj])) (fun j hj => hr j (by simp [hj])) (fun y hy j hj => by simp at hy; subst hy; rw [he]; exact h1 j hj)
    have hfst : ∀ (e : Event) (L : List Event), (e.kind = 1 ∨ e.kind = 2) → e.l.n = i.n → feedOk (some e) L = true → feedOk p (e :: L) = true := by
      intro e L hk he hL
      cases p with
      | none => rw [feedOk, if_neg (by omega)]; exact hL
      | some y =>
        have := hp y rfl i (by simp)
        rw [feedOk, if_neg (by omega), if_pos (by omega)]; exact hL
    obtain ⟨n, b, a⟩ := i
    simp only [] at hci hri ih hfst
    rw [eventsOf]
    cases b with
    | none => cases a with
      | none => exact absurd rfl hci
      | some s =>
        simp only [chg, reduceCtorEq, if_false, List.nil_append, List.cons_append]
        exact hfst _ _ (.inl rfl) rfl (ih _ rfl)
    | some r0 => cases a with
      | none =>
        simp only [chg, reduceCtorEq, if_false, List.nil_append, List.cons_append, List.append_nil]
        exact hfst _ _ (.inr rfl) rfl (ih _ rfl)
      | some s =>
        simp only [chg, if_neg hci, List.nil_append, List.cons_append]
        refine hfst _ _ (.inr rfl) rfl ?_
        have hrs : s ≠ r0 := fun e => hci (by rw [e])
        rw [feedOk, if_neg (by simp; omega), if_neg (by simp), if_neg (by simp; exact hrs)]
        exact ih _ rfl
/-- What isFeed and items make of the events of items. -/
theorem back_items {I : List Item} (hs : Srt Item.n I) (hr : inR I) : feedOk none (eventsOf I) = true ∧ itemsOf [] (eventsOf I) = clean I := by
  obtain ⟨c1, _⟩ := clean_lk hs
  rw [← eventsOf_clean]
  refine ⟨feedOk_events _ none c1 (fun i hi => (clean_mem hi).2) (fun i hi => hr i (clean_mem hi).1) (by simp), ?_⟩
  rw [itemsOf_events _ [] c1 (fun i hi => (clean_mem hi).2) (by simp)]; rfl
theorem feedItems_clean {a b : List Line} (ha : Srt Line.n a) (hb : Srt Line.n b) (n : Int) : lk Item.n (clean (feedItems a b)) n = if fnd a n = fnd b n then none else some ⟨n, fnd a n, fnd b n⟩ := by
  obtain ⟨s, h⟩ := feedItems_lk ha hb
  rw [(clean_lk s).2, h]
  unfold fnd
  cases lk Line.n a n <;> cases lk Line.n b n <;> simp [pairL]
theorem mergeL_mem {α β : Type} {ka : α → Int} {kb : β → Int} : ∀ {a : List α} {b : List β} {t : Int × Option α × Option β}, t ∈ mergeL ka kb a b → (∃ x ∈ a, t.1 = ka x) ∨ (∃ y ∈ b, t.1 = kb y)
  | [], [], t, h => by rw [mergeL] at h; simp at h
  | x :: a, [], t, h => by
    rw [mergeL] at h; simp at h
    rcases h with rfl | h
    · exact .inl ⟨x, by simp, rfl⟩
    · rcases mergeL_mem h with ⟨z, hz, e⟩ | ⟨z, hz, e⟩
      · exact .inl ⟨z, by simp [hz], e⟩
      · exact .inr ⟨z, hz, e⟩
  | [], y :: b, t, h => by
    rw [mergeL] at h; simp at h
    rcases h with rfl | h
    · exact .inr ⟨y, by simp, rfl⟩
    · rcases mergeL_mem h with ⟨z, hz, e⟩ | ⟨z, hz, e⟩
      · exact .inl ⟨z, hz, e⟩
      · exact .inr ⟨z, by simp [hz], e⟩
  | x :: a, y :: b, t, h => by
    rw [mergeL] at h
    split at h
    · simp at h
      rcases h with rfl | h
      · exact .inl ⟨x, by simp, rfl⟩
      · rcases mergeL_mem h with ⟨z, hz, e⟩ | ⟨z, hz, e⟩
        · exact .inl ⟨z, by simp [hz], e⟩
        · exact .inr ⟨z, hz, e⟩
    · split at h
      · simp at h
        rcases h with rfl | h
        · exact .inr ⟨y, by simp, rfl⟩
        · rcases mergeL_mem h with ⟨z, hz, e⟩ | ⟨z, hz, e⟩
          · exact .inl ⟨z, hz, e⟩
          · exact .inr ⟨z, by simp [hz], e⟩
      · simp at h
        rcases h with rfl | h
        · exact .inl ⟨x, by simp, rfl⟩
        · rcases mergeL_mem h with ⟨z, hz, e⟩ | ⟨z, hz, e⟩
          · exact .inl ⟨z, by simp [hz], e⟩
          · exact .inr ⟨z, by simp [hz], e⟩
termination_by a b => a.length + b.length
theorem feedItems_inR {a b : Table} (ha : VT a) (hb : VT b) : inR (feedItems a.l b.l) := by
  intro i hi
  rw [feedItems_merge] at hi
  simp only [List.mem_map] at hi
  obtain ⟨t, ht, rfl⟩ := hi
  have := ha.n1
  have := hb.n1
  rcases mergeL_mem ht with ⟨x, hx, e⟩ | ⟨x, hx, e⟩
  · have := ha.rng x hx; simp only []; omega
  · have := hb.rng x hx; simp only []; omega
theorem feed_back {a b : Table} (ha : VT a) (hb : VT b) : feedOk none (feed a b) = true ∧ itemsOf [] (feed a b) = clean (feedItems a.l b.l) := by
  rw [feed_def ha hb]
  exact back_items (feedItems_lk ha.srt hb.srt).1 (feedItems_inR ha hb)
/-- The same events out of items with the same changes. -/
theorem events_eq {I J : List Item} (hI : Srt Item.n I) (hJ : Srt Item.n J) (h : ∀ n, lk Item.n (clean I) n = lk Item.n (clean J) n) : eventsOf I = eventsOf J := by
  rw [← eventsOf_clean I, ← eventsOf_clean J, lk_ext (clean_lk hI).1 (clean_lk hJ).1 h]
theorem swap_lk {I : List Item} (h : Srt Item.n I) : Srt Item.n (I.map Item.swap) ∧ ∀ n, lk Item.n (I.map Item.swap) n = (lk Item.n I n).map Item.swap := by
  rw [map_filterMap]
  obtain ⟨q1, q2⟩ := lk_filterMap (ka := Item.n) (kb := Item.n) (f := fun i => some (Item.swap i)) (fun t i h => by simp at h; subst h; rfl) h
  refine ⟨q1, fun n => ?_⟩
  rw [q2]; cases lk Item.n I n <;> rfl
theorem feed_invert {a b : Table} (ha : VT a) (hb : VT b) : invert (feed a b) = feed b a := by
  obtain ⟨f1, f2⟩ := feed_back ha hb
  obtain ⟨s1, _⟩ := clean_lk (feedItems_lk ha.srt hb.srt).1
  unfold invert
  rw [if_pos f1, f2, feed_def hb ha]
  obtain ⟨q1, q2⟩ := swap_lk s1
  refine events_eq q1 (feedItems_lk hb.srt ha.srt).1 fun n => ?_
  rw [(clean_lk q1).2, q2, feedItems_clean ha.srt hb.srt, feedItems_clean hb.srt ha.srt]
  by_cases h : fnd a.l n = fnd b.l n
  · rw [if_pos h, if_pos h.symm]; rfl
  · have h' : ¬ fnd b.l n = fnd a.l n := fun e => h e.symm
    rw [if_neg h, if_neg h']
    simp [Item.swap, h']
def aft (t : Int × Option Line × Option Item) : Option Line := (match t.2.2 with
  | some y => y.a
  | none => t.2.1.map Line.r).map fun r => ⟨t.1, r⟩
def mis (t : Int × Option Line × Option Item) : Bool := match t.2.2 with
  | some y => !decide (t.2.1.map Line.r = y.b)
  | none => false
theorem stepA_fold : ∀ (L : List (Int × Option Line × Option Item)) (s : Ap), (∀ t ∈ L, 0 ≤ t.1 ∧ t.1 < 4611686018427387904) → s.next ≤ 4611686018427387904 →
    (L.foldl (fun s t => stepA s t.1 t.2.1 t.2.2) s).out = s.out ++ L.filterMap aft ∧ (L.foldl (fun s t => stepA s t.1 t.2.1 t.2.2) s).gap = (s.gap || L.any mis) ∧
    s.next ≤ (L.foldl (fun s t => stepA s t.1 t.2.1 t.2.2) s).next ∧ (L.foldl (fun s t => stepA s t.1 t.2.1 t.2.2) s).next ≤ 4611686018427387904 ∧ ∀ x ∈ L.filterMap aft, x.n < (L.foldl (fun s t => stepA s t.1 t.2.1 t.2.2) s).next
  | [], s, _, h => by simp [h]
  | t :: L, s, hr, hn => by
    have ht := hr t (by simp)
    obtain ⟨n, x, y⟩ := t
    simp only [] at ht
    have hs : ∃ nx, stepA s n x y = ⟨s.gap || mis (n, x, y), s.out ++ (aft (n, x, y)).toList, nx⟩ ∧ s.next ≤ nx ∧ nx ≤ 4611686018427387904 ∧ ∀ l, aft (n, x, y) = some l → l.n < nx := by
      simp only [stepA, aft, mis]
      cases y with
      | none => cases x with
        | none => exact ⟨s.next, by simp, by omega, by omega, by simp⟩
        | some x => exact ⟨if s.next < n + 1 then n + 1 else s.next, by simp, by split <;> omega, by split <;> omega, by simp; split <;> omega⟩
      | some y => cases ha : y.a with
        | none => exact ⟨s.next, by simp [ha], by omega, by omega, by simp [ha]⟩
        | some r => exact ⟨if s.next < n + 1 then n + 1 else s.next, by simp [ha], by split <;> omega, by split <;> omega, by simp [ha]; split <;> omega⟩
    obtain ⟨nx, e, h1, h2, h3⟩ := hs
    obtain ⟨i1, i2, i3, i4, i5⟩ := stepA_fold L (stepA s n x y) (fun u hu => hr u (by simp [hu])) (by rw [e]; exact h2)
    rw [List.foldl_cons]
    simp only [] at i1 i2 i3 i4 i5 ⊢
    rw [e] at i1 i2 i3
    refine ⟨?_, ?_, ?_, i4, ?_⟩
    · rw [e] at *
      rw [i1, List.filterMap_cons]
      cases aft (n, x, y) <;> simp
    · rw [e] at *
      rw [i2, List.any_cons]; simp [Bool.or_assoc]
    · rw [e] at *
      simp only [] at i3; omega
    · rw [e] at *
      intro l hl
      have hl2 : aft (n, x, y) = some l ∨ l ∈ L.filterMap aft := by
        rw [List.filterMap_cons] at hl
        cases ha : aft (n, x, y) with
        | none => rw [ha] at hl; exact .inr hl
        | some z =>
          rw [ha] at hl
          rcases List.mem_cons.1 hl with rfl | h
          · exact .inl rfl
          · exact .inr h
      simp only [] at i3
      rcases hl2 with ha | hl
      · have := h3 _ ha; omega
      · exact i5 l hl
/-- A feed that fits: the lines behind it, and the new table is valid. -/
theorem apply_fits {t : Table} {l : List Event} {I : List Item} (ht : VT t) (hf : feedOk none l = true) (hi : itemsOf [] l = I) (hI : Srt Item.n I) (hr : inR I) (hlen : t.l.length + I.length ≤ 4096) (hfit : ∀ i ∈ I, fnd t.l i.n = i.b) :
    ∃ x : Table, apply t l = (x, 0) ∧ VT x ∧ t.next ≤ x.next ∧ ∀ n, fnd x.l n = match lk Item.n I n with | some i => i.a | none => fnd t.l n := by
  obtain ⟨m1, m2⟩ := mergeL_lk ht.srt hI
  have hn1 := ht.n1
  have hrng : ∀ u ∈ mergeL Line.n Item.n t.l I, 0 ≤ u.1 ∧ u.1 < 4611686018427387904 := by
    intro u hu
    rcases mergeL_mem hu with ⟨x, hx, e⟩ | ⟨x, hx, e⟩
    · have := ht.rng x hx; omega
    · have := hr x hx; omega
  obtain ⟨f1, f2, f3, f4, f5⟩ := stepA_fold (mergeL Line.n Item.n t.l I) ⟨false, [], t.next⟩ hrng hn1
  rw [← mergeS_fold] at f1 f2 f3 f4 f5
  change (applyS t I).out = _ at f1
  change (applyS t I).gap = _ at f2
  change _ ≤ (applyS t I).next at f3
  change (applyS t I).next ≤ _ at f4
  change ∀ x : Line, x ∈ _ → x.n < (applyS t I).next at f5
  simp only [List.nil_append, Bool.false_or] at f1 f2 f3
  have hgap : (applyS t I).gap = false := by
    rw [f2]
    rw [List.any_eq_false]
    intro u hu
    have h1 := lk_mem m1 hu
    rw [m2] at h1
    unfold mis
    cases hy : u.2.2 with
    | none => simp
    | some y =>
      simp only []
      have : lk Item.n I u.1 = some y ∧ u.2.1 = lk Line.n t.l u.1 := by
        cases hx : lk Line.n t.l u.1 <;> cases hz : lk Item.n I u.1 <;> rw [hx, hz] at h1 <;> simp [pairL] at h1 <;> rw [← h1] at hy ⊢ <;> simp at hy ⊢ <;> exact hy
      obtain ⟨g1, g2⟩ := this
      obtain ⟨g3, g4⟩ := lk_some g1
      have := hfit y g3
      rw [g4] at this
      rw [g2]
      change ¬ (!decide (fnd t.l u.1 = y.b)) = true
      simp [this]
  obtain ⟨o1, o2⟩ := lk_filterMap (ka := fun t : Int × Option Line × Option Item => t.1) (kb := Line.n) (f := aft) (fun t i h => by
    unfold aft at h
    rw [Option.map_eq_some_iff] at h
    obtain ⟨r, _, rfl⟩ := h; rfl) m1
  have hol : (applyS t I).out.length ≤ 4096 := by
    have := mergeS_len (na := Line.n) (nb := Item.n) (step := stepA) (fun s => s.out.length) 1 (fun s n x y => stepA_len s n x y) t.l I ⟨false, [], t.next⟩
    change (applyS t I).out.length ≤ _ at this
    simp only [List.length_nil] at this; omega
  refine ⟨⟨(applyS t I).next, (applyS t I).out⟩, ?_, ⟨by have := ht.n0; simp only []; omega, f4, hol, by simp only []; rw [f1]; exact o1, fun x hx => ?_⟩, f3, fun n => ?_⟩
  · unfold apply
    rw [if_neg (by rw [valid_iff.2 ht]; simp), if_neg (by rw [hf]; simp)]
    simp only [hi]
    rw [if_neg (by rw [hgap]; simp), if_neg (by omega)]
  · simp only [] at hx ⊢
    rw [f1] at hx
    refine ⟨?_, f5 x hx⟩
    rw [List.mem_filterMap] at hx
    obtain ⟨u, hu, hx⟩ := hx
    have := hrng u hu
    unfold aft at hx
    rw [Option.map_eq_some_iff] at hx
    obtain ⟨r, _, rfl⟩ := hx
    exact this.1
  · unfold fnd
    simp only []
    rw [f1, o2, m2]
    cases hx : lk Line.n t.l n <;> cases hz : lk Item.n I n <;> simp [pairL, aft]
    all_goals
      rename_i i
      cases i.a <;> simp
/-- Applying the feed from a to b to a table with a's lines yields b's. -/
theorem apply_feed {a b t : Table} (ha : VT a) (hb : VT b) (ht : VT t) (h : t.l = a.l) (hlen : a.l.length ≤ 1000 ∧ b.l.length ≤ 1000) : ∃ x : Table, apply t (feed a b) = (x, 0) ∧ VT x ∧ t.next ≤ x.next ∧ x.l = b.l := by
  obtain ⟨f1, f2⟩ := feed_back ha hb
  have s := (feedItems_lk ha.srt hb.srt).1
  obtain ⟨s1, _⟩ := clean_lk s
  have hcl := feedItems_clean ha.srt hb.srt
  have hl : (clean (feedItems a.l b.l)).length ≤ a.l.length + b.l.length := by
    have h1 : (clean (feedItems a.l b.l)).length ≤ (feedItems a.l b.l).length := List.length_filterMap_le _ _
    have := mergeS_len (na := Line.n) (nb := Line.n) (step := fun out n x y => out ++ [(⟨n, x.map Line.r, y.map Line.r⟩ : Item)]) List.length 1 (fun s n x y => by simp) a.l b.l []
    change (feedItems a.l b.l).length ≤ _ at this
    simp at this; omega
  obtain ⟨x, e, hx, hn, hfx⟩ := apply_fits ht f1 f2 s1 (fun i hi => feedItems_inR ha hb i (clean_mem hi).1) (by rw [h]; omega) (fun i hi => by
    have h1 := lk_mem s1 hi
    rw [hcl] at h1
    split at h1
    · simp at h1
    · have h2 : some _ = some i := h1
      have h3 := Option.some.inj h2
      rw [h]
      exact (congrArg Item.b h3))
  refine ⟨x, e, hx, hn, fnd_ext hx.srt hb.srt fun n => ?_⟩
  rw [hfx, hcl]
  split
  · rename_i i hi
    split at hi
    · simp at hi
    · have h3 := Option.some.inj hi
      rw [← h3]
  · rename_i hi
    split at hi
    · rename_i he; rw [h]; exact he
    · simp at hi
theorem eventsOf_append : ∀ (a b : List Item), eventsOf (a ++ b) = eventsOf a ++ eventsOf b
  | [], b => rfl
  | x :: a, b => by rw [List.cons_append, eventsOf, eventsOf, eventsOf_append a b, List.append_assoc]
theorem lk_append {α : Type} (key : α → Int) (A B : List α) (n : Int) : lk key (A ++ B) n = (lk key A n).or (lk key B n) := by
  unfold lk; rw [List.find?_append]
theorem srt_append {α : Type} {key : α → Int} {A B : List α} (hA : Srt key A) (hB : Srt key B) (h : ∀ a ∈ A, ∀ b ∈ B, key a < key b) : Srt key (A ++ B) :=
  List.pairwise_append.2 ⟨hA, hB, h⟩
theorem addL_srtn (q : List (List Cell)) : ∀ n, Srt Line.n (addL n q) ∧ ∀ x ∈ addL n q, n ≤ x.n ∧ x.n < n + q.length := by
  induction q with
  | nil => intro n; exact ⟨List.Pairwise.nil, by simp [addL]⟩
  | cons r q ih =>
    intro n
    obtain ⟨a, b⟩ := ih (n + 1)
    refine ⟨Srt.mk (fun y hy => ?_) a, fun x hx => ?_⟩
    · have := (b y hy).1; show n < y.n; omega
    · simp only [addL, List.mem_cons] at hx
      rcases hx with rfl | hx
      · simp only [List.length_cons]; omega
      · have := b x hx; simp only [List.length_cons]; omega
theorem filter_fm {α : Type} (p : α → Bool) (L : List α) : L.filter p = L.filterMap fun a => if p a then some a else none := by
  induction L with
  | nil => rfl
  | cons a r ih => cases h : p a <;> simp [h, ih]
def goI (x : Line) : Item := ⟨x.n, some x.r, none⟩
def coI (x : Line) : Item := ⟨x.n, none, some x.r⟩
theorem eventsOf_go (L : List Line) : eventsOf (L.map goI) = L.map goneE := by
  induction L with
  | nil => rfl
  | cons x r ih => simp only [List.map_cons, eventsOf, ih, goI, goneE]; rfl
theorem eventsOf_co (q : List (List Cell)) : ∀ n, eventsOf ((addL n q).map coI) = addE n q := by
  induction q with
  | nil => intro n; rfl
  | cons x r ih => intro n; simp only [addL, addE, List.map_cons, eventsOf, ih, coI]; rfl
def afterT (t : Table) (m : List Cell → Bool) (rows : List (List Cell)) : Table := ⟨t.next + rows.length, t.l.filter (fun x => !m x.r) ++ addL t.next rows⟩
def touchT (t : Table) (m : List Cell → Bool) (rows : List (List Cell)) : List Event := (t.l.filter (fun x => m x.r)).map goneE ++ addE t.next rows
theorem after_vt {t : Table} (ht : VT t) (m : List Cell → Bool) (rows : List (List Cell)) (h : t.next + rows.length ≤ 4611686018427387904) (hl : (afterT t m rows).l.length ≤ 4096) : VT (afterT t m rows) := by
  obtain ⟨a, b⟩ := addL_srtn rows t.next
  have h0 := ht.n0
  refine ⟨by simp only [afterT]; omega, h, hl, srt_append (ht.srt.filter _) a fun x hx y hy => ?_, fun x hx => ?_⟩
  · have := (ht.rng x ((List.mem_filter.1 hx).1)).2
    have := (b y hy).1
    omega
  · simp only [afterT, List.mem_append] at hx ⊢
    rcases hx with hx | hx
    · have := ht.rng x ((List.mem_filter.1 hx).1); omega
    · have := b x hx; omega
theorem touch_feed {t : Table} (ht : VT t) (m : List Cell → Bool) (rows : List (List Cell)) (hx : VT (afterT t m rows)) : feed t (afterT t m rows) = touchT t m rows := by
  obtain ⟨a, b⟩ := addL_srtn rows t.next
  have e : touchT t m rows = eventsOf ((t.l.filter (fun x => m x.r)).map goI ++ (addL t.next rows).map coI) := by
    rw [eventsOf_append, eventsOf_go, eventsOf_co]; rfl
  rw [e, feed_def ht hx]
  have k1 := lk_filterMap (ka := Line.n) (kb := Line.n) (f := fun x : Line => if m x.r then some x else none) (by intro p q h; split at h <;> simp at h; rw [h]) ht.srt
  have k2 := lk_filterMap (ka := Line.n) (kb := Line.n) (f := fun x : Line => if !m x.r then some x else none) (by intro p q h; split at h <;> simp at h; rw [h]) ht.srt
  rw [← filter_fm (fun x : Line => m x.r)] at k1
  rw [← filter_fm (fun x : Line => !m x.r)] at k2
  have k3 := lk_filterMap (ka := Line.n) (kb := Item.n) (f := fun x : Line => some (goI x)) (by intro p q h; simp at h; rw [← h]; rfl) k1.1
  have k4 := lk_filterMap (ka := Line.n) (kb := Item.n) (f := fun x : Line => some (coI x)) (by intro p q h; simp at h; rw [← h]; rfl) a
  rw [← map_filterMap] at k3 k4
  have sI : Srt Item.n ((t.l.filter (fun x => m x.r)).map goI ++ (addL t.next rows).map coI) := by
    refine srt_append k3.1 k4.1 fun p hp q hq => ?_
    rw [List.mem_map] at hp hq
    obtain ⟨x, hx, rfl⟩ := hp
    obtain ⟨y, hy, rfl⟩ := hq
    have := (ht.rng x ((List.mem_filter.1 hx).1)).2
    have := (b y hy).1
    show x.n < y.n
    omega
  refine events_eq (feedItems_lk ht.srt hx.srt).1 sI fun n => ?_
  rw [feedItems_clean ht.srt hx.srt, (clean_lk sI).2, lk_append, k3.2, k4.2, k1.2]
  have hf : fnd (afterT t m rows).l n = (((lk Line.n t.l n).bind fun x => if !m x.r then some x else none).or (lk Line.n (addL t.next rows) n)).map Line.r := by
    unfold fnd afterT
    simp only []
    rw [lk_append, k2.2]
  rw [hf]
  unfold fnd
  cases h1 : lk Line.n t.l n with
  | some x =>
    obtain ⟨hm, hn⟩ := lk_some h1
    have hlow : lk Line.n (addL t.next rows) n = none := lk_low fun y hy => by have := (b y hy).1; have := (ht.rng x hm).2; omega
    rw [hlow]
    cases h2 : m x.r <;> simp [h2, goI, hn]
  | none =>
    cases h2 : lk Line.n (addL t.next rows) n with
    | none => simp
    | some y =>
      obtain ⟨_, hn⟩ := lk_some h2
      simp [coI, hn]
theorem apply_next {t x : Table} {l : List Event} (h : apply t l = (x, 0)) : x.next = t.next ∨ ∃ y ∈ x.l, x.next = y.n + 1 := by
  unfold apply at h
  split at h
  · simp at h
  · split at h
    · simp at h
    · have hi : (applyS t (itemsOf [] l)).next = t.next ∨ ∃ y ∈ (applyS t (itemsOf [] l)).out, (applyS t (itemsOf [] l)).next = y.n + 1 := by
        refine mergeS_inv (fun s : Ap => s.next = t.next ∨ ∃ y ∈ s.out, s.next = y.n + 1) _ _ _ (.inl rfl) ?_
        intro s n p q hs _ _
        unfold stepA
        simp only []
        split
        · simp only []
          split
          · exact .inr ⟨_, List.mem_append_right _ (List.mem_singleton.2 rfl), rfl⟩
          · rcases hs with hs | ⟨y, hy, e⟩
            · exact .inl hs
            · exact .inr ⟨y, by simp [hy], e⟩
        · exact hs
      simp only [] at h
      split at h
      · simp at h
      · split at h
        · simp at h
        · have h1 := congrArg Prod.fst h
          simp only [] at h1
          subst h1
          exact hi
/-- A table with so many lines, out of made rows. -/
theorem tab_inv (rows : List (List Cell)) : ∀ (s : List Line × Int), 0 ≤ s.2 → Srt Line.n s.1 → (∀ x ∈ s.1, 0 ≤ x.n ∧ x.n < s.2) →
    0 ≤ (rows.foldl tabStep s).2 ∧ (rows.foldl tabStep s).2 ≤ s.2 + 2 * rows.length ∧ Srt Line.n (rows.foldl tabStep s).1 ∧ (∀ x ∈ (rows.foldl tabStep s).1, 0 ≤ x.n ∧ x.n < (rows.foldl tabStep s).2) ∧ (rows.foldl tabStep s).1.length = s.1.length + rows.length ∧ (∀ x ∈ (rows.foldl tabStep s).1, x ∈ s.1 ∨ x.r ∈ rows) := by
  induction rows with
  | nil => intro s h0 h1 h2; exact ⟨h0, by simp, h1, h2, by simp, fun x hx => .inl hx⟩
  | cons r q ih =>
    intro s h0 h1 h2
    have key : ∀ m : Int, s.2 ≤ m → m ≤ s.2 + 1 → tabStep s r = (s.1 ++ [⟨m, r⟩], m + 1) → _ := fun m hm hm2 e => by
      have := ih (s.1 ++ [⟨m, r⟩], m + 1) (by simp only []; omega) (srt_append h1 (List.pairwise_singleton _ _) fun a ha b hb => by simp at hb; rw [hb]; have := (h2 a ha).2; simp only []; omega) (fun x hx => by
        simp only [List.mem_append, List.mem_singleton] at hx
        rcases hx with hx | rfl
        · have := h2 x hx; simp only []; omega
        · simp only []; omega)
      rw [← e] at this
      exact this
    have hst : ∃ m : Int, s.2 ≤ m ∧ m ≤ s.2 + 1 ∧ tabStep s r = (s.1 ++ [⟨m, r⟩], m + 1) := by
      unfold tabStep
      cases decide (s.2.tmod 3 = 2) with
      | true => exact ⟨s.2 + 1, by omega, by omega, rfl⟩
      | false => exact ⟨s.2, by omega, by omega, rfl⟩
    obtain ⟨m, m1, m2, e⟩ := hst
    obtain ⟨a1, a2, a3, a4, a5, a6⟩ := key m m1 m2 e
    rw [List.foldl_cons]
    have e1 : (tabStep s r).1.length = s.1.length + 1 := by rw [e]; simp
    have e2 : (tabStep s r).2 = m + 1 := by rw [e]
    refine ⟨a1, by rw [List.length_cons]; omega, a3, a4, by rw [a5, e1, List.length_cons]; omega, fun x hx => ?_⟩
    rcases a6 x hx with h | h
    · rw [e] at h
      simp only [List.mem_append, List.mem_singleton] at h
      rcases h with h | rfl
      · exact .inl h
      · exact .inr (by simp)
    · exact .inr (by simp [h])
theorem tabS_ok (fs : List Fld) (raw : List (List Val)) (n : Int) (h0 : 0 ≤ n) (hn : n ≤ 4096) : VT (tabS fs raw n) ∧ (tabS fs raw n).l.length ≤ n.toNat ∧ (tabS fs raw n).next ≤ 2 * n ∧ ∀ x ∈ (tabS fs raw n).l, x.r.length ≤ fs.length := by
  have hl : ((raw.take n.toNat).map (rowS fs)).length ≤ n.toNat := by rw [List.length_map, List.length_take]; exact Nat.min_le_left ..
  obtain ⟨i1, i2, i3, i4, i5, i6⟩ := tab_inv ((raw.take n.toNat).map (rowS fs)) ([], 0) (by simp) List.Pairwise.nil (by simp)
  simp only [List.length_nil] at i2 i5
  unfold tabS
  refine ⟨⟨i1, by simp only []; omega, by simp only []; omega, i3, i4⟩, by simp only []; omega, by simp only []; omega, fun x hx => ?_⟩
  rcases i6 x hx with h | h
  · simp at h
  · rw [List.mem_map] at h
    obtain ⟨q, _, hq⟩ := h
    rw [← hq]
    exact rowS_len fs q
theorem chg_ok {n : Int} {b a : Option (List Cell)} (hb : lenB b) (ha : lenB a) : okE (chg n b a) := by
  intro e he
  unfold chg at he
  split at he
  · simp at he
  · cases b <;> cases a <;> simp at he
    · subst he; exact ha _ rfl
    · subst he; exact hb _ rfl
    · rcases he with rfl | rfl
      · exact hb _ rfl
      · exact ha _ rfl
theorem eventsOf_ok : ∀ {L : List Item}, (∀ i ∈ L, okI i) → okE (eventsOf L)
  | [], _ => by simp [eventsOf, okE]
  | i :: r, h => by
    intro e he
    rw [eventsOf, List.mem_append] at he
    rcases he with he | he
    · exact chg_ok (h i (by simp)).1 (h i (by simp)).2 e he
    · exact eventsOf_ok (fun j hj => h j (by simp [hj])) e he
theorem eventsOf_len : ∀ (L : List Item), (eventsOf L).length ≤ 2 * L.length
  | [] => by simp [eventsOf]
  | i :: r => by
    have := eventsOf_len r
    have := chg_len i.n i.b i.a
    rw [eventsOf]; simp; omega
theorem feedItems_ok {a b : List Line} (ha : okL a) (hb : okL b) : ∀ i ∈ feedItems a b, okI i :=
  mergeS_inv (fun (out : List Item) => ∀ i ∈ out, okI i) a b [] (by simp) fun s n x y hp hx hy i hi => by
    simp at hi
    rcases hi with hi | rfl
    · exact hp i hi
    · exact ⟨fun r hr => by
        cases x with
        | none => simp at hr
        | some x => simp at hr; subst hr; exact ha x (hx x rfl), fun r hr => by
        cases y with
        | none => simp at hr
        | some y => simp at hr; subst hr; exact hb y (hy y rfl)⟩
theorem feedItems_len (a b : List Line) : (feedItems a b).length ≤ a.length + b.length := by
  have := mergeS_len (na := Line.n) (nb := Line.n) (step := fun out n x y => out ++ [(⟨n, x.map Line.r, y.map Line.r⟩ : Item)]) List.length 1 (fun s n x y => by simp) a b []
  change (feedItems a b).length ≤ _ at this
  simp at this; omega
theorem feed_ok {a b : Table} (ha : okL a.l) (hb : okL b.l) : okE (feed a b) := by
  unfold feed
  split
  · exact eventsOf_ok (feedItems_ok ha hb)
  · simp [okE]
theorem feed_len (a b : Table) : (feed a b).length ≤ 2 * (a.l.length + b.l.length) := by
  unfold feed
  split
  · have := eventsOf_len (feedItems a.l b.l)
    have := feedItems_len a.l b.l
    omega
  · simp
theorem Feed_small {a b : Table} (ha : a.l.length ≤ 5000 ∧ okL a.l) (hb : b.l.length ≤ 5000 ∧ okL b.l) : Den prog 21 [.agg [.int .i64 a.next, .sl (a.l.map Line.cells)], .agg [.int .i64 b.next, .sl (b.l.map Line.cells)]] [] = some (.sl ((feed a b).map Event.cells), []) :=
  lineage_Feed a b (by omega) (by omega) ha.2 hb.2
theorem Apply_small {t : Table} {l : List Event} (ht : t.l.length ≤ 5000 ∧ okL t.l) (hl : l.length ≤ 5000 ∧ okE l) {x : Table} {e : Int} (h : apply t l = (x, e)) :
    Den prog 17 [.agg [.int .i64 t.next, .sl (t.l.map Line.cells)], .sl (l.map Event.cells)] [] = some (.tup [.agg [.int .i64 x.next, .sl (x.l.map Line.cells)], .int .i64 e], []) := by
  have := lineage_Apply t l (by omega) (by omega) ht.2 hl.2
  rw [h] at this; exact this
theorem Invert_small {a : List Event} (ha : a.length ≤ 5000 ∧ okE a) {c : List Event} (h : invert a = c) : Den prog 24 [.sl (a.map Event.cells)] [] = some (.sl (c.map Event.cells), []) := by
  rw [← h]; exact lineage_Invert a (by omega) ha.2
theorem touch_small {t : Table} {m : List Cell → Bool} {rows : List (List Cell)} (ht : t.l.length ≤ 40 ∧ okL t.l) (hr : rows.length ≤ 4 ∧ ∀ r ∈ rows, r.length < 1000000000000000) : (touchT t m rows).length ≤ 44 ∧ okE (touchT t m rows) := by
  have h1 := List.length_filter_le (fun x : Line => m x.r) t.l
  refine ⟨by unfold touchT; rw [List.length_append, List.length_map, addE_len]; omega, fun e he => ?_⟩
  unfold touchT at he
  rw [List.mem_append, List.mem_map] at he
  rcases he with ⟨x, hx, rfl⟩ | he
  · exact ht.2 x (List.mem_filter.1 hx).1
  · have key : ∀ (q : List (List Cell)) (n : Int), (∀ r ∈ q, r.length < 1000000000000000) → ∀ e ∈ addE n q, e.l.r.length < 1000000000000000 := by
      intro q
      induction q with
      | nil => intro n _ e he; simp [addE] at he
      | cons r q ih =>
        intro n h e he
        simp only [addE, List.mem_cons] at he
        rcases he with rfl | he
        · exact h r (by simp)
        · exact ih (n + 1) (fun x hx => h x (by simp [hx])) e he
    exact key rows t.next hr.2 e he
theorem after_small {t : Table} {m : List Cell → Bool} {rows : List (List Cell)} (ht : t.l.length ≤ 40 ∧ okL t.l) (hr : rows.length ≤ 4 ∧ ∀ r ∈ rows, r.length < 1000000000000000) : (afterT t m rows).l.length ≤ 44 ∧ okL (afterT t m rows).l := by
  have h1 := List.length_filter_le (fun x : Line => !m x.r) t.l
  refine ⟨by simp only [afterT]; rw [List.length_append, addL_len]; omega, fun x hx => ?_⟩
  simp only [afterT, List.mem_append] at hx
  rcases hx with hx | hx
  · exact ht.2 x (List.mem_filter.1 hx).1
  · have key : ∀ (q : List (List Cell)) (n : Int), (∀ r ∈ q, r.length < 1000000000000000) → ∀ e ∈ addL n q, e.r.length < 1000000000000000 := by
      intro q
      induction q with
      | nil => intro n _ e he; simp [addL] at he
      | cons r q ih =>
        intro n h e he
        simp only [addL, List.mem_cons] at he
        rcases he with rfl | he
        · exact h r (by simp)
        · exact ih (n + 1) (fun x hx => h x (by simp [hx])) e he
    exact key rows t.next hr.2 x hx
theorem proS_add (fs : List Fld) (x : Raw) : (proS fs x).add.length ≤ 4 ∧ ∀ r ∈ (proS fs x).add, r.length ≤ fs.length := by
  refine ⟨by simp only [proS]; rw [List.length_map, List.length_take]; exact Nat.min_le_left .., fun r hr => ?_⟩
  simp only [proS, List.mem_map] at hr
  obtain ⟨q, _, rfl⟩ := hr
  exact rowS_len fs q
end Go.Den
