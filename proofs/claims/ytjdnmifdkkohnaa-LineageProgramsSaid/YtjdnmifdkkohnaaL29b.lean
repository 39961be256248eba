/- Ch. 29, in plain Lean: lists with rising numbers, and what feeds do to tables. -/
import Derived.Test.YtjdnmifdkkohnaaL29a
namespace Go.Den
open Go
set_option linter.unusedSimpArgs false
set_option linter.unusedVariables false
set_option maxRecDepth 100000
set_option maxHeartbeats 1000000
section keyed
variable {α β γ : Type}
def Srt (key : α → Int) (L : List α) : Prop := L.Pairwise fun a b => key a < key b
def lk (key : α → Int) (L : List α) (n : Int) : Option α := L.find? fun a => decide (key a = n)
theorem lk_nil (key : α → Int) (n : Int) : lk key [] n = none := rfl
theorem lk_cons (key : α → Int) (a : α) (L : List α) (n : Int) : lk key (a :: L) n = if key a = n then some a else lk key L n := by
  simp only [lk, List.find?_cons]
  by_cases h : key a = n <;> simp [h]
theorem lk_some {key : α → Int} : ∀ {L : List α} {n : Int} {a : α}, lk key L n = some a → a ∈ L ∧ key a = n
  | [], n, a, h => by simp [lk_nil] at h
  | b :: L, n, a, h => by
    rw [lk_cons] at h
    split at h
    · rename_i hb; simp at h; subst h; exact ⟨by simp, hb⟩
    · obtain ⟨h1, h2⟩ := lk_some h; exact ⟨by simp [h1], h2⟩
theorem lk_low {key : α → Int} {L : List α} {n : Int} (h : ∀ a ∈ L, n < key a) : lk key L n = none := by
  cases hl : lk key L n with
  | none => rfl
  | some a => obtain ⟨h1, h2⟩ := lk_some hl; have := h a h1; omega
theorem Srt.cons {key : α → Int} {a : α} {L : List α} (h : Srt key (a :: L)) : (∀ b ∈ L, key a < key b) ∧ Srt key L := List.pairwise_cons.1 h
theorem Srt.mk {key : α → Int} {a : α} {L : List α} (h1 : ∀ b ∈ L, key a < key b) (h2 : Srt key L) : Srt key (a :: L) := List.pairwise_cons.2 ⟨h1, h2⟩
theorem lk_mem {key : α → Int} : ∀ {L : List α}, Srt key L → ∀ {a : α}, a ∈ L → lk key L (key a) = some a
  | [], _, a, h => by simp at h
  | b :: L, hs, a, h => by
    obtain ⟨h1, h2⟩ := hs.cons
    rw [lk_cons]
    simp at h
    rcases h with rfl | h
    · simp
    · have := h1 a h
      rw [if_neg (by omega)]
      exact lk_mem h2 h
theorem lk_ext {key : α → Int} : ∀ {L M : List α}, Srt key L → Srt key M → (∀ n, lk key L n = lk key M n) → L = M
  | [], [], _, _, _ => rfl
  | [], b :: M, _, _, h => by have := h (key b); rw [lk_nil, lk_cons, if_pos rfl] at this; simp at this
  | a :: L, [], _, _, h => by have := h (key a); rw [lk_nil, lk_cons, if_pos rfl] at this; simp at this
  | a :: L, b :: M, hL, hM, h => by
    obtain ⟨l1, l2⟩ := hL.cons
    obtain ⟨m1, m2⟩ := hM.cons
    have ha := h (key a)
    have hb := h (key b)
    rw [lk_cons, if_pos rfl, lk_cons] at ha
    rw [lk_cons, lk_cons (n := key b), if_pos rfl] at hb
    have hk : key a = key b := by
      rcases Int.lt_trichotomy (key a) (key b) with hlt | he | hgt
      · rw [if_neg (by omega), lk_low (fun c hc => by have := m1 c hc; omega)] at ha; simp at ha
      · exact he
      · rw [if_neg (by omega), lk_low (fun c hc => by have := l1 c hc; omega)] at hb; simp at hb
    rw [if_pos hk.symm] at ha
    have hab : a = b := by simpa using ha
    subst hab
    have : L = M := lk_ext l2 m2 fun n => by
      have := h n
      rw [lk_cons, lk_cons] at this
      by_cases hn : key a = n
      · rw [lk_low (fun c hc => by have := l1 c hc; omega), lk_low (fun c hc => by have := m1 c hc; omega)]
      · rw [if_neg hn, if_neg hn] at this; exact this
    rw [this]
theorem lk_filterMap {ka : α → Int} {kb : β → Int} {f : α → Option β} (hf : ∀ a b, f a = some b → kb b = ka a) : ∀ {L : List α}, Srt ka L → Srt kb (L.filterMap f) ∧ ∀ n, lk kb (L.filterMap f) n = (lk ka L n).bind f
  | [], _ => ⟨List.Pairwise.nil, fun n => rfl⟩
  | a :: L, h => by
    obtain ⟨h1, h2⟩ := h.cons
    obtain ⟨i1, i2⟩ := lk_filterMap hf h2
    have hmem : ∀ b ∈ L.filterMap f, ∃ c ∈ L, kb b = ka c := by
      intro b hb
      rw [List.mem_filterMap] at hb
      obtain ⟨c, hc, hcb⟩ := hb
      exact ⟨c, hc, hf c b hcb⟩
    rw [List.filterMap_cons]
    cases hfa : f a with
    | none =>
      refine ⟨i1, fun n => ?_⟩
      rw [lk_cons ka]
      by_cases hn : ka a = n
      · rw [if_pos hn]
        simp only [Option.bind_some, hfa]
        exact lk_low fun b hb => by obtain ⟨c, hc, e⟩ := hmem b hb; have := h1 c hc; omega
      · rw [if_neg hn]; exact i2 n
    | some b =>
      have hb := hf a b hfa
      refine ⟨Srt.mk (fun c hc => by obtain ⟨d, hd, e⟩ := hmem c hc; have := h1 d hd; omega) i1, fun n => ?_⟩
      rw [lk_cons kb, lk_cons ka, hb]
      by_cases hn : ka a = n
      · rw [if_pos hn, if_pos hn]; simp [hfa]
      · rw [if_neg hn, if_neg hn]; exact i2 n
/-- The lists' elements side by side. -/
def mergeL (ka : α → Int) (kb : β → Int) : List α → List β → List (Int × Option α × Option β)
  | [], [] => []
  | x :: a, [] => (ka x, some x, none) :: mergeL ka kb a []
  | [], y :: b => (kb y, none, some y) :: mergeL ka kb [] b
  | x :: a, y :: b => if ka x < kb y then (ka x, some x, none) :: mergeL ka kb a (y :: b)
      else if kb y < ka x then (kb y, none, some y) :: mergeL ka kb (x :: a) b
      else (ka x, some x, some y) :: mergeL ka kb a b
termination_by a b => a.length + b.length
theorem mergeS_fold {S : Type} (ka : α → Int) (kb : β → Int) (step : S → Int → Option α → Option β → S) : ∀ (a : List α) (b : List β) (s : S),
    mergeS ka kb step s a b = (mergeL ka kb a b).foldl (fun s t => step s t.1 t.2.1 t.2.2) s
  | [], [], s => by rw [mergeS, mergeL]; rfl
  | x :: a, [], s => by rw [mergeS, mergeL, mergeS_fold ka kb step a []]; rfl
  | [], y :: b, s => by rw [mergeS, mergeL, mergeS_fold ka kb step [] b]; rfl
  | x :: a, y :: b, s => by
    rw [mergeS, mergeL]
    split
    · rw [mergeS_fold ka kb step a (y :: b)]; rfl
    · split
      · rw [mergeS_fold ka kb step (x :: a) b]; rfl
      · rw [mergeS_fold ka kb step a b]; rfl
termination_by a b => a.length + b.length
def pairL (n : Int) : Option α → Option β → Option (Int × Option α × Option β)
  | none, none => none
  | x, y => some (n, x, y)
theorem mergeL_keys {ka : α → Int} {kb : β → Int} {m : Int} : ∀ {a : List α} {b : List β}, (∀ x ∈ a, m < ka x) → (∀ y ∈ b, m < kb y) → ∀ t ∈ mergeL ka kb a b, m < t.1
  | [], [], _, _, t, h => by rw [mergeL] at h; simp at h
  | x :: a, [], ha, hb, t, h => by
    rw [mergeL] at h; simp at h
    rcases h with rfl | h
    · exact ha x (by simp)
    · exact mergeL_keys (fun z hz => ha z (by simp [hz])) hb t h
  | [], y :: b, ha, hb, t, h => by
    rw [mergeL] at h; simp at h
    rcases h with rfl | h
    · exact hb y (by simp)
    · exact mergeL_keys ha (fun z hz => hb z (by simp [hz])) t h
  | x :: a, y :: b, ha, hb, t, h => by
    rw [mergeL] at h
    split at h
    · simp at h
      rcases h with rfl | h
      · exact ha x (by simp)
      · exact mergeL_keys (fun z hz => ha z (by simp [hz])) hb t h
    · split at h
      · simp at h
        rcases h with rfl | h
        · exact hb y (by simp)
        · exact mergeL_keys ha (fun z hz => hb z (by simp [hz])) t h
      · simp at h
        rcases h with rfl | h
        · exact ha x (by simp)
        · exact mergeL_keys (fun z hz => ha z (by simp [hz])) (fun z hz => hb z (by simp [hz])) t h
termination_by a b => a.length + b.length
theorem pairL_some (n : Int) (x : α) (y : Option β) : pairL n (some x) y = some (n, some x, y) := by cases y <;> rfl
theorem pairL_none (n : Int) (y : β) : pairL n (none : Option α) (some y) = some (n, none, some y) := rfl
theorem mergeL_lk {ka : α → Int} {kb : β → Int} : ∀ {a : List α} {b : List β}, Srt ka a → Srt kb b → Srt (·.1) (mergeL ka kb a b) ∧ ∀ n, lk (·.1) (mergeL ka kb a b) n = pairL n (lk ka a n) (lk kb b n)
  | [], [], _, _ => by rw [mergeL]; exact ⟨List.Pairwise.nil, fun n => rfl⟩
  | x :: a, [], ha, hb => by
    obtain ⟨h1, h2⟩ := ha.cons
    obtain ⟨i1, i2⟩ := mergeL_lk h2 hb
    rw [mergeL]
    refine ⟨Srt.mk (mergeL_keys h1 (by simp)) i1, fun n => ?_⟩
    rw [lk_cons, lk_cons]
    simp only []
    split
    · rename_i hn; subst hn; rw [pairL_some]; rfl
    · exact i2 n
  | [], y :: b, ha, hb => by
    obtain ⟨h1, h2⟩ := hb.cons
    obtain ⟨i1, i2⟩ := mergeL_lk ha h2
    rw [mergeL]
    refine ⟨Srt.mk (mergeL_keys (by simp) h1) i1, fun n => ?_⟩
    rw [lk_cons, lk_cons (key := kb)]
    simp only []
    split
    · rename_i hn; subst hn; rfl
    · exact i2 n
  | x :: a, y :: b, ha, hb => by
    obtain ⟨a1, a2⟩ := ha.cons
    obtain ⟨b1, b2⟩ := hb.cons
    rw [mergeL]
    split
    · rename_i c
      obtain ⟨i1, i2⟩ := mergeL_lk a2 hb
      have hy : ∀ z ∈ y :: b, ka x < kb z := by
        intro z hz; simp at hz
        rcases hz with rfl | hz
        · exact c
        · have := b1 z hz; omega
      refine ⟨Srt.mk (mergeL_keys a1 hy) i1, fun n => ?_⟩
      rw [lk_cons, lk_cons (key := ka)]
      simp only []
      split
      · rename_i hn; subst hn; rw [pairL_some, lk_low hy]
      · exact i2 n
    · split
      · rename_i c1 c
        obtain ⟨i1, i2⟩ := mergeL_lk ha b2
        have hx : ∀ z ∈ x :: a, kb y < ka z := by
          intro z hz; simp at hz
          rcases hz with rfl | hz
          · exact c
          · have := a1 z hz; omega
        refine ⟨Srt.mk (mergeL_keys hx b1) i1, fun n => ?_⟩
        rw [lk_cons, lk_cons (key := kb)]
        simp only []
        split
        · rename_i hn; subst hn; rw [lk_low hx]; rfl
        · exact i2 n
      · rename_i c1 c2
        have c : ka x = kb y := by omega
        obtain ⟨i1, i2⟩ := mergeL_lk a2 b2
        refine ⟨Srt.mk (mergeL_keys a1 (fun z hz => by have := b1 z hz; omega)) i1, fun n => ?_⟩
        rw [lk_cons, lk_cons (key := ka), lk_cons (key := kb)]
        simp only []
        split
        · rename_i hn; subst hn; rw [if_pos c.symm]; rfl
        · rename_i hn; rw [if_neg (by omega)]; exact i2 n
termination_by a b => a.length + b.length
end keyed
theorem fold_append {α β : Type} (g : α → β) : ∀ (L : List α) (out : List β), L.foldl (fun s t => s ++ [g t]) out = out ++ L.map g
  | [], out => by simp
  | x :: L, out => by rw [List.foldl_cons, fold_append g L]; simp
/-- The row of a number. -/
def fnd (L : List Line) (n : Int) : Option (List Cell) := (lk Line.n L n).map Line.r
theorem fnd_ext {L M : List Line} (hL : Srt Line.n L) (hM : Srt Line.n M) (h : ∀ n, fnd L n = fnd M n) : L = M := by
  refine lk_ext hL hM fun n => ?_
  have := h n
  unfold fnd at this
  cases h1 : lk Line.n L n with
  | none => cases h2 : lk Line.n M n with
    | none => rfl
    | some b => simp [h1, h2] at this
  | some a => cases h2 : lk Line.n M n with
    | none => simp [h1, h2] at this
    | some b =>
      simp [h1, h2] at this
      obtain ⟨_, e1⟩ := lk_some h1
      obtain ⟨_, e2⟩ := lk_some h2
      obtain ⟨n1, r1⟩ := a
      obtain ⟨n2, r2⟩ := b
      simp at this e1 e2
      rw [this, e1, e2]
def clean (I : List Item) : List Item := I.filterMap fun i => if i.b = i.a then none else some i
theorem clean_lk {I : List Item} (h : Srt Item.n I) : Srt Item.n (clean I) ∧ ∀ n, lk Item.n (clean I) n = (lk Item.n I n).bind fun i => if i.b = i.a then none else some i :=
  lk_filterMap (fun a b hab => by split at hab <;> simp at hab; rw [hab]) h
theorem eventsOf_clean : ∀ (I : List Item), eventsOf (clean I) = eventsOf I
  | [] => rfl
  | i :: r => by
    have ih := eventsOf_clean r
    simp only [clean] at ih ⊢
    rw [List.filterMap_cons]
    by_cases h : i.b = i.a
    · simp only [h, if_true]
      rw [ih, eventsOf, h]; simp [chg]
    · simp only [h, if_false]
      rw [eventsOf, eventsOf, ih]
theorem clean_mem {I : List Item} {i : Item} : i ∈ clean I → i ∈ I ∧ i.b ≠ i.a := by
  intro h
  simp only [clean, List.mem_filterMap] at h
  obtain ⟨j, hj, e⟩ := h
  split at e
  · simp at e
  · rename_i hne; simp at e; subst e; exact ⟨hj, hne⟩
def inR (I : List Item) : Prop := ∀ i ∈ I, 0 ≤ i.n ∧ i.n < 4611686018427387904
theorem itemsOf_events : ∀ (I : List Item) (out : List Item), Srt Item.n I → (∀ i ∈ I, i.b ≠ i.a) → (∀ y, out.getLast? = some y → ∀ i ∈ I, y.n < i.n) → itemsOf out (eventsOf I) = out ++ I
  | [], out, _, _, _ => by simp [eventsOf, itemsOf]
  | i :: r, out, hs, hc, ho => by
    obtain ⟨h1, h2⟩ := hs.cons
    have hci := hc i (by simp)
    have ih := itemsOf_events r (out ++ [i]) h2 (fun j hj => hc j (by simp [hj])) (fun y hy j hj => by simp at hy; subst hy; exact h1 j hj)
    have hadd : ∀ e : Event, e.l.n = i.n → addEv out e = out ++ [Item.upd ⟨i.n, none, none⟩ e] := by
      intro e he
      unfold addEv
      cases hl : out.getLast? with
      | none => simp [he]
      | some y =>
        have := ho y hl i (by simp)
        simp only []
        rw [if_neg (by omega), he]
    have hadd2 : ∀ (j : Item) (e : Event), e.l.n = j.n → addEv (out ++ [j]) e = out ++ [j.upd e] := by
      intro j e he
      unfold addEv
      simp [he]
    obtain ⟨n, b, a⟩ := i
    simp only [] at hci hadd
    rw [eventsOf]
    cases b with
    | none => cases a with
      | none => exact absurd rfl hci
      | some s =>
        simp only [chg, reduceCtorEq, if_false, List.nil_append, List.cons_append, itemsOf]
        rw [hadd _ rfl]
        simp only [Item.upd]
        rw [if_neg (by decide), ih]; simp
    | some r0 => cases a with
      | none =>
        simp only [chg, reduceCtorEq, if_false, List.nil_append, List.cons_append, itemsOf, List.append_nil]
        rw [hadd _ rfl]
        simp only [Item.upd, if_true]
        rw [ih]; simp
      | some s =>
        simp only [chg, if_neg hci, List.nil_append, List.cons_append, itemsOf]
        rw [hadd _ rfl]
        simp only [Item.upd, if_true]
        rw [hadd2 _ _ rfl]
        simp only [Item.upd]
        rw [if_neg (by decide), ih]; simp
theorem feedOk_events : ∀ (I : List Item) (p : Option Event), Srt Item.n I → (∀ i ∈ I, i.b ≠ i.a) → inR I → (∀ y, p = some y → ∀ i ∈ I, y.l.n < i.n) → feedOk p (eventsOf I) = true
  | [], p, _, _, _, _ => by simp only [eventsOf]; cases p <;> rfl
  | i :: r, p, hs, hc, hr, hp => by
    obtain ⟨h1, h2⟩ := hs.cons
    have hci := hc i (by simp)
    have hri := hr i (by simp)
    have ih := fun e : Event => fun he : e.l.n = i.n => feedOk_events r (some e) h2 (fun j hj => hc j (by simp [hj])) (fun j hj => hr j (by simp [hj])) (fun y hy j hj => by simp at hy; subst hy; rw [he]; exact h1 j hj)
    have hfst : ∀ (e : Event) (L : List Event), (e.kind = 1 ∨ e.kind = 2) → e.l.n = i.n → feedOk (some e) L = true → feedOk p (e :: L) = true := by
      intro e L hk he hL
      cases p with
      | none => rw [feedOk, if_neg (by omega)]; exact hL
      | some y =>
        have := hp y rfl i (by simp)
        rw [feedOk, if_neg (by omega), if_pos (by omega)]; exact hL
    obtain ⟨n, b, a⟩ := i
    simp only [] at hci hri ih hfst
    rw [eventsOf]
    cases b with
    | none => cases a with
      | none => exact absurd rfl hci
      | some s =>
        simp only [chg, reduceCtorEq, if_false, List.nil_append, List.cons_append]
        exact hfst _ _ (.inl rfl) rfl (ih _ rfl)
    | some r0 => cases a with
      | none =>
        simp only [chg, reduceCtorEq, if_false, List.nil_append, List.cons_append, List.append_nil]
        exact hfst _ _ (.inr rfl) rfl (ih _ rfl)
      | some s =>
        simp only [chg, if_neg hci, List.nil_append, List.cons_append]
        refine hfst _ _ (.inr rfl) rfl ?_
        have hrs : s ≠ r0 := fun e => hci (by rw [e])
        rw [feedOk, if_neg (by simp; omega), if_neg (by simp), if_neg (by simp; exact hrs)]
        exact ih _ rfl
/-- What isFeed and items make of the events of items. -/
theorem back_items {I : List Item} (hs : Srt Item.n I) (hr : inR I) : feedOk none (eventsOf I) = true ∧ itemsOf [] (eventsOf I) = clean I := by
  obtain ⟨c1, _⟩ := clean_lk hs
  rw [← eventsOf_clean]
  refine ⟨feedOk_events _ none c1 (fun i hi => (clean_mem hi).2) (fun i hi => hr i (clean_mem hi).1) (by simp), ?_⟩
  rw [itemsOf_events _ [] c1 (fun i hi => (clean_mem hi).2) (by simp)]; rfl
theorem rise_srt : ∀ {L : List Line} {last nx : Int}, rise nx last L = true → Srt Line.n L ∧ ∀ x ∈ L, last < x.n
  | [], _, _, _ => ⟨List.Pairwise.nil, by simp⟩
  | x :: r, last, nx, h => by
    rw [rise] at h
    split at h
    · exact absurd h (by simp)
    · rename_i hx
      obtain ⟨i1, i2⟩ := rise_srt h
      refine ⟨Srt.mk i2 i1, fun y hy => ?_⟩
      simp at hy
      rcases hy with rfl | hy
      · omega
      · have := i2 y hy; omega
theorem srt_rise : ∀ {L : List Line} {last nx : Int}, Srt Line.n L → (∀ x ∈ L, last < x.n ∧ 0 ≤ x.n ∧ x.n < nx) → rise nx last L = true
  | [], _, _, _, _ => rfl
  | x :: r, last, nx, hs, h => by
    obtain ⟨h1, h2⟩ := hs.cons
    have hx := h x (by simp)
    rw [rise, if_neg (by omega)]
    exact srt_rise h2 fun y hy => ⟨h1 y hy, (h y (by simp [hy])).2⟩
structure VT (t : Table) : Prop where
  n0 : 0 ≤ t.next
  n1 : t.next ≤ 4611686018427387904
  len : t.l.length ≤ 4096
  srt : Srt Line.n t.l
  rng : ∀ x ∈ t.l, 0 ≤ x.n ∧ x.n < t.next
theorem valid_iff {t : Table} : valid t = true ↔ VT t := by
  unfold valid
  constructor
  · intro h
    split at h
    · exact absurd h (by simp)
    · exact ⟨by omega, by omega, by omega, (rise_srt h).1, rise_all h⟩
  · intro h
    have h0 := h.n0
    have h1 := h.n1
    have h2 := h.len
    rw [if_neg (by omega)]
    exact srt_rise h.srt fun x hx => by have := h.rng x hx; omega
/-! Feeds between tables. -/
theorem feedItems_merge (a b : List Line) : feedItems a b = (mergeL Line.n Line.n a b).map fun t => ⟨t.1, t.2.1.map Line.r, t.2.2.map Line.r⟩ := by
  unfold feedItems
  rw [mergeS_fold]
  exact fold_append (fun t : Int × Option Line × Option Line => (⟨t.1, t.2.1.map Line.r, t.2.2.map Line.r⟩ : Item)) _ []
theorem map_filterMap {α β : Type} (f : α → β) (L : List α) : L.map f = L.filterMap fun a => some (f a) := by
  induction L with
  | nil => rfl
  | cons a L ih => rw [List.map_cons, List.filterMap_cons, ih]
theorem feedItems_lk {a b : List Line} (ha : Srt Line.n a) (hb : Srt Line.n b) : Srt Item.n (feedItems a b) ∧ ∀ n, lk Item.n (feedItems a b) n = (pairL n (lk Line.n a n) (lk Line.n b n)).map fun t => ⟨t.1, t.2.1.map Line.r, t.2.2.map Line.r⟩ := by
  obtain ⟨m1, m2⟩ := mergeL_lk ha hb
  rw [feedItems_merge, map_filterMap]
  obtain ⟨q1, q2⟩ := lk_filterMap (ka := fun t : Int × Option Line × Option Line => t.1) (kb := Item.n) (f := fun t => some (⟨t.1, t.2.1.map Line.r, t.2.2.map Line.r⟩ : Item)) (fun t i h => by simp at h; subst h; rfl) m1
  refine ⟨q1, fun n => ?_⟩
  rw [q2, m2]
  cases lk Line.n a n <;> cases lk Line.n b n <;> rfl
theorem feedItems_clean {a b : List Line} (ha : Srt Line.n a) (hb : Srt Line.n b) (n : Int) : lk Item.n (clean (feedItems a b)) n = if fnd a n = fnd b n then none else some ⟨n, fnd a n, fnd b n⟩ := by
  obtain ⟨s, h⟩ := feedItems_lk ha hb
  rw [(clean_lk s).2, h]
  unfold fnd
  cases lk Line.n a n <;> cases lk Line.n b n <;> simp [pairL]
theorem mergeL_mem {α β : Type} {ka : α → Int} {kb : β → Int} : ∀ {a : List α} {b : List β} {t : Int × Option α × Option β}, t ∈ mergeL ka kb a b → (∃ x ∈ a, t.1 = ka x) ∨ (∃ y ∈ b, t.1 = kb y)
  | [], [], t, h => by rw [mergeL] at h; simp at h
  | x :: a, [], t, h => by
    rw [mergeL] at h; simp at h
    rcases h with rfl | h
    · exact .inl ⟨x, by simp, rfl⟩
    · rcases mergeL_mem h with ⟨z, hz, e⟩ | ⟨z, hz, e⟩
      · exact .inl ⟨z, by simp [hz], e⟩
      · exact .inr ⟨z, hz, e⟩
  | [], y :: b, t, h => by
    rw [mergeL] at h; simp at h
    rcases h with rfl | h
    · exact .inr ⟨y, by simp, rfl⟩
    · rcases mergeL_mem h with ⟨z, hz, e⟩ | ⟨z, hz, e⟩
      · exact .inl ⟨z, hz, e⟩
      · exact .inr ⟨z, by simp [hz], e⟩
  | x :: a, y :: b, t, h => by
    rw [mergeL] at h
    split at h
    · simp at h
      rcases h with rfl | h
      · exact .inl ⟨x, by simp, rfl⟩
      · rcases mergeL_mem h with ⟨z, hz, e⟩ | ⟨z, hz, e⟩
        · exact .inl ⟨z, by simp [hz], e⟩
        · exact .inr ⟨z, hz, e⟩
    · split at h
      · simp at h
        rcases h with rfl | h
        · exact .inr ⟨y, by simp, rfl⟩
        · rcases mergeL_mem h with ⟨z, hz, e⟩ | ⟨z, hz, e⟩
          · exact .inl ⟨z, hz, e⟩
          · exact .inr ⟨z, by simp [hz], e⟩
      · simp at h
        rcases h with rfl | h
        · exact .inl ⟨x, by simp, rfl⟩
        · rcases mergeL_mem h with ⟨z, hz, e⟩ | ⟨z, hz, e⟩
          · exact .inl ⟨z, by simp [hz], e⟩
          · exact .inr ⟨z, by simp [hz], e⟩
termination_by a b => a.length + b.length
theorem feedItems_inR {a b : Table} (ha : VT a) (hb : VT b) : inR (feedItems a.l b.l) := by
  intro i hi
  rw [feedItems_merge] at hi
  simp only [List.mem_map] at hi
  obtain ⟨t, ht, rfl⟩ := hi
  have := ha.n1
  have := hb.n1
  rcases mergeL_mem ht with ⟨x, hx, e⟩ | ⟨x, hx, e⟩
  · have := ha.rng x hx; simp only []; omega
  · have := hb.rng x hx; simp only []; omega
theorem feed_def {a b : Table} (ha : VT a) (hb : VT b) : feed a b = eventsOf (feedItems a.l b.l) := by
  unfold feed; rw [if_pos ⟨valid_iff.2 ha, valid_iff.2 hb⟩]
theorem feed_back {a b : Table} (ha : VT a) (hb : VT b) : feedOk none (feed a b) = true ∧ itemsOf [] (feed a b) = clean (feedItems a.l b.l) := by
  rw [feed_def ha hb]
  exact back_items (feedItems_lk ha.srt hb.srt).1 (feedItems_inR ha hb)
/-- The same events out of items with the same changes. -/
theorem events_eq {I J : List Item} (hI : Srt Item.n I) (hJ : Srt Item.n J) (h : ∀ n, lk Item.n (clean I) n = lk Item.n (clean J) n) : eventsOf I = eventsOf J := by
  rw [← eventsOf_clean I, ← eventsOf_clean J, lk_ext (clean_lk hI).1 (clean_lk hJ).1 h]
def compItem (t : Int × Option Item × Option Item) : Item := match t.2.1, t.2.2 with
  | none, none => ⟨t.1, none, none⟩
  | none, some y => y
  | some x, none => x
  | some x, some y => ⟨t.1, x.b, y.a⟩
theorem composeItems_lk {a b : List Item} (ha : Srt Item.n a) (hb : Srt Item.n b) : Srt Item.n (composeItems a b) ∧ ∀ n, lk Item.n (composeItems a b) n = (pairL n (lk Item.n a n) (lk Item.n b n)).map compItem := by
  have e : composeItems a b = (mergeL Item.n Item.n a b).map compItem := by
    unfold composeItems
    rw [mergeS_fold]
    have : (fun (s : List Item) (t : Int × Option Item × Option Item) => stepC2 s t.1 t.2.1 t.2.2) = fun s t => s ++ [compItem t] := by
      funext s t; rfl
    rw [this, fold_append]; rfl
  obtain ⟨m1, m2⟩ := mergeL_lk ha hb
  have hmem : ∀ t ∈ mergeL Item.n Item.n a b, (compItem t).n = t.1 := by
    intro t ht
    have h1 := lk_mem m1 ht
    rw [m2] at h1
    cases hx : lk Item.n a t.1 with
    | none => cases hy : lk Item.n b t.1 with
      | none => rw [hx, hy] at h1; simp [pairL] at h1
      | some y =>
        rw [hx, hy] at h1; simp [pairL] at h1
        rw [← h1]; exact (lk_some hy).2
    | some x => cases hy : lk Item.n b t.1 with
      | none =>
        rw [hx, hy] at h1; simp [pairL] at h1
        rw [← h1]; exact (lk_some hx).2
      | some y =>
        rw [hx, hy] at h1; simp [pairL] at h1
        rw [← h1]; rfl
  have hfm : (mergeL Item.n Item.n a b).map compItem = (mergeL Item.n Item.n a b).filterMap fun t => if (compItem t).n = t.1 then some (compItem t) else none := by
    generalize mergeL Item.n Item.n a b = L at hmem
    induction L with
    | nil => rfl
    | cons t L ih =>
      rw [List.map_cons, List.filterMap_cons, ih (fun u hu => hmem u (by simp [hu])), if_pos (hmem t (by simp))]
  rw [e, hfm]
  obtain ⟨q1, q2⟩ := lk_filterMap (ka := fun t : Int × Option Item × Option Item => t.1) (kb := Item.n) (f := fun t => if (compItem t).n = t.1 then some (compItem t) else none) (fun t i h => by
    split at h
    · rename_i hn; simp at h; subst h; exact hn
    · simp at h) m1
  refine ⟨q1, fun n => ?_⟩
  rw [q2, m2]
  cases hx : lk Item.n a n with
  | none => cases hy : lk Item.n b n with
    | none => rfl
    | some y => simp [pairL, compItem, (lk_some hy).2]
  | some x => cases hy : lk Item.n b n with
    | none => simp [pairL, compItem, (lk_some hx).2]
    | some y => simp [pairL, compItem]
theorem feed_compose {a b c : Table} (ha : VT a) (hb : VT b) (hc : VT c) : compose (feed a b) (feed b c) = feed a c := by
  obtain ⟨f1, f2⟩ := feed_back ha hb
  obtain ⟨g1, g2⟩ := feed_back hb hc
  obtain ⟨s1, _⟩ := clean_lk (feedItems_lk ha.srt hb.srt).1
  obtain ⟨s2, _⟩ := clean_lk (feedItems_lk hb.srt hc.srt).1
  unfold compose
  rw [if_pos ⟨f1, g1⟩, f2, g2, feed_def ha hc]
  obtain ⟨q1, q2⟩ := composeItems_lk s1 s2
  refine events_eq q1 (feedItems_lk ha.srt hc.srt).1 fun n => ?_
  rw [(clean_lk q1).2, q2, feedItems_clean ha.srt hb.srt, feedItems_clean hb.srt hc.srt, feedItems_clean ha.srt hc.srt]
  by_cases h1 : fnd a.l n = fnd b.l n
  · rw [if_pos h1]
    by_cases h2 : fnd b.l n = fnd c.l n
    · rw [if_pos h2, if_pos (h1.trans h2)]; rfl
    · rw [if_neg h2, if_neg (by rw [h1]; exact h2)]
      simp [pairL, compItem, h2, h1]
  · rw [if_neg h1]
    by_cases h2 : fnd b.l n = fnd c.l n
    · rw [if_pos h2, if_neg (by rw [← h2]; exact h1)]
      simp [pairL, compItem, h1, ← h2]
    · rw [if_neg h2]
      by_cases h3 : fnd a.l n = fnd c.l n
      · rw [if_pos h3]; simp [pairL, compItem, h3]
      · rw [if_neg h3]; simp [pairL, compItem, h3]
theorem swap_lk {I : List Item} (h : Srt Item.n I) : Srt Item.n (I.map Item.swap) ∧ ∀ n, lk Item.n (I.map Item.swap) n = (lk Item.n I n).map Item.swap := by
  rw [map_filterMap]
  obtain ⟨q1, q2⟩ := lk_filterMap (ka := Item.n) (kb := Item.n) (f := fun i => some (Item.swap i)) (fun t i h => by simp at h; subst h; rfl) h
  refine ⟨q1, fun n => ?_⟩
  rw [q2]; cases lk Item.n I n <;> rfl
theorem feed_invert {a b : Table} (ha : VT a) (hb : VT b) : invert (feed a b) = feed b a := by
  obtain ⟨f1, f2⟩ := feed_back ha hb
  obtain ⟨s1, _⟩ := clean_lk (feedItems_lk ha.srt hb.srt).1
  unfold invert
  rw [if_pos f1, f2, feed_def hb ha]
  obtain ⟨q1, q2⟩ := swap_lk s1
  refine events_eq q1 (feedItems_lk hb.srt ha.srt).1 fun n => ?_
  rw [(clean_lk q1).2, q2, feedItems_clean ha.srt hb.srt, feedItems_clean hb.srt ha.srt]
  by_cases h : fnd a.l n = fnd b.l n
  · rw [if_pos h, if_pos h.symm]; rfl
  · have h' : ¬ fnd b.l n = fnd a.l n := fun e => h e.symm
    rw [if_neg h, if_neg h']
    simp [Item.swap, h']
theorem feed_nil {a b : Table} (ha : VT a) (hb : VT b) : feed a b = [] ↔ a.l = b.l := by
  rw [feed_def ha hb]
  have s := (feedItems_lk ha.srt hb.srt).1
  constructor
  · intro h
    have h0 := itemsOf_events (clean (feedItems a.l b.l)) [] (clean_lk s).1 (fun i hi => (clean_mem hi).2) (by simp)
    rw [eventsOf_clean, h] at h0
    simp [itemsOf] at h0
    refine fnd_ext ha.srt hb.srt fun n => ?_
    have := feedItems_clean ha.srt hb.srt n
    rw [h0, lk_nil] at this
    split at this
    · assumption
    · simp at this
  · intro h
    rw [events_eq s (J := []) List.Pairwise.nil fun n => ?_]
    · rfl
    · rw [feedItems_clean ha.srt hb.srt, h, if_pos rfl]; rfl
theorem compose_nil {a b : Table} (ha : VT a) (hb : VT b) : compose (feed a b) [] = feed a b ∧ compose [] (feed a b) = feed a b := by
  obtain ⟨f1, f2⟩ := feed_back ha hb
  obtain ⟨s1, _⟩ := clean_lk (feedItems_lk ha.srt hb.srt).1
  have hn : Srt Item.n [] := List.Pairwise.nil
  have e : eventsOf (clean (feedItems a.l b.l)) = feed a b := by rw [eventsOf_clean, feed_def ha hb]
  constructor
  · unfold compose
    rw [if_pos ⟨f1, rfl⟩, f2]
    obtain ⟨q1, q2⟩ := composeItems_lk s1 hn
    have : composeItems (clean (feedItems a.l b.l)) (itemsOf [] []) = clean (feedItems a.l b.l) := lk_ext q1 s1 fun n => by
      change lk Item.n (composeItems _ []) n = _
      rw [q2, lk_nil]
      cases lk Item.n (clean (feedItems a.l b.l)) n <;> rfl
    rw [this, e]
  · unfold compose
    rw [if_pos ⟨rfl, f1⟩, f2]
    obtain ⟨q1, q2⟩ := composeItems_lk hn s1
    have : composeItems (itemsOf [] []) (clean (feedItems a.l b.l)) = clean (feedItems a.l b.l) := lk_ext q1 s1 fun n => by
      change lk Item.n (composeItems [] _) n = _
      rw [q2, lk_nil]
      cases lk Item.n (clean (feedItems a.l b.l)) n <;> rfl
    rw [this, e]
/-! Applying. -/
def aft (t : Int × Option Line × Option Item) : Option Line := (match t.2.2 with
  | some y => y.a
  | none => t.2.1.map Line.r).map fun r => ⟨t.1, r⟩
def mis (t : Int × Option Line × Option Item) : Bool := match t.2.2 with
  | some y => !decide (t.2.1.map Line.r = y.b)
  | none => false
theorem stepA_fold : ∀ (L : List (Int × Option Line × Option Item)) (s : Ap), (∀ t ∈ L, 0 ≤ t.1 ∧ t.1 < 4611686018427387904) → s.next ≤ 4611686018427387904 →
    (L.foldl (fun s t => stepA s t.1 t.2.1 t.2.2) s).out = s.out ++ L.filterMap aft ∧ (L.foldl (fun s t => stepA s t.1 t.2.1 t.2.2) s).gap = (s.gap || L.any mis) ∧
    s.next ≤ (L.foldl (fun s t => stepA s t.1 t.2.1 t.2.2) s).next ∧ (L.foldl (fun s t => stepA s t.1 t.2.1 t.2.2) s).next ≤ 4611686018427387904 ∧ ∀ x ∈ L.filterMap aft, x.n < (L.foldl (fun s t => stepA s t.1 t.2.1 t.2.2) s).next
  | [], s, _, h => by simp [h]
  | t :: L, s, hr, hn => by
    have ht := hr t (by simp)
    obtain ⟨n, x, y⟩ := t
    simp only [] at ht
    have hs : ∃ nx, stepA s n x y = ⟨s.gap || mis (n, x, y), s.out ++ (aft (n, x, y)).toList, nx⟩ ∧ s.next ≤ nx ∧ nx ≤ 4611686018427387904 ∧ ∀ l, aft (n, x, y) = some l → l.n < nx := by
      simp only [stepA, aft, mis]
      cases y with
      | none => cases x with
        | none => exact ⟨s.next, by simp, by omega, by omega, by simp⟩
        | some x => exact ⟨if s.next < n + 1 then n + 1 else s.next, by simp, by split <;> omega, by split <;> omega, by simp; split <;> omega⟩
      | some y => cases ha : y.a with
        | none => exact ⟨s.next, by simp [ha], by omega, by omega, by simp [ha]⟩
        | some r => exact ⟨if s.next < n + 1 then n + 1 else s.next, by simp [ha], by split <;> omega, by split <;> omega, by simp [ha]; split <;> omega⟩
    obtain ⟨nx, e, h1, h2, h3⟩ := hs
    obtain ⟨i1, i2, i3, i4, i5⟩ := stepA_fold L (stepA s n x y) (fun u hu => hr u (by simp [hu])) (by rw [e]; exact h2)
    rw [List.foldl_cons]
    simp only [] at i1 i2 i3 i4 i5 ⊢
    rw [e] at i1 i2 i3
    refine ⟨?_, ?_, ?_, i4, ?_⟩
    · rw [e] at *
      rw [i1, List.filterMap_cons]
      cases aft (n, x, y) <;> simp
    · rw [e] at *
      rw [i2, List.any_cons]; simp [Bool.or_assoc]
    · rw [e] at *
      simp only [] at i3; omega
    · rw [e] at *
      intro l hl
      have hl2 : aft (n, x, y) = some l ∨ l ∈ L.filterMap aft := by
        rw [List.filterMap_cons] at hl
        cases ha : aft (n, x, y) with
        | none => rw [ha] at hl; exact .inr hl
        | some z =>
          rw [ha] at hl
          rcases List.mem_cons.1 hl with rfl | h
          · exact .inl rfl
          · exact .inr h
      simp only [] at i3
      rcases hl2 with ha | hl
      · have := h3 _ ha; omega
      · exact i5 l hl
/-- A feed that fits: the lines behind it, and the new table is valid. -/
theorem apply_fits {t : Table} {l : List Event} {I : List Item} (ht : VT t) (hf : feedOk none l = true) (hi : itemsOf [] l = I) (hI : Srt Item.n I) (hr : inR I) (hlen : t.l.length + I.length ≤ 4096) (hfit : ∀ i ∈ I, fnd t.l i.n = i.b) :
    ∃ x : Table, apply t l = (x, 0) ∧ VT x ∧ t.next ≤ x.next ∧ ∀ n, fnd x.l n = match lk Item.n I n with | some i => i.a | none => fnd t.l n := by
  obtain ⟨m1, m2⟩ := mergeL_lk ht.srt hI
  have hn1 := ht.n1
  have hrng : ∀ u ∈ mergeL Line.n Item.n t.l I, 0 ≤ u.1 ∧ u.1 < 4611686018427387904 := by
    intro u hu
    rcases mergeL_mem hu with ⟨x, hx, e⟩ | ⟨x, hx, e⟩
    · have := ht.rng x hx; omega
    · have := hr x hx; omega
  obtain ⟨f1, f2, f3, f4, f5⟩ := stepA_fold (mergeL Line.n Item.n t.l I) ⟨false, [], t.next⟩ hrng hn1
  rw [← mergeS_fold] at f1 f2 f3 f4 f5
  change (applyS t I).out = _ at f1
  change (applyS t I).gap = _ at f2
  change _ ≤ (applyS t I).next at f3
  change (applyS t I).next ≤ _ at f4
  change ∀ x : Line, x ∈ _ → x.n < (applyS t I).next at f5
  simp only [List.nil_append, Bool.false_or] at f1 f2 f3
  have hgap : (applyS t I).gap = false := by
    rw [f2]
    rw [List.any_eq_false]
    intro u hu
    have h1 := lk_mem m1 hu
    rw [m2] at h1
    unfold mis
    cases hy : u.2.2 with
    | none => simp
    | some y =>
      simp only []
      have : lk Item.n I u.1 = some y ∧ u.2.1 = lk Line.n t.l u.1 := by
        cases hx : lk Line.n t.l u.1 <;> cases hz : lk Item.n I u.1 <;> rw [hx, hz] at h1 <;> simp [pairL] at h1 <;> rw [← h1] at hy ⊢ <;> simp at hy ⊢ <;> exact hy
      obtain ⟨g1, g2⟩ := this
      obtain ⟨g3, g4⟩ := lk_some g1
      have := hfit y g3
      rw [g4] at this
      rw [g2]
      change ¬ (!decide (fnd t.l u.1 = y.b)) = true
      simp [this]
  obtain ⟨o1, o2⟩ := lk_filterMap (ka := fun t : Int × Option Line × Option Item => t.1) (kb := Line.n) (f := aft) (fun t i h => by
    unfold aft at h
    rw [Option.map_eq_some_iff] at h
    obtain ⟨r, _, rfl⟩ := h; rfl) m1
  have hol : (applyS t I).out.length ≤ 4096 := by
    have := mergeS_len (na := Line.n) (nb := Item.n) (step := stepA) (fun s => s.out.length) 1 (fun s n x y => stepA_len s n x y) t.l I ⟨false, [], t.next⟩
    change (applyS t I).out.length ≤ _ at this
    simp only [List.length_nil] at this; omega
  refine ⟨⟨(applyS t I).next, (applyS t I).out⟩, ?_, ⟨by have := ht.n0; simp only []; omega, f4, hol, by simp only []; rw [f1]; exact o1, fun x hx => ?_⟩, f3, fun n => ?_⟩
  · unfold apply
    rw [if_neg (by rw [valid_iff.2 ht]; simp), if_neg (by rw [hf]; simp)]
    simp only [hi]
    rw [if_neg (by rw [hgap]; simp), if_neg (by omega)]
  · simp only [] at hx ⊢
    rw [f1] at hx
    refine ⟨?_, f5 x hx⟩
    rw [List.mem_filterMap] at hx
    obtain ⟨u, hu, hx⟩ := hx
    have := hrng u hu
    unfold aft at hx
    rw [Option.map_eq_some_iff] at hx
    obtain ⟨r, _, rfl⟩ := hx
    exact this.1
  · unfold fnd
    simp only []
    rw [f1, o2, m2]
    cases hx : lk Line.n t.l n <;> cases hz : lk Item.n I n <;> simp [pairL, aft]
    all_goals
      rename_i i
      cases i.a <;> simp
theorem apply_gap {t : Table} {l : List Event} {I : List Item} (ht : VT t) (hf : feedOk none l = true) (hi : itemsOf [] l = I) (hI : Srt Item.n I) (hr : inR I) {i : Item} (him : i ∈ I) (hne : fnd t.l i.n ≠ i.b) : apply t l = (⟨0, []⟩, 300) := by
  obtain ⟨m1, m2⟩ := mergeL_lk ht.srt hI
  have hn1 := ht.n1
  have hrng : ∀ u ∈ mergeL Line.n Item.n t.l I, 0 ≤ u.1 ∧ u.1 < 4611686018427387904 := by
    intro u hu
    rcases mergeL_mem hu with ⟨x, hx, e⟩ | ⟨x, hx, e⟩
    · have := ht.rng x hx; omega
    · have := hr x hx; omega
  obtain ⟨_, f2, _⟩ := stepA_fold (mergeL Line.n Item.n t.l I) ⟨false, [], t.next⟩ hrng hn1
  rw [← mergeS_fold] at f2
  change (applyS t I).gap = _ at f2
  have hgap : (applyS t I).gap = true := by
    rw [f2, Bool.false_or, List.any_eq_true]
    have h1 := m2 i.n
    rw [lk_mem hI him] at h1
    refine ⟨(i.n, lk Line.n t.l i.n, some i), ?_, ?_⟩
    · have : lk (·.1) (mergeL Line.n Item.n t.l I) i.n = some (i.n, lk Line.n t.l i.n, some i) := by
        rw [h1]; cases lk Line.n t.l i.n <;> rfl
      exact (lk_some this).1
    · unfold mis
      simp only []
      change (!decide (fnd t.l i.n = i.b)) = true
      simp [hne]
  unfold apply
  rw [if_neg (by rw [valid_iff.2 ht]; simp), if_neg (by rw [hf]; simp)]
  simp only [hi]
  rw [if_pos hgap]
/-- Applying the feed from a to b to a table with a's lines yields b's. -/
theorem apply_feed {a b t : Table} (ha : VT a) (hb : VT b) (ht : VT t) (h : t.l = a.l) (hlen : a.l.length ≤ 1000 ∧ b.l.length ≤ 1000) : ∃ x : Table, apply t (feed a b) = (x, 0) ∧ VT x ∧ t.next ≤ x.next ∧ x.l = b.l := by
  obtain ⟨f1, f2⟩ := feed_back ha hb
  have s := (feedItems_lk ha.srt hb.srt).1
  obtain ⟨s1, _⟩ := clean_lk s
  have hcl := feedItems_clean ha.srt hb.srt
  have hl : (clean (feedItems a.l b.l)).length ≤ a.l.length + b.l.length := by
    have h1 : (clean (feedItems a.l b.l)).length ≤ (feedItems a.l b.l).length := List.length_filterMap_le _ _
    have := mergeS_len (na := Line.n) (nb := Line.n) (step := fun out n x y => out ++ [(⟨n, x.map Line.r, y.map Line.r⟩ : Item)]) List.length 1 (fun s n x y => by simp) a.l b.l []
    change (feedItems a.l b.l).length ≤ _ at this
    simp at this; omega
  obtain ⟨x, e, hx, hn, hfx⟩ := apply_fits ht f1 f2 s1 (fun i hi => feedItems_inR ha hb i (clean_mem hi).1) (by rw [h]; omega) (fun i hi => by
    have h1 := lk_mem s1 hi
    rw [hcl] at h1
    split at h1
    · simp at h1
    · have h2 : some _ = some i := h1
      have h3 := Option.some.inj h2
      rw [h]
      exact (congrArg Item.b h3))
  refine ⟨x, e, hx, hn, fnd_ext hx.srt hb.srt fun n => ?_⟩
  rw [hfx, hcl]
  split
  · rename_i i hi
    split at hi
    · simp at hi
    · have h3 := Option.some.inj hi
      rw [← h3]
  · rename_i hi
    split at hi
    · rename_i he; rw [h]; exact he
    · simp at hi
/-- A feed from a to b fits t exactly where t agrees with a at the feed's numbers. -/
theorem feed_gap {a b t : Table} (ha : VT a) (hb : VT b) (ht : VT t) {n : Int} (h1 : fnd a.l n ≠ fnd b.l n) (h2 : fnd t.l n ≠ fnd a.l n) : apply t (feed a b) = (⟨0, []⟩, 300) := by
  obtain ⟨f1, f2⟩ := feed_back ha hb
  have s := (feedItems_lk ha.srt hb.srt).1
  obtain ⟨s1, _⟩ := clean_lk s
  have hcl := feedItems_clean ha.srt hb.srt n
  rw [if_neg h1] at hcl
  exact apply_gap ht f1 f2 s1 (fun i hi => feedItems_inR ha hb i (clean_mem hi).1) (lk_some hcl).1 h2
end Go.Den
