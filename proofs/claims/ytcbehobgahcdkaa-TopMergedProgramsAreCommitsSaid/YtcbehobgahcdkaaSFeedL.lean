/- Feeds between tables, in plain Lean: what they hold. -/
import Derived.Test.YtcbehobgahcdkaaSFeed
namespace Go.Den
open Go
set_option linter.unusedSimpArgs false
set_option linter.unusedVariables false
set_option maxRecDepth 100000
set_option maxHeartbeats 1000000
section
variable {α β : Type}
def Srt (key : α → Int) (L : List α) : Prop := L.Pairwise fun a b => key a < key b
def lk (key : α → Int) (L : List α) (n : Int) : Option α := L.find? fun a => decide (key a = n)
theorem lk_nil (key : α → Int) (n : Int) : lk key [] n = none := rfl
theorem lk_cons (key : α → Int) (a : α) (L : List α) (n : Int) : lk key (a :: L) n = if key a = n then some a else lk key L n := by
  simp only [lk, List.find?_cons]
  by_cases h : key a = n <;> simp [h]
theorem lk_some {key : α → Int} : ∀ {L : List α} {n : Int} {a : α}, lk key L n = some a → a ∈ L ∧ key a = n
  | [], n, a, h => by simp [lk_nil] at h
  | b :: L, n, a, h => by
    rw [lk_cons] at h
    split at h
    · rename_i hb; simp at h; subst h; exact ⟨by simp, hb⟩
    · obtain ⟨h1, h2⟩ := lk_some h; exact ⟨by simp [h1], h2⟩
theorem lk_low {key : α → Int} {L : List α} {n : Int} (h : ∀ a ∈ L, n < key a) : lk key L n = none := by
  cases hl : lk key L n with
  | none => rfl
  | some a => obtain ⟨h1, h2⟩ := lk_some hl; have := h a h1; omega
theorem Srt.cons {key : α → Int} {a : α} {L : List α} (h : Srt key (a :: L)) : (∀ b ∈ L, key a < key b) ∧ Srt key L := List.pairwise_cons.1 h
theorem Srt.mk {key : α → Int} {a : α} {L : List α} (h1 : ∀ b ∈ L, key a < key b) (h2 : Srt key L) : Srt key (a :: L) := List.pairwise_cons.2 ⟨h1, h2⟩
theorem lk_mem {key : α → Int} : ∀ {L : List α}, Srt key L → ∀ {a : α}, a ∈ L → lk key L (key a) = some a
  | [], _, a, h => by simp at h
  | b :: L, hs, a, h => by
    obtain ⟨h1, h2⟩ := hs.cons
    rw [lk_cons]
    simp at h
    rcases h with rfl | h
    · simp
    · have := h1 a h
      rw [if_neg (by omega)]
      exact lk_mem h2 h
/-- The lists' elements side by side. -/
def mergeL (ka : α → Int) (kb : β → Int) : List α → List β → List (Int × Option α × Option β)
  | [], [] => []
  | x :: a, [] => (ka x, some x, none) :: mergeL ka kb a []
  | [], y :: b => (kb y, none, some y) :: mergeL ka kb [] b
  | x :: a, y :: b => if ka x < kb y then (ka x, some x, none) :: mergeL ka kb a (y :: b)
      else if kb y < ka x then (kb y, none, some y) :: mergeL ka kb (x :: a) b
      else (ka x, some x, some y) :: mergeL ka kb a b
termination_by a b => a.length + b.length
theorem mergeS_fold {S : Type} (ka : α → Int) (kb : β → Int) (step : S → Int → Option α → Option β → S) : ∀ (a : List α) (b : List β) (s : S),
    mergeS ka kb step s a b = (mergeL ka kb a b).foldl (fun s t => step s t.1 t.2.1 t.2.2) s
  | [], [], s => by rw [mergeS, mergeL]; rfl
  | x :: a, [], s => by rw [mergeS, mergeL, mergeS_fold ka kb step a []]; rfl
  | [], y :: b, s => by rw [mergeS, mergeL, mergeS_fold ka kb step [] b]; rfl
  | x :: a, y :: b, s => by
    rw [mergeS, mergeL]
    split
    · rw [mergeS_fold ka kb step a (y :: b)]; rfl
    · split
      · rw [mergeS_fold ka kb step (x :: a) b]; rfl
      · rw [mergeS_fold ka kb step a b]; rfl
termination_by a b => a.length + b.length
def pairL (n : Int) : Option α → Option β → Option (Int × Option α × Option β)
  | none, none => none
  | x, y => some (n, x, y)
theorem mergeL_keys {ka : α → Int} {kb : β → Int} {m : Int} : ∀ {a : List α} {b : List β}, (∀ x ∈ a, m < ka x) → (∀ y ∈ b, m < kb y) → ∀ t ∈ mergeL ka kb a b, m < t.1
  | [], [], _, _, t, h => by rw [mergeL] at h; simp at h
  | x :: a, [], ha, hb, t, h => by
    rw [mergeL] at h; simp at h
    rcases h with rfl | h
    · exact ha x (by simp)
    · exact mergeL_keys (fun z hz => ha z (by simp [hz])) hb t h
  | [], y :: b, ha, hb, t, h => by
    rw [mergeL] at h; simp at h
    rcases h with rfl | h
    · exact hb y (by simp)
    · exact mergeL_keys ha (fun z hz => hb z (by simp [hz])) t h
  | x :: a, y :: b, ha, hb, t, h => by
    rw [mergeL] at h
    split at h
    · simp at h
      rcases h with rfl | h
      · exact ha x (by simp)
      · exact mergeL_keys (fun z hz => ha z (by simp [hz])) hb t h
    · split at h
      · simp at h
        rcases h with rfl | h
        · exact hb y (by simp)
        · exact mergeL_keys ha (fun z hz => hb z (by simp [hz])) t h
      · simp at h
        rcases h with rfl | h
        · exact ha x (by simp)
        · exact mergeL_keys (fun z hz => ha z (by simp [hz])) (fun z hz => hb z (by simp [hz])) t h
termination_by a b => a.length + b.length
theorem pairL_some (n : Int) (x : α) (y : Option β) : pairL n (some x) y = some (n, some x, y) := by cases y <;> rfl
theorem pairL_none (n : Int) (y : β) : pairL n (none : Option α) (some y) = some (n, none, some y) := rfl
theorem mergeL_lk {ka : α → Int} {kb : β → Int} : ∀ {a : List α} {b : List β}, Srt ka a → Srt kb b → Srt (·.1) (mergeL ka kb a b) ∧ ∀ n, lk (·.1) (mergeL ka kb a b) n = pairL n (lk ka a n) (lk kb b n)
  | [], [], _, _ => by rw [mergeL]; exact ⟨List.Pairwise.nil, fun n => rfl⟩
  | x :: a, [], ha, hb => by
    obtain ⟨h1, h2⟩ := ha.cons
    obtain ⟨i1, i2⟩ := mergeL_lk h2 hb
    rw [mergeL]
    refine ⟨Srt.mk (mergeL_keys h1 (by simp)) i1, fun n => ?_⟩
    rw [lk_cons, lk_cons]
    simp only []
    split
    · rename_i hn; subst hn; rw [pairL_some]; rfl
    · exact i2 n
  | [], y :: b, ha, hb => by
    obtain ⟨h1, h2⟩ := hb.cons
    obtain ⟨i1, i2⟩ := mergeL_lk ha h2
    rw [mergeL]
    refine ⟨Srt.mk (mergeL_keys (by simp) h1) i1, fun n => ?_⟩
    rw [lk_cons, lk_cons (key := kb)]
    simp only []
    split
    · rename_i hn; subst hn; rfl
    · exact i2 n
  | x :: a, y :: b, ha, hb => by
    obtain ⟨a1, a2⟩ := ha.cons
    obtain ⟨b1, b2⟩ := hb.cons
    rw [mergeL]
    split
    · rename_i c
      obtain ⟨i1, i2⟩ := mergeL_lk a2 hb
      have hy : ∀ z ∈ y :: b, ka x < kb z := by
        intro z hz; simp at hz
        rcases hz with rfl | hz
        · exact c
        · have := b1 z hz; omega
      refine ⟨Srt.mk (mergeL_keys a1 hy) i1, fun n => ?_⟩
      rw [lk_cons, lk_cons (key := ka)]
      simp only []
      split
      · rename_i hn; subst hn; rw [pairL_some, lk_low hy]
      · exact i2 n
    · split
      · rename_i c1 c
        obtain ⟨i1, i2⟩ := mergeL_lk ha b2
        have hx : ∀ z ∈ x :: a, kb y < ka z := by
          intro z hz; simp at hz
          rcases hz with rfl | hz
          · exact c
          · have := a1 z hz; omega
        refine ⟨Srt.mk (mergeL_keys hx b1) i1, fun n => ?_⟩
        rw [lk_cons, lk_cons (key := kb)]
        simp only []
        split
        · rename_i hn; subst hn; rw [lk_low hx]; rfl
        · exact i2 n
      · rename_i c1 c2
        have c : ka x = kb y := by omega
        obtain ⟨i1, i2⟩ := mergeL_lk a2 b2
        refine ⟨Srt.mk (mergeL_keys a1 (fun z hz => by have := b1 z hz; omega)) i1, fun n => ?_⟩
        rw [lk_cons, lk_cons (key := ka), lk_cons (key := kb)]
        simp only []
        split
        · rename_i hn; subst hn; rw [if_pos c.symm]; rfl
        · rename_i hn; rw [if_neg (by omega)]; exact i2 n
termination_by a b => a.length + b.length
end
theorem lk_filterMap {α β : Type} {ka : α → Int} {kb : β → Int} {f : α → Option β} (hf : ∀ a b, f a = some b → kb b = ka a) : ∀ {L : List α}, Srt ka L → Srt kb (L.filterMap f) ∧ ∀ n, lk kb (L.filterMap f) n = (lk ka L n).bind f
  | [], _ => ⟨List.Pairwise.nil, fun n => rfl⟩
  | a :: L, h => by
    obtain ⟨h1, h2⟩ := h.cons
    obtain ⟨i1, i2⟩ := lk_filterMap hf h2
    have hmem : ∀ b ∈ L.filterMap f, ∃ c ∈ L, kb b = ka c := by
      intro b hb
      rw [List.mem_filterMap] at hb
      obtain ⟨c, hc, hcb⟩ := hb
      exact ⟨c, hc, hf c b hcb⟩
    rw [List.filterMap_cons]
    cases hfa : f a with
    | none =>
      refine ⟨i1, fun n => ?_⟩
      rw [lk_cons ka]
      by_cases hn : ka a = n
      · rw [if_pos hn]
        simp only [Option.bind_some, hfa]
        exact lk_low fun b hb => by obtain ⟨c, hc, e⟩ := hmem b hb; have := h1 c hc; omega
      · rw [if_neg hn]; exact i2 n
    | some b =>
      have hb := hf a b hfa
      refine ⟨Srt.mk (fun c hc => by obtain ⟨d, hd, e⟩ := hmem c hc; have := h1 d hd; omega) i1, fun n => ?_⟩
      rw [lk_cons kb, lk_cons ka, hb]
      by_cases hn : ka a = n
      · rw [if_pos hn, if_pos hn]; simp [hfa]
      · rw [if_neg hn, if_neg hn]; exact i2 n
theorem fold_append {α β : Type} (g : α → β) : ∀ (L : List α) (out : List β), L.foldl (fun s t => s ++ [g t]) out = out ++ L.map g
  | [], out => by simp
  | x :: L, out => by rw [List.foldl_cons, fold_append g L]; simp
/-- The row of a number. -/
def fnd (L : List Line) (n : Int) : Option (List Cell) := (lk Line.n L n).map Line.r
theorem rise_srt : ∀ {L : List Line} {last nx : Int}, rise nx last L = true → Srt Line.n L ∧ ∀ x ∈ L, last < x.n
  | [], _, _, _ => ⟨List.Pairwise.nil, by simp⟩
  | x :: r, last, nx, h => by
    rw [rise] at h
    split at h
    · exact absurd h (by simp)
    · rename_i hx
      obtain ⟨i1, i2⟩ := rise_srt h
      refine ⟨Srt.mk i2 i1, fun y hy => ?_⟩
      simp at hy
      rcases hy with rfl | hy
      · omega
      · have := i2 y hy; omega
theorem srt_rise : ∀ {L : List Line} {last nx : Int}, Srt Line.n L → (∀ x ∈ L, last < x.n ∧ 0 ≤ x.n ∧ x.n < nx) → rise nx last L = true
  | [], _, _, _, _ => rfl
  | x :: r, last, nx, hs, h => by
    obtain ⟨h1, h2⟩ := hs.cons
    have hx := h x (by simp)
    rw [rise, if_neg (by omega)]
    exact srt_rise h2 fun y hy => ⟨h1 y hy, (h y (by simp [hy])).2⟩
structure VT (t : Table) : Prop where
  n0 : 0 ≤ t.next
  n1 : t.next ≤ 4611686018427387904
  len : t.l.length ≤ 4096
  srt : Srt Line.n t.l
  rng : ∀ x ∈ t.l, 0 ≤ x.n ∧ x.n < t.next
theorem valid_iff {t : Table} : valid t = true ↔ VT t := by
  unfold valid
  constructor
  · intro h
    split at h
    · exact absurd h (by simp)
    · exact ⟨by omega, by omega, by omega, (rise_srt h).1, rise_all h⟩
  · intro h
    have h0 := h.n0
    have h1 := h.n1
    have h2 := h.len
    rw [if_neg (by omega)]
    exact srt_rise h.srt fun x hx => by have := h.rng x hx; omega
theorem feedItems_merge (a b : List Line) : feedItems a b = (mergeL Line.n Line.n a b).map fun t => ⟨t.1, t.2.1.map Line.r, t.2.2.map Line.r⟩ := by
  unfold feedItems
  rw [mergeS_fold]
  exact fold_append (fun t : Int × Option Line × Option Line => (⟨t.1, t.2.1.map Line.r, t.2.2.map Line.r⟩ : Item)) _ []
theorem map_filterMap {α β : Type} (f : α → β) (L : List α) : L.map f = L.filterMap fun a => some (f a) := by
  induction L with
  | nil => rfl
  | cons a L ih => rw [List.map_cons, List.filterMap_cons, ih]
theorem feedItems_lk {a b : List Line} (ha : Srt Line.n a) (hb : Srt Line.n b) : Srt Item.n (feedItems a b) ∧ ∀ n, lk Item.n (feedItems a b) n = (pairL n (lk Line.n a n) (lk Line.n b n)).map fun t => ⟨t.1, t.2.1.map Line.r, t.2.2.map Line.r⟩ := by
  obtain ⟨m1, m2⟩ := mergeL_lk ha hb
  rw [feedItems_merge, map_filterMap]
  obtain ⟨q1, q2⟩ := lk_filterMap (ka := fun t : Int × Option Line × Option Line => t.1) (kb := Item.n) (f := fun t => some (⟨t.1, t.2.1.map Line.r, t.2.2.map Line.r⟩ : Item)) (fun t i h => by simp at h; subst h; rfl) m1
  refine ⟨q1, fun n => ?_⟩
  rw [q2, m2]
  cases lk Line.n a n <;> cases lk Line.n b n <;> rfl
theorem feed_def {a b : Table} (ha : VT a) (hb : VT b) : feed a b = eventsOf (feedItems a.l b.l) := by
  unfold feed; rw [if_pos ⟨valid_iff.2 ha, valid_iff.2 hb⟩]
theorem eventsOf_any (q : List Cell → Bool) : ∀ (I : List Item), ((eventsOf I).any fun e => q e.l.r) = I.any fun i => !decide (i.b = i.a) && ((match i.b with | some r => q r | none => false) || (match i.a with | some r => q r | none => false))
  | [] => rfl
  | i :: r => by
    rw [eventsOf, List.any_append, List.any_cons, eventsOf_any q r]
    congr 1
    unfold chg
    split
    · rename_i h; simp [h]
    · rename_i h
      have : decide (i.b = i.a) = false := by simpa using h
      rw [this]
      cases i.b <;> cases i.a <;> simp
theorem item_of {a b : List Line} (ha : Srt Line.n a) (hb : Srt Line.n b) {n : Int} (h : (lk Line.n a n).isSome ∨ (lk Line.n b n).isSome) : (⟨n, fnd a n, fnd b n⟩ : Item) ∈ feedItems a b := by
  have h2 := (feedItems_lk ha hb).2 n
  have : lk Item.n (feedItems a b) n = some ⟨n, fnd a n, fnd b n⟩ := by
    rw [h2]
    unfold fnd
    cases h3 : lk Line.n a n with
    | some x => cases lk Line.n b n <;> rfl
    | none =>
      cases h4 : lk Line.n b n with
      | some y => rfl
      | none => rw [h3, h4] at h; simp at h
  exact (lk_some this).1
theorem item_is {a b : List Line} (ha : Srt Line.n a) (hb : Srt Line.n b) {i : Item} (h : i ∈ feedItems a b) : i = ⟨i.n, fnd a i.n, fnd b i.n⟩ := by
  obtain ⟨s, h2⟩ := feedItems_lk ha hb
  have h3 := lk_mem s h
  rw [h2] at h3
  unfold fnd
  cases h4 : lk Line.n a i.n with
  | some x => rw [h4, pairL_some] at h3; simp at h3; exact h3.symm
  | none =>
    cases h5 : lk Line.n b i.n with
    | some y => rw [h4, h5, pairL_none] at h3; simp at h3; exact h3.symm
    | none => rw [h4, h5] at h3; simp [pairL] at h3
end Go.Den
