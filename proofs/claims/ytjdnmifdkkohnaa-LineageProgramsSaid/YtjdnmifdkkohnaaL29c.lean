/- What a program touches is the feed to the table after it. -/
import Derived.Test.YtjdnmifdkkohnaaS29o
import Derived.Test.YtjdnmifdkkohnaaS27
namespace Go.Den
open Go
set_option linter.unusedSimpArgs false
set_option linter.unusedVariables false
set_option maxRecDepth 100000
set_option maxHeartbeats 1000000
theorem lk_append {α : Type} (key : α → Int) (A B : List α) (n : Int) : lk key (A ++ B) n = (lk key A n).or (lk key B n) := by
  unfold lk; rw [List.find?_append]
theorem srt_append {α : Type} {key : α → Int} {A B : List α} (hA : Srt key A) (hB : Srt key B) (h : ∀ a ∈ A, ∀ b ∈ B, key a < key b) : Srt key (A ++ B) :=
  List.pairwise_append.2 ⟨hA, hB, h⟩
theorem addL_srt (q : List (List Cell)) : ∀ n, Srt Line.n (addL n q) ∧ ∀ x ∈ addL n q, n ≤ x.n ∧ x.n < n + q.length := by
  induction q with
  | nil => intro n; exact ⟨List.Pairwise.nil, by simp [addL]⟩
  | cons r q ih =>
    intro n
    obtain ⟨a, b⟩ := ih (n + 1)
    refine ⟨Srt.mk (fun y hy => ?_) a, fun x hx => ?_⟩
    · have := (b y hy).1; show n < y.n; omega
    · simp only [addL, List.mem_cons] at hx
      rcases hx with rfl | hx
      · simp only [List.length_cons]; omega
      · have := b x hx; simp only [List.length_cons]; omega
theorem filter_fm {α : Type} (p : α → Bool) (L : List α) : L.filter p = L.filterMap fun a => if p a then some a else none := by
  induction L with
  | nil => rfl
  | cons a r ih => cases h : p a <;> simp [h, ih]
def goI (x : Line) : Item := ⟨x.n, some x.r, none⟩
def coI (x : Line) : Item := ⟨x.n, none, some x.r⟩
theorem eventsOf_go (L : List Line) : eventsOf (L.map goI) = L.map goneE := by
  induction L with
  | nil => rfl
  | cons x r ih => simp only [List.map_cons, eventsOf, ih, goI, goneE]; rfl
theorem eventsOf_co (q : List (List Cell)) : ∀ n, eventsOf ((addL n q).map coI) = addE n q := by
  induction q with
  | nil => intro n; rfl
  | cons x r ih => intro n; simp only [addL, addE, List.map_cons, eventsOf, ih, coI]; rfl
def afterT (t : Table) (m : List Cell → Bool) (rows : List (List Cell)) : Table := ⟨t.next + rows.length, t.l.filter (fun x => !m x.r) ++ addL t.next rows⟩
def touchT (t : Table) (m : List Cell → Bool) (rows : List (List Cell)) : List Event := (t.l.filter (fun x => m x.r)).map goneE ++ addE t.next rows
theorem after_vt {t : Table} (ht : VT t) (m : List Cell → Bool) (rows : List (List Cell)) (h : t.next + rows.length ≤ 4611686018427387904) (hl : (afterT t m rows).l.length ≤ 4096) : VT (afterT t m rows) := by
  obtain ⟨a, b⟩ := addL_srt rows t.next
  have h0 := ht.n0
  refine ⟨by simp only [afterT]; omega, h, hl, srt_append (ht.srt.filter _) a fun x hx y hy => ?_, fun x hx => ?_⟩
  · have := (ht.rng x ((List.mem_filter.1 hx).1)).2
    have := (b y hy).1
    omega
  · simp only [afterT, List.mem_append] at hx ⊢
    rcases hx with hx | hx
    · have := ht.rng x ((List.mem_filter.1 hx).1); omega
    · have := b x hx; omega
theorem touch_feed {t : Table} (ht : VT t) (m : List Cell → Bool) (rows : List (List Cell)) (hx : VT (afterT t m rows)) : feed t (afterT t m rows) = touchT t m rows := by
  obtain ⟨a, b⟩ := addL_srt rows t.next
  have e : touchT t m rows = eventsOf ((t.l.filter (fun x => m x.r)).map goI ++ (addL t.next rows).map coI) := by
    rw [eventsOf_append, eventsOf_go, eventsOf_co]; rfl
  rw [e, feed_def ht hx]
  have k1 := lk_filterMap (ka := Line.n) (kb := Line.n) (f := fun x : Line => if m x.r then some x else none) (by intro p q h; split at h <;> simp at h; rw [h]) ht.srt
  have k2 := lk_filterMap (ka := Line.n) (kb := Line.n) (f := fun x : Line => if !m x.r then some x else none) (by intro p q h; split at h <;> simp at h; rw [h]) ht.srt
  rw [← filter_fm (fun x : Line => m x.r)] at k1
  rw [← filter_fm (fun x : Line => !m x.r)] at k2
  have k3 := lk_filterMap (ka := Line.n) (kb := Item.n) (f := fun x : Line => some (goI x)) (by intro p q h; simp at h; rw [← h]; rfl) k1.1
  have k4 := lk_filterMap (ka := Line.n) (kb := Item.n) (f := fun x : Line => some (coI x)) (by intro p q h; simp at h; rw [← h]; rfl) a
  rw [← map_filterMap] at k3 k4
  have sI : Srt Item.n ((t.l.filter (fun x => m x.r)).map goI ++ (addL t.next rows).map coI) := by
    refine srt_append k3.1 k4.1 fun p hp q hq => ?_
    rw [List.mem_map] at hp hq
    obtain ⟨x, hx, rfl⟩ := hp
    obtain ⟨y, hy, rfl⟩ := hq
    have := (ht.rng x ((List.mem_filter.1 hx).1)).2
    have := (b y hy).1
    show x.n < y.n
    omega
  refine events_eq (feedItems_lk ht.srt hx.srt).1 sI fun n => ?_
  rw [feedItems_clean ht.srt hx.srt, (clean_lk sI).2, lk_append, k3.2, k4.2, k1.2]
  have hf : fnd (afterT t m rows).l n = (((lk Line.n t.l n).bind fun x => if !m x.r then some x else none).or (lk Line.n (addL t.next rows) n)).map Line.r := by
    unfold fnd afterT
    simp only []
    rw [lk_append, k2.2]
  rw [hf]
  unfold fnd
  cases h1 : lk Line.n t.l n with
  | some x =>
    obtain ⟨hm, hn⟩ := lk_some h1
    have hlow : lk Line.n (addL t.next rows) n = none := lk_low fun y hy => by have := (b y hy).1; have := (ht.rng x hm).2; omega
    rw [hlow]
    cases h2 : m x.r <;> simp [h2, goI, hn]
  | none =>
    cases h2 : lk Line.n (addL t.next rows) n with
    | none => simp
    | some y =>
      obtain ⟨_, hn⟩ := lk_some h2
      simp [coI, hn]
theorem apply_next {t x : Table} {l : List Event} (h : apply t l = (x, 0)) : x.next = t.next ∨ ∃ y ∈ x.l, x.next = y.n + 1 := by
  unfold apply at h
  split at h
  · simp at h
  · split at h
    · simp at h
    · have hi : (applyS t (itemsOf [] l)).next = t.next ∨ ∃ y ∈ (applyS t (itemsOf [] l)).out, (applyS t (itemsOf [] l)).next = y.n + 1 := by
        refine mergeS_inv (fun s : Ap => s.next = t.next ∨ ∃ y ∈ s.out, s.next = y.n + 1) _ _ _ (.inl rfl) ?_
        intro s n p q hs _ _
        unfold stepA
        simp only []
        split
        · simp only []
          split
          · exact .inr ⟨_, List.mem_append_right _ (List.mem_singleton.2 rfl), rfl⟩
          · rcases hs with hs | ⟨y, hy, e⟩
            · exact .inl hs
            · exact .inr ⟨y, by simp [hy], e⟩
        · exact hs
      simp only [] at h
      split at h
      · simp at h
      · split at h
        · simp at h
        · have h1 := congrArg Prod.fst h
          simp only [] at h1
          subst h1
          exact hi
/-- A table with so many lines, out of made rows. -/
theorem tab_inv (rows : List (List Cell)) : ∀ (s : List Line × Int), 0 ≤ s.2 → Srt Line.n s.1 → (∀ x ∈ s.1, 0 ≤ x.n ∧ x.n < s.2) →
    0 ≤ (rows.foldl tabStep s).2 ∧ (rows.foldl tabStep s).2 ≤ s.2 + 2 * rows.length ∧ Srt Line.n (rows.foldl tabStep s).1 ∧ (∀ x ∈ (rows.foldl tabStep s).1, 0 ≤ x.n ∧ x.n < (rows.foldl tabStep s).2) ∧ (rows.foldl tabStep s).1.length = s.1.length + rows.length ∧ (∀ x ∈ (rows.foldl tabStep s).1, x ∈ s.1 ∨ x.r ∈ rows) := by
  induction rows with
  | nil => intro s h0 h1 h2; exact ⟨h0, by simp, h1, h2, by simp, fun x hx => .inl hx⟩
  | cons r q ih =>
    intro s h0 h1 h2
    have key : ∀ m : Int, s.2 ≤ m → m ≤ s.2 + 1 → tabStep s r = (s.1 ++ [⟨m, r⟩], m + 1) → _ := fun m hm hm2 e => by
      have := ih (s.1 ++ [⟨m, r⟩], m + 1) (by simp only []; omega) (srt_append h1 (List.pairwise_singleton _ _) fun a ha b hb => by simp at hb; rw [hb]; have := (h2 a ha).2; simp only []; omega) (fun x hx => by
        simp only [List.mem_append, List.mem_singleton] at hx
        rcases hx with hx | rfl
        · have := h2 x hx; simp only []; omega
        · simp only []; omega)
      rw [← e] at this
      exact this
    have hst : ∃ m : Int, s.2 ≤ m ∧ m ≤ s.2 + 1 ∧ tabStep s r = (s.1 ++ [⟨m, r⟩], m + 1) := by
      unfold tabStep
      cases decide (s.2.tmod 3 = 2) with
      | true => exact ⟨s.2 + 1, by omega, by omega, rfl⟩
      | false => exact ⟨s.2, by omega, by omega, rfl⟩
    obtain ⟨m, m1, m2, e⟩ := hst
    obtain ⟨a1, a2, a3, a4, a5, a6⟩ := key m m1 m2 e
    rw [List.foldl_cons]
    have e1 : (tabStep s r).1.length = s.1.length + 1 := by rw [e]; simp
    have e2 : (tabStep s r).2 = m + 1 := by rw [e]
    refine ⟨a1, by rw [List.length_cons]; omega, a3, a4, by rw [a5, e1, List.length_cons]; omega, fun x hx => ?_⟩
    rcases a6 x hx with h | h
    · rw [e] at h
      simp only [List.mem_append, List.mem_singleton] at h
      rcases h with h | rfl
      · exact .inl h
      · exact .inr (by simp)
    · exact .inr (by simp [h])
theorem tabS_ok (fs : List Fld) (raw : List (List Val)) (n : Int) (h0 : 0 ≤ n) (hn : n ≤ 4096) : VT (tabS fs raw n) ∧ (tabS fs raw n).l.length ≤ n.toNat ∧ (tabS fs raw n).next ≤ 2 * n ∧ ∀ x ∈ (tabS fs raw n).l, x.r.length ≤ fs.length := by
  have hl : ((raw.take n.toNat).map (rowS fs)).length ≤ n.toNat := by rw [List.length_map, List.length_take]; exact Nat.min_le_left ..
  obtain ⟨i1, i2, i3, i4, i5, i6⟩ := tab_inv ((raw.take n.toNat).map (rowS fs)) ([], 0) (by simp) List.Pairwise.nil (by simp)
  simp only [List.length_nil] at i2 i5
  unfold tabS
  refine ⟨⟨i1, by simp only []; omega, by simp only []; omega, i3, i4⟩, by simp only []; omega, by simp only []; omega, fun x hx => ?_⟩
  rcases i6 x hx with h | h
  · simp at h
  · rw [List.mem_map] at h
    obtain ⟨q, _, hq⟩ := h
    rw [← hq]
    exact rowS_len fs q
end Go.Den
