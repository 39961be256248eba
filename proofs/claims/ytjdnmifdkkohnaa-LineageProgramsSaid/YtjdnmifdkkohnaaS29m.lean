/- Ch. 29: LineageMatchesReference, LineageFeedsMatchReference. -/
import Derived.Test.YtjdnmifdkkohnaaS29B
import Derived.Test.YtjdnmifdkkohnaaL29a
import Derived.Test.YtjdnmifdkkohnaaSan29
import Derived.Test.YtjdnmifdkkohnaaSh29
namespace Go.Den
open Go Go.Proofs
set_option linter.unusedSimpArgs false
set_option linter.unusedVariables false
set_option maxRecDepth 100000
set_option maxHeartbeats 1000000
theorem chg_ok {n : Int} {b a : Option (List Cell)} (hb : lenB b) (ha : lenB a) : okE (chg n b a) := by
  intro e he
  unfold chg at he
  split at he
  · simp at he
  · cases b <;> cases a <;> simp at he
    · subst he; exact ha _ rfl
    · subst he; exact hb _ rfl
    · rcases he with rfl | rfl
      · exact hb _ rfl
      · exact ha _ rfl
theorem eventsOf_ok : ∀ {L : List Item}, (∀ i ∈ L, okI i) → okE (eventsOf L)
  | [], _ => by simp [eventsOf, okE]
  | i :: r, h => by
    intro e he
    rw [eventsOf, List.mem_append] at he
    rcases he with he | he
    · exact chg_ok (h i (by simp)).1 (h i (by simp)).2 e he
    · exact eventsOf_ok (fun j hj => h j (by simp [hj])) e he
theorem eventsOf_len : ∀ (L : List Item), (eventsOf L).length ≤ 2 * L.length
  | [] => by simp [eventsOf]
  | i :: r => by
    have := eventsOf_len r
    have := chg_len i.n i.b i.a
    rw [eventsOf]; simp; omega
theorem feedItems_ok {a b : List Line} (ha : okL a) (hb : okL b) : ∀ i ∈ feedItems a b, okI i :=
  mergeS_inv (fun (out : List Item) => ∀ i ∈ out, okI i) a b [] (by simp) fun s n x y hp hx hy i hi => by
    simp at hi
    rcases hi with hi | rfl
    · exact hp i hi
    · exact ⟨fun r hr => by
        cases x with
        | none => simp at hr
        | some x => simp at hr; subst hr; exact ha x (hx x rfl), fun r hr => by
        cases y with
        | none => simp at hr
        | some y => simp at hr; subst hr; exact hb y (hy y rfl)⟩
theorem feedItems_len (a b : List Line) : (feedItems a b).length ≤ a.length + b.length := by
  have := mergeS_len (na := Line.n) (nb := Line.n) (step := fun out n x y => out ++ [(⟨n, x.map Line.r, y.map Line.r⟩ : Item)]) List.length 1 (fun s n x y => by simp) a b []
  change (feedItems a b).length ≤ _ at this
  simp at this; omega
theorem feed_ok {a b : Table} (ha : okL a.l) (hb : okL b.l) : okE (feed a b) := by
  unfold feed
  split
  · exact eventsOf_ok (feedItems_ok ha hb)
  · simp [okE]
theorem feed_len (a b : Table) : (feed a b).length ≤ 2 * (a.l.length + b.l.length) := by
  unfold feed
  split
  · have := eventsOf_len (feedItems a.l b.l)
    have := feedItems_len a.l b.l
    omega
  · simp
theorem applyS_ok {t : Table} {l : List Item} (ht : okL t.l) (hl : ∀ i ∈ l, okI i) : okL (applyS t l).out :=
  mergeS_inv (fun s : Ap => okL s.out) t.l l _ (by simp [okL]) fun s n x y hp hx hy => by
    have key : ∀ r, (match y with | some y => y.a | none => x.map Line.r) = some r → r.length < 1000000000000000 := by
      intro r hr
      cases y with
      | none =>
        cases x with
        | none => simp at hr
        | some x => simp at hr; subst hr; exact ht x (hx x rfl)
      | some y => exact (hl y (hy y rfl)).2 r hr
    simp only [stepA]
    split
    · rename_i r hr
      intro z hz
      simp at hz
      rcases hz with hz | rfl
      · exact hp z hz
      · exact key r hr
    · exact hp
theorem apply_ok {t : Table} {l : List Event} (ht : okL t.l) (hl : okE l) : okL (apply t l).1.l ∧ (apply t l).1.l.length ≤ 4096 := by
  unfold apply
  split
  · simp [okL]
  · split
    · simp [okL]
    · simp only []
      split
      · simp [okL]
      · split
        · simp [okL]
        · exact ⟨applyS_ok ht (itemsOf_ok hl), by simp only []; omega⟩
theorem feed_feedR (a b : Table) : (if valid a = true ∧ valid b = true then feedR a.l b.l else []) = feed a b := by
  unfold feed; split
  · exact (feed_eq _ _).symm
  · rfl
theorem compose_composeR (a b : List Event) : (if feedOk none a = true ∧ feedOk none b = true then composeR (itemsOf [] a) (itemsOf [] b) else []) = compose a b := by
  unfold compose; split
  · exact (compose_eq _ _).symm
  · rfl
theorem invert_invR (a : List Event) : (if feedOk none a = true then invR (itemsOf [] a) else []) = invert a := by
  unfold invert; split
  · exact (invert_eq _).symm
  · rfl
theorem compose_ok {a b : List Event} (ha : okE a) (hb : okE b) : okE (compose a b) := by
  unfold compose; split
  · exact eventsOf_ok (composeItems_ok (itemsOf_ok ha) (itemsOf_ok hb))
  · simp [okE]
theorem invert_ok {a : List Event} (ha : okE a) : okE (invert a) := by
  unfold invert; split
  · refine eventsOf_ok fun i hi => ?_
    simp at hi
    obtain ⟨j, hj, rfl⟩ := hi
    exact ⟨(itemsOf_ok ha j hj).2, (itemsOf_ok ha j hj).1⟩
  · simp [okE]
theorem compose_len (a b : List Event) : (compose a b).length ≤ 2 * (a.length + b.length) := by
  unfold compose; split
  · have h1 := eventsOf_len (composeItems (itemsOf [] a) (itemsOf [] b))
    have h2 := mergeS_len (na := Item.n) (nb := Item.n) (step := stepC2) List.length 1 (fun s n x y => by simp [stepC2]) (itemsOf [] a) (itemsOf [] b) []
    change (composeItems (itemsOf [] a) (itemsOf [] b)).length ≤ _ at h2
    have h3 := itemsOf_len a []
    have h4 := itemsOf_len b []
    simp only [List.length_nil] at h2 h3 h4
    omega
  · simp
theorem invert_len (a : List Event) : (invert a).length ≤ 2 * a.length := by
  unfold invert; split
  · have h1 := eventsOf_len ((itemsOf [] a).map Item.swap)
    have h3 := itemsOf_len a []
    simp only [List.length_nil, List.length_map] at h1 h3
    omega
  · simp
theorem light_ok {L : List Line} (h : lightL L = true) : L.length ≤ 80 ∧ okL L := by
  simp [lightL] at h
  exact ⟨h.1, fun x hx => by have := h.2 x hx; omega⟩
theorem lightE_ok {L : List Event} (h : lightL (L.map Event.l) = true) : L.length ≤ 80 ∧ okE L := by
  obtain ⟨h1, h2⟩ := light_ok h
  exact ⟨by simpa using h1, fun e he => h2 e.l (by simp; exact ⟨e, he, rfl⟩)⟩
theorem law_LMR (a b : Table) (l : List Event) (ha : a.l.length * 32 ≤ 140737488351232) (hb : b.l.length * 32 ≤ 140737488351232) (hl : l.length * 40 ≤ 140737488351232) :
    Den prog 93 [.agg [.int .i64 a.next, .sl (a.l.map Line.cells)], .agg [.int .i64 b.next, .sl (b.l.map Line.cells)], .sl (l.map Event.cells)] [] = some (.bool true, []) := by
  have la := R29_Light a.l (by omega)
  have lb := R29_Light b.l (by omega)
  have lo := R29_Of l hl
  have ll := R29_Light (l.map Event.l) (by simp; omega)
  rw [Den_ofK [] pr_L29_LineageMatchesReference rfl]
  cases ca : lightL a.l with
  | false => simp only [f_L29_LineageMatchesReference, la, ca, go_sem]
  | true => cases cb : lightL b.l with
    | false => simp only [f_L29_LineageMatchesReference, la, lb, ca, cb, go_sem]
    | true => cases cl : lightL (l.map Event.l) with
      | false => simp only [f_L29_LineageMatchesReference, la, lb, lo, ll, ca, cb, cl, go_sem]
      | true =>
        obtain ⟨a1, a2⟩ := light_ok ca
        obtain ⟨b1, b2⟩ := light_ok cb
        obtain ⟨l1, l2⟩ := lightE_ok cl
        have p1 := lineage_Apply a l (by omega) (by omega) a2 l2
        have p2 := R29_Apply a l (by omega) (by omega) a2 l2
        have p3 := lineage_Feed a b (by omega) (by omega) a2 b2
        have p4 := R29_Feed a b (by omega) (by omega) a2 b2
        have p5 := lineage_Fits a l (by omega) (by omega) a2 l2
        have p6 := R29_Fits a l (by omega) (by omega) a2 l2
        have v1 := lineage_Valid a (by omega)
        have v2 := R29_Valid a (by omega)
        simp only [go_sem] at v2
        rw [← apply_eq] at p2 p6
        rw [feed_feedR] at p4
        have e1 := R29_Events (feed a b) (feed a b) (by have := feed_len a b; omega) (feed_ok a2 b2)
        have hao := apply_ok a2 l2
        have e2 := R29_Same (apply a l).1 (apply a l).1 (by omega) hao.1
        simp only [decide_true, Bool.true_and] at e1 e2
        clear ha hb hl a1 a2 b1 b2 l1 l2 hao
        simp only [f_L29_LineageMatchesReference, la, lb, lo, ll, ca, cb, cl, p1, p2, p3, p4, p5, p6, v1, v2, e1, e2, BEq.rfl, go_sem]
theorem law_LFMR (a b : List Event) (ha : a.length * 40 ≤ 140737488351232) (hb : b.length * 40 ≤ 140737488351232) :
    Den prog 94 [.sl (a.map Event.cells), .sl (b.map Event.cells)] [] = some (.bool true, []) := by
  have oa := R29_Of a ha
  have ob := R29_Of b hb
  have la := R29_Light (a.map Event.l) (by simp; omega)
  have lb := R29_Light (b.map Event.l) (by simp; omega)
  rw [Den_ofK [] pr_L29_LineageFeedsMatchReference rfl]
  cases ca : lightL (a.map Event.l) with
  | false => simp only [f_L29_LineageFeedsMatchReference, oa, la, ca, go_sem]
  | true => cases cb : lightL (b.map Event.l) with
    | false => simp only [f_L29_LineageFeedsMatchReference, oa, ob, la, lb, ca, cb, go_sem]
    | true =>
      obtain ⟨a1, a2⟩ := lightE_ok ca
      obtain ⟨b1, b2⟩ := lightE_ok cb
      have p1 := lineage_Compose a b (by omega) (by omega) a2 b2
      have p2 := R29_Compose a b (by omega) (by omega) a2 b2
      have p3 := lineage_Invert a (by omega) a2
      have p4 := R29_Invert a (by omega) a2
      rw [compose_composeR] at p2
      rw [invert_invR] at p4
      have e1 := R29_Events (compose a b) (compose a b) (by have := compose_len a b; omega) (compose_ok a2 b2)
      have e2 := R29_Events (invert a) (invert a) (by have := invert_len a; omega) (invert_ok a2)
      simp only [decide_true] at e1 e2
      clear ha hb a1 a2 b1 b2
      simp only [f_L29_LineageFeedsMatchReference, oa, ob, la, lb, ca, cb, p1, p2, p3, p4, e1, e2, go_sem]
theorem row_LMR (xs : List AV) (h : Args Try.prog [24, 24, 25] xs) : Den prog 93 xs [] = some (.bool true, []) := by
  obtain ⟨n, x, ys, rfl, h1, h⟩ := h.one
  obtain ⟨m, y, ys, rfl, h2, h⟩ := h.one
  obtain ⟨k, z, ys, rfl, h3, h⟩ := h.one
  cases h.none
  obtain ⟨a, rfl, ha, _⟩ := sh_table h1
  obtain ⟨b, rfl, hb, _⟩ := sh_table h2
  obtain ⟨l, rfl, hl, _⟩ := sh_events h3
  simp only [avOf, Try.underlying24, Try.underlying25]
  exact law_LMR a b l ha hb hl
theorem row_LFMR (xs : List AV) (h : Args Try.prog [25, 25] xs) : Den prog 94 xs [] = some (.bool true, []) := by
  obtain ⟨n, x, ys, rfl, h1, h⟩ := h.one
  obtain ⟨m, y, ys, rfl, h2, h⟩ := h.one
  cases h.none
  obtain ⟨a, rfl, ha, _⟩ := sh_events h1
  obtain ⟨b, rfl, hb, _⟩ := sh_events h2
  simp only [avOf, Try.underlying25]
  exact law_LFMR a b ha hb
end Go.Den
