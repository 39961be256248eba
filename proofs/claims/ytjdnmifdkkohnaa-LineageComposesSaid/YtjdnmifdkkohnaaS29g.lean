/- Ch. 29: Feed, Compose, Invert. -/
import Derived.Test.YtjdnmifdkkohnaaS29f
namespace Go.Den
open Go
set_option linter.unusedSimpArgs false
set_option linter.unusedVariables false
set_option maxRecDepth 100000
set_option maxHeartbeats 1000000
def σF (out : List Item) : St := [.arr 0 3 (out.map Item.cells), .cells [.osl 0 0 out.length 0 out.length]]
theorem Feed_1 (out : List Item) (n : Int) (x y : Option Line) (h : out.length < 1000000000000) : Den prog 13 (.int .i64 n :: lineP x :: lineP y :: [.ref 1 0]) (σF out) = some (.tup [], σF (out ++ [⟨n, x.map Line.r, y.map Line.r⟩])) := by
  have hb : (out.length + 1) * 24 ≤ 140737488355328 := mul24 (by omega)
  rw [Den_ofK (σF out) pr_lineage_Feed_1 rfl]
  cases x <;> cases y <;> simp only [f_lineage_Feed_1, σF, hb, finV, oneOf, go_sem, Nat.reduceEqDiff, ↓reduceIte, Nat.reduceAdd, Nat.reduceLeDiff, Nat.reduceLT, reduceCtorEq, Nat.reduceBEq, Nat.reduceMul, Nat.reduceSub, ne_eq, not_false_eq_true, Int.reduceSub, Int.reduceAdd, Int.reduceLE, Int.reduceLT, Int.reduceToNat, Int.toNat_zero, implies_true]
theorem rise_all : ∀ {L : List Line} {last nx : Int}, rise nx last L = true → ∀ x ∈ L, 0 ≤ x.n ∧ x.n < nx
  | [], _, _, _ => by simp
  | x :: r, last, nx, h => by
    rw [rise] at h
    split at h
    · exact absurd h (by simp)
    · intro y hy
      simp at hy
      rcases hy with rfl | hy
      · omega
      · exact rise_all h y hy
theorem valid_all {t : Table} (h : valid t = true) : t.next ≤ 4611686018427387904 ∧ t.l.length ≤ 4096 ∧ ∀ x ∈ t.l, 0 ≤ x.n ∧ x.n < 4611686018427387904 := by
  unfold valid at h
  split at h
  · exact absurd h (by simp)
  · have := rise_all h
    refine ⟨by omega, by omega, fun x hx => ?_⟩
    have := this x hx
    omega
/-- All rows are of a size that memory holds. -/
def okL (L : List Line) : Prop := ∀ x ∈ L, x.r.length < 1000000000000000
def feedItems (a b : List Line) : List Item := mergeS Line.n Line.n (fun out n x y => out ++ [⟨n, x.map Line.r, y.map Line.r⟩]) [] a b
def feed (a b : Table) : List Event := if valid a = true ∧ valid b = true then eventsOf (feedItems a.l b.l) else []
theorem mergeS_inv {A B S : Type} {na : A → Int} {nb : B → Int} {step : S → Int → Option A → Option B → S} (P : S → Prop) :
    ∀ (a : List A) (b : List B) (s : S), P s → (∀ s n x y, P s → (∀ x', x = some x' → x' ∈ a) → (∀ y', y = some y' → y' ∈ b) → P (step s n x y)) → P (mergeS na nb step s a b)
  | [], [], s, h, _ => by rw [mergeS]; exact h
  | x :: a, [], s, h, hs => by
    rw [mergeS]
    exact mergeS_inv P a [] _ (hs _ _ _ _ h (by simp) (by simp)) fun s n u v hp hu hv => hs s n u v hp (fun z hz => by simp [hu z hz]) hv
  | [], y :: b, s, h, hs => by
    rw [mergeS]
    exact mergeS_inv P [] b _ (hs _ _ _ _ h (by simp) (by simp)) fun s n u v hp hu hv => hs s n u v hp hu (fun z hz => by simp [hv z hz])
  | x :: a, y :: b, s, h, hs => by
    rw [mergeS]
    split
    · exact mergeS_inv P a (y :: b) _ (hs _ _ _ _ h (by simp) (by simp)) fun s n u v hp hu hv => hs s n u v hp (fun z hz => by simp [hu z hz]) hv
    · split
      · exact mergeS_inv P (x :: a) b _ (hs _ _ _ _ h (by simp) (by simp)) fun s n u v hp hu hv => hs s n u v hp hu (fun z hz => by simp [hv z hz])
      · exact mergeS_inv P a b _ (hs _ _ _ _ h (by simp) (by simp)) fun s n u v hp hu hv => hs s n u v hp (fun z hz => by simp [hu z hz]) (fun z hz => by simp [hv z hz])
termination_by a b => a.length + b.length
theorem mergeS_len {A B S : Type} {na : A → Int} {nb : B → Int} {step : S → Int → Option A → Option B → S} (cnt : S → Nat) (k : Nat) (hs : ∀ s n x y, cnt (step s n x y) ≤ cnt s + k) :
    ∀ (a : List A) (b : List B) (s : S), cnt (mergeS na nb step s a b) ≤ cnt s + k * (a.length + b.length)
  | [], [], s => by rw [mergeS]; omega
  | x :: a, [], s => by
    rw [mergeS]
    have h1 := mergeS_len cnt k hs (na := na) (nb := nb) a [] (step s (na x) (some x) none)
    have h2 := hs s (na x) (some x) none
    simp only [List.length_cons, Nat.mul_add, Nat.mul_one] at h1 ⊢; omega
  | [], y :: b, s => by
    rw [mergeS]
    have h1 := mergeS_len cnt k hs (na := na) (nb := nb) [] b (step s (nb y) none (some y))
    have h2 := hs s (nb y) none (some y)
    simp only [List.length_cons, Nat.mul_add, Nat.mul_one] at h1 ⊢; omega
  | x :: a, y :: b, s => by
    rw [mergeS]
    split
    · have h1 := mergeS_len cnt k hs (na := na) (nb := nb) a (y :: b) (step s (na x) (some x) none)
      have h2 := hs s (na x) (some x) none
      simp only [List.length_cons, Nat.mul_add, Nat.mul_one] at h1 ⊢; omega
    · split
      · have h1 := mergeS_len cnt k hs (na := na) (nb := nb) (x :: a) b (step s (nb y) none (some y))
        have h2 := hs s (nb y) none (some y)
        simp only [List.length_cons, Nat.mul_add, Nat.mul_one] at h1 ⊢; omega
      · have h1 := mergeS_len cnt k hs (na := na) (nb := nb) a b (step s (na x) (some x) (some y))
        have h2 := hs s (na x) (some x) (some y)
        simp only [List.length_cons, Nat.mul_add, Nat.mul_one] at h1 ⊢; omega
termination_by a b => a.length + b.length
theorem lineage_Feed (a b : Table) (hLa : a.l.length < 1000000000000000) (hLb : b.l.length < 1000000000000000) (ha : okL a.l) (hb : okL b.l) : Den prog 21 [.agg [.int .i64 a.next, .sl (a.l.map Line.cells)], .agg [.int .i64 b.next, .sl (b.l.map Line.cells)]] [] = some (.sl ((feed a b).map Event.cells), []) := by
  rw [Den_ofK [] pr_lineage_Feed rfl]
  by_cases va : valid a = true
  · by_cases vb : valid b = true
    · have hm := merge_LL 13 [.ref 1 0] rfl rfl σF 2 (fun _ => rfl) List.length (fun out n x y => out ++ [⟨n, x.map Line.r, y.map Line.r⟩]) (fun out => ∀ i ∈ out, lenB i.b) (fun l => l.r.length < 1000000000000000) (fun l => l.r.length < 1000000000000000)
        (fun s n x y hg hc hx hy _ => ⟨Feed_1 s n x y hc, by
          intro i hi
          simp at hi
          rcases hi with hi | rfl
          · exact hg i hi
          · intro r hr
            cases x with
            | none => simp at hr
            | some x => simp at hr; subst hr; exact (hx x rfl).1, by simp⟩) a.l b.l []
        (by simp) (by obtain ⟨_, h1, _⟩ := valid_all va; obtain ⟨_, h2, _⟩ := valid_all vb; clear ha hb hLa hLb; simp; omega)
        (fun x hx => ⟨ha x hx, ((valid_all va).2.2 x hx).2⟩) (fun x hx => ⟨hb x hx, ((valid_all vb).2.2 x hx).2⟩)
      change Den prog 14 _ _ = some (_, σF (feedItems a.l b.l)) at hm
      have hlen : (feedItems a.l b.l).length < 1000000000000 := by
        have := mergeS_len (na := Line.n) (nb := Line.n) (step := fun out n x y => out ++ [(⟨n, x.map Line.r, y.map Line.r⟩ : Item)]) List.length 1 (fun s n x y => by simp) a.l b.l []
        obtain ⟨_, h1, _⟩ := valid_all va; obtain ⟨_, h2, _⟩ := valid_all vb
        change (feedItems a.l b.l).length ≤ _ at this
        clear ha hb hLa hLb hm
        simp at this; omega
      have hbb : ∀ i ∈ feedItems a.l b.l, lenB i.b := mergeS_inv (fun (out : List Item) => ∀ i ∈ out, lenB i.b) a.l b.l [] (by simp) fun s n x y hp hx _ i hi => by
        simp at hi
        rcases hi with hi | rfl
        · exact hp i hi
        · intro r hr
          cases x with
          | none => simp at hr
          | some x => simp at hr; subst hr; exact ha x (hx x rfl)
      have he := lineage_events _ hlen hbb
      have hf : feed a b = eventsOf (feedItems a.l b.l) := by rw [feed, if_pos ⟨va, vb⟩]
      simp only [σF, go_sem, Nat.reduceEqDiff, ↓reduceIte, Nat.reduceAdd, Nat.reduceLeDiff, Nat.reduceLT, reduceCtorEq, Nat.reduceBEq, Nat.reduceMul, Nat.reduceSub, ne_eq, not_false_eq_true, Int.reduceSub, Int.reduceAdd, Int.reduceLE, Int.reduceLT, Int.reduceToNat, Int.toNat_zero, implies_true] at hm
      rw [hf]
      simp only [f_lineage_Feed, hLa, hLb, va, vb, hm, he, go_sem, Nat.reduceEqDiff, ↓reduceIte, Nat.reduceAdd, Nat.reduceLeDiff, Nat.reduceLT, reduceCtorEq, Nat.reduceBEq, Nat.reduceMul, Nat.reduceSub, ne_eq, not_false_eq_true, Int.reduceSub, Int.reduceAdd, Int.reduceLE, Int.reduceLT, Int.reduceToNat, Int.toNat_zero, implies_true]
    · have vb' : valid b = false := by simpa using vb
      have hf : feed a b = [] := by rw [feed, if_neg (by simp [vb])]
      rw [hf]
      simp only [f_lineage_Feed, hLa, hLb, va, vb', go_sem, Nat.reduceEqDiff, ↓reduceIte, Nat.reduceAdd, Nat.reduceLeDiff, Nat.reduceLT, reduceCtorEq, Nat.reduceBEq, Nat.reduceMul, Nat.reduceSub, ne_eq, not_false_eq_true, Int.reduceSub, Int.reduceAdd, Int.reduceLE, Int.reduceLT, Int.reduceToNat, Int.toNat_zero, implies_true]
  · have va' : valid a = false := by simpa using va
    have hf : feed a b = [] := by rw [feed, if_neg (by simp [va])]
    rw [hf]
    simp only [f_lineage_Feed, hLa, hLb, va', go_sem, Nat.reduceEqDiff, ↓reduceIte, Nat.reduceAdd, Nat.reduceLeDiff, Nat.reduceLT, reduceCtorEq, Nat.reduceBEq, Nat.reduceMul, Nat.reduceSub, ne_eq, not_false_eq_true, Int.reduceSub, Int.reduceAdd, Int.reduceLE, Int.reduceLT, Int.reduceToNat, Int.toNat_zero, implies_true]

def σC (out : List Item) : St := [.arr 0 3 (out.map Item.cells), .cells [.osl 0 0 out.length 0 out.length], .dead, .dead]
def stepC2 (out : List Item) (n : Int) (x y : Option Item) : List Item := out ++ [match x, y with
  | none, none => ⟨n, none, none⟩
  | none, some y => y
  | some x, none => x
  | some x, some y => ⟨n, x.b, y.a⟩]
theorem Compose_1 (out : List Item) (n : Int) (x y : Option Item) (h : out.length < 1000000000000) (hxy : x = none → y = none → False) : Den prog 18 (.int .i64 n :: itemP x :: itemP y :: [.ref 1 0]) (σC out) = some (.tup [], σC (stepC2 out n x y)) := by
  have hb : (out.length + 1) * 24 ≤ 140737488355328 := mul24 (by omega)
  rw [Den_ofK (σC out) pr_lineage_Compose_1 rfl]
  cases x with
  | none => cases y with
    | none => exact (hxy rfl rfl).elim
    | some y => simp only [f_lineage_Compose_1, σC, stepC2, hb, finV, oneOf, go_sem, Nat.reduceEqDiff, ↓reduceIte, Nat.reduceAdd, Nat.reduceLeDiff, Nat.reduceLT, reduceCtorEq, Nat.reduceBEq, Nat.reduceMul, Nat.reduceSub, ne_eq, not_false_eq_true, Int.reduceSub, Int.reduceAdd, Int.reduceLE, Int.reduceLT, Int.reduceToNat, Int.toNat_zero, implies_true]
  | some x => cases y with
    | none => simp only [f_lineage_Compose_1, σC, stepC2, hb, finV, oneOf, go_sem, Nat.reduceEqDiff, ↓reduceIte, Nat.reduceAdd, Nat.reduceLeDiff, Nat.reduceLT, reduceCtorEq, Nat.reduceBEq, Nat.reduceMul, Nat.reduceSub, ne_eq, not_false_eq_true, Int.reduceSub, Int.reduceAdd, Int.reduceLE, Int.reduceLT, Int.reduceToNat, Int.toNat_zero, implies_true]
    | some y => simp only [f_lineage_Compose_1, σC, stepC2, hb, finV, oneOf, go_sem, Nat.reduceEqDiff, ↓reduceIte, Nat.reduceAdd, Nat.reduceLeDiff, Nat.reduceLT, reduceCtorEq, Nat.reduceBEq, Nat.reduceMul, Nat.reduceSub, ne_eq, not_false_eq_true, Int.reduceSub, Int.reduceAdd, Int.reduceLE, Int.reduceLT, Int.reduceToNat, Int.toNat_zero, implies_true]
def composeItems (a b : List Item) : List Item := mergeS Item.n Item.n stepC2 [] a b
def compose (a b : List Event) : List Event := if feedOk none a = true ∧ feedOk none b = true then eventsOf (composeItems (itemsOf [] a) (itemsOf [] b)) else []
theorem itemsOf_all {P : Item → Prop} : ∀ {L : List Event} {out : List Item}, (∀ x ∈ L, ∀ i, P i → P (Item.upd i x)) → (∀ x ∈ L, P ⟨x.l.n, none, none⟩) → (∀ i ∈ out, P i) → ∀ i ∈ itemsOf out L, P i
  | [], out, _, _, h => by rw [itemsOf]; exact h
  | x :: r, out, h1, h2, h => by
    rw [itemsOf]
    refine itemsOf_all (fun y hy => h1 y (by simp [hy])) (fun y hy => h2 y (by simp [hy])) ?_
    intro i hi
    unfold addEv at hi
    have hx := h1 x (by simp)
    have h0 := h2 x (by simp)
    split at hi
    · rename_i y hy
      have hym : y ∈ out := List.mem_of_getLast? hy
      split at hi
      · simp at hi
        rcases hi with hi | rfl
        · exact h i ((List.dropLast_sublist out).subset hi)
        · exact hx y (h y hym)
      · simp at hi
        rcases hi with hi | rfl
        · exact h i hi
        · exact hx _ h0
    · simp at hi
      rcases hi with hi | rfl
      · exact h i hi
      · exact hx _ h0
theorem upd_n (i : Item) (x : Event) : (i.upd x).n = i.n := by unfold Item.upd; split <;> rfl
theorem itemsOf_len : ∀ (L : List Event) (out : List Item), (itemsOf out L).length ≤ out.length + L.length
  | [], out => by simp [itemsOf]
  | x :: r, out => by
    have h1 := itemsOf_len r (addEv out x)
    have h2 := addEv_len out x
    rw [itemsOf]; simp; omega
def okE (L : List Event) : Prop := ∀ e ∈ L, e.l.r.length < 1000000000000000
def okI (i : Item) : Prop := lenB i.b ∧ lenB i.a
theorem itemsOf_ok {L : List Event} (h : okE L) : ∀ i ∈ itemsOf [] L, okI i :=
  itemsOf_all (fun x hx i hi => by
    unfold Item.upd
    split
    · exact ⟨fun r hr => by simp at hr; subst hr; exact h x hx, hi.2⟩
    · exact ⟨hi.1, fun r hr => by simp at hr; subst hr; exact h x hx⟩) (fun x _ => ⟨fun r hr => by simp at hr, fun r hr => by simp at hr⟩) (by simp)
theorem feedOk_all : ∀ {L : List Event} {p : Option Event}, feedOk p L = true → ∀ x ∈ L, (x.kind = 1 ∨ x.kind = 2) ∧ 0 ≤ x.l.n ∧ x.l.n < 4611686018427387904
  | [], _, _ => by simp
  | x :: r, none, h => by
    rw [feedOk] at h
    split at h
    · exact absurd h (by simp)
    · intro y hy
      simp at hy
      rcases hy with rfl | hy
      · omega
      · exact feedOk_all h y hy
  | x :: r, some p, h => by
    rw [feedOk] at h
    split at h
    · exact absurd h (by simp)
    · intro y hy
      simp at hy
      rcases hy with rfl | hy
      · omega
      · split at h
        · exact feedOk_all h y hy
        · split at h
          · exact absurd h (by simp)
          · exact feedOk_all h y hy
theorem itemsOf_lt {L : List Event} (h : feedOk none L = true) : ∀ i ∈ itemsOf [] L, 0 ≤ i.n ∧ i.n < 4611686018427387904 :=
  itemsOf_all (P := fun i => 0 ≤ i.n ∧ i.n < 4611686018427387904) (fun x hx i hi => by rw [upd_n]; exact hi) (fun x hx => (feedOk_all h x hx).2) (by simp)
theorem composeItems_ok {a b : List Item} (ha : ∀ i ∈ a, okI i) (hb : ∀ i ∈ b, okI i) : ∀ i ∈ composeItems a b, okI i :=
  mergeS_inv (fun (out : List Item) => ∀ i ∈ out, okI i) a b [] (by simp) fun s n x y hp hx hy i hi => by
    simp only [stepC2, List.mem_append, List.mem_singleton] at hi
    rcases hi with hi | rfl
    · exact hp i hi
    · cases x with
      | none => cases y with
        | none => exact ⟨fun r hr => by simp at hr, fun r hr => by simp at hr⟩
        | some y => exact hb y (hy y rfl)
      | some x => cases y with
        | none => exact ha x (hx x rfl)
        | some y => exact ⟨(ha x (hx x rfl)).1, (hb y (hy y rfl)).2⟩
theorem lineage_Compose (a b : List Event) (hLa : a.length < 100000000000) (hLb : b.length < 100000000000) (ha : okE a) (hb : okE b) : Den prog 27 [.sl (a.map Event.cells), .sl (b.map Event.cells)] [] = some (.sl ((compose a b).map Event.cells), []) := by
  have hfa := lineage_isFeed a (by clear ha hb; omega) ha
  have hfb := lineage_isFeed b (by clear ha hb; omega) hb
  have hia := lineage_items a (by clear ha hb; omega)
  have hib := lineage_items b (by clear ha hb; omega)
  rw [Den_ofK [] pr_lineage_Compose rfl]
  by_cases va : feedOk none a = true
  · by_cases vb : feedOk none b = true
    · have l1 := itemsOf_len a []
      have l2 := itemsOf_len b []
      simp only [List.length_nil, Nat.zero_add] at l1 l2
      have hm := merge_II 18 [.ref 1 0] rfl rfl σC 4 (fun _ => rfl) List.length stepC2 (fun out => True) (fun _ => True) (fun _ => True)
        (fun s n x y _ hc hx hy hxy => ⟨Compose_1 s n x y hc hxy, trivial, by simp [stepC2]⟩) (itemsOf [] a) (itemsOf [] b) []
        trivial (by clear ha hb hfa hfb hia hib; simp only [List.length_nil]; omega)
        (fun x hx => ⟨trivial, (itemsOf_lt va x hx).2⟩) (fun x hx => ⟨trivial, (itemsOf_lt vb x hx).2⟩)
      change Den prog 19 _ _ = some (_, σC (composeItems (itemsOf [] a) (itemsOf [] b))) at hm
      have hlen : (composeItems (itemsOf [] a) (itemsOf [] b)).length < 1000000000000 := by
        have := mergeS_len (na := Item.n) (nb := Item.n) (step := stepC2) List.length 1 (fun s n x y => by simp [stepC2]) (itemsOf [] a) (itemsOf [] b) []
        change (composeItems (itemsOf [] a) (itemsOf [] b)).length ≤ _ at this
        clear ha hb hfa hfb hia hib hm
        simp only [List.length_nil] at this; omega
      have he := lineage_events _ hlen (fun i hi => (composeItems_ok (itemsOf_ok ha) (itemsOf_ok hb) i hi).1)
      have hf : compose a b = eventsOf (composeItems (itemsOf [] a) (itemsOf [] b)) := by rw [compose, if_pos ⟨va, vb⟩]
      simp only [σC, go_sem, Nat.reduceEqDiff, ↓reduceIte, Nat.reduceAdd, Nat.reduceLeDiff, Nat.reduceLT, reduceCtorEq, Nat.reduceBEq, Nat.reduceMul, Nat.reduceSub, ne_eq, not_false_eq_true, Int.reduceSub, Int.reduceAdd, Int.reduceLE, Int.reduceLT, Int.reduceToNat, Int.toNat_zero, implies_true] at hm
      rw [hf]
      simp only [f_lineage_Compose, hfa, hfb, hia, hib, va, vb, hm, he, go_sem, Nat.reduceEqDiff, ↓reduceIte, Nat.reduceAdd, Nat.reduceLeDiff, Nat.reduceLT, reduceCtorEq, Nat.reduceBEq, Nat.reduceMul, Nat.reduceSub, ne_eq, not_false_eq_true, Int.reduceSub, Int.reduceAdd, Int.reduceLE, Int.reduceLT, Int.reduceToNat, Int.toNat_zero, implies_true]
    · have vb' : feedOk none b = false := by simpa using vb
      have hf : compose a b = [] := by rw [compose, if_neg (by simp [vb])]
      rw [hf]
      simp only [f_lineage_Compose, hfa, hfb, va, vb', go_sem, Nat.reduceEqDiff, ↓reduceIte, Nat.reduceAdd, Nat.reduceLeDiff, Nat.reduceLT, reduceCtorEq, Nat.reduceBEq, Nat.reduceMul, Nat.reduceSub, ne_eq, not_false_eq_true, Int.reduceSub, Int.reduceAdd, Int.reduceLE, Int.reduceLT, Int.reduceToNat, Int.toNat_zero, implies_true]
  · have va' : feedOk none a = false := by simpa using va
    have hf : compose a b = [] := by rw [compose, if_neg (by simp [va])]
    rw [hf]
    simp only [f_lineage_Compose, hfa, hfb, va', go_sem, Nat.reduceEqDiff, ↓reduceIte, Nat.reduceAdd, Nat.reduceLeDiff, Nat.reduceLT, reduceCtorEq, Nat.reduceBEq, Nat.reduceMul, Nat.reduceSub, ne_eq, not_false_eq_true, Int.reduceSub, Int.reduceAdd, Int.reduceLE, Int.reduceLT, Int.reduceToNat, Int.toNat_zero, implies_true]
def Item.swap (i : Item) : Item := ⟨i.n, i.a, i.b⟩
def invert (l : List Event) : List Event := if feedOk none l = true then eventsOf ((itemsOf [] l).map Item.swap) else []
theorem lineage_Invert_l0 {β : Type} {K : Ex × Env × St → Option β} {Z : Option β} (L : List Item) (hL : L.length < 1000000000000)
    (h : K (.exit 0, [(3, .osl 0 0 L.length 0 L.length), (11, .osl 0 0 L.length 0 L.length), (12, .int .i64 L.length), (13, .int .i64 L.length), (14, .bool false)], [.arr 0 3 ((L.map Item.swap).map Item.cells)]) = Z) :
    (Run prog 0 (.loop 1 [3, 11, 12, 13] f_lineage_Invert_l0) [(3, .osl 0 0 L.length 0 L.length), (11, .osl 0 0 L.length 0 L.length), (12, .int .i64 L.length), (13, .int .i64 0)] [.arr 0 3 (L.map Item.cells)]).bind K = Z := by
  have h0 := range_ind L (by omega) (fun i (cur : List Item) => (Run prog 0 (.loop 1 [3, 11, 12, 13] f_lineage_Invert_l0) [(3, .osl 0 0 L.length 0 L.length), (11, .osl 0 0 L.length 0 L.length), (12, .int .i64 L.length), (13, .int .i64 i)] [.arr 0 3 (cur.map Item.cells)]).bind K = Z)
    (fun i rest cur => ∃ pre, i = (pre.length : Int) ∧ cur = pre ++ rest ∧ pre ++ rest.map Item.swap = L.map Item.swap) ?_ ?_ L ⟨[], by simp, by simp, by simp⟩
  · exact h0
  · intro cur ⟨pre, hi, hc, hs⟩
    simp at hs hc
    rw [← hc] at hs
    rw [Run_loop]
    simp only [f_lineage_Invert_l0_eq, f_lineage_Invert_l0u, hs, h, go_sem, Nat.reduceEqDiff, ↓reduceIte, Nat.reduceAdd, Nat.reduceLeDiff, Nat.reduceLT, reduceCtorEq, Nat.reduceBEq, Nat.reduceMul, Nat.reduceSub, ne_eq, not_false_eq_true, Int.reduceSub, Int.reduceAdd, Int.reduceLE, Int.reduceLT, Int.reduceToNat, Int.toNat_zero, implies_true]
  · intro i pre0 rest x cur hp hi0 hi1 hi2 hx hc hw ⟨pre, hi, hcur, hs⟩ ih
    have hlen : L.length = pre.length + (rest.length + 1) := by
      have := congrArg List.length hp
      simp at this
      clear hw hx hc ih h hp
      omega
    subst hi
    have hk : decide ((pre.length : Int) < L.length) = true := hc
    have hk2 : (pre.length : Int) < L.length := hi2
    have hget : ∀ v, (List.map Item.cells pre ++ v :: List.map Item.cells rest)[pre.length]? = some v := by intro v; simp
    have hset : ∀ v u, (List.map Item.cells pre ++ v :: List.map Item.cells rest).set pre.length u = List.map Item.cells pre ++ u :: List.map Item.cells rest := by intro v u; simp
    have ih := ih (pre ++ x.swap :: rest) ⟨pre ++ [x.swap], by simp, by simp, by rw [← hs]; simp⟩
    subst hcur
    have hlen2 : (List.map Item.cells pre ++ Item.cells x :: List.map Item.cells rest).length = L.length := by simp; omega
    clear hp hi0 hi1 hi2 hx
    rw [hlen] at hk hk2
    simp only [Int.natCast_add, Int.cast_ofNat_Int] at hk hk2
    rw [Run_loop]
    simp only [hlen, Item.swap, go_sem, Nat.reduceEqDiff, ↓reduceIte, Nat.reduceAdd, Nat.reduceLeDiff, Nat.reduceLT, reduceCtorEq, Nat.reduceBEq, Nat.reduceMul, Nat.reduceSub, ne_eq, not_false_eq_true, Int.reduceSub, Int.reduceAdd, Int.reduceLE, Int.reduceLT, Int.reduceToNat, Int.toNat_zero, implies_true] at ih
    simp only [f_lineage_Invert_l0_eq, f_lineage_Invert_l0u, hlen, hk, hk2, hget, hset, hw, ih, go_sem, Nat.reduceEqDiff, ↓reduceIte, Nat.reduceAdd, Nat.reduceLeDiff, Nat.reduceLT, reduceCtorEq, Nat.reduceBEq, Nat.reduceMul, Nat.reduceSub, ne_eq, not_false_eq_true, Int.reduceSub, Int.reduceAdd, Int.reduceLE, Int.reduceLT, Int.reduceToNat, Int.toNat_zero, implies_true]
theorem lineage_Invert (a : List Event) (hLa : a.length < 100000000000) (ha : okE a) : Den prog 24 [.sl (a.map Event.cells)] [] = some (.sl ((invert a).map Event.cells), []) := by
  have hfa := lineage_isFeed a (by clear ha; omega) ha
  have hia := lineage_items a (by clear ha; omega)
  rw [Den_ofK [] pr_lineage_Invert rfl]
  by_cases va : feedOk none a = true
  · have l1 := itemsOf_len a []
    simp only [List.length_nil, Nat.zero_add] at l1
    have he := lineage_events ((itemsOf [] a).map Item.swap) (by clear ha hfa hia; simp only [List.length_map]; omega) (fun i hi => by
      simp at hi
      obtain ⟨j, hj, rfl⟩ := hi
      exact (itemsOf_ok ha j hj).2)
    have hf : invert a = eventsOf ((itemsOf [] a).map Item.swap) := by rw [invert, if_pos va]
    rw [hf]
    simp only [f_lineage_Invert, hfa, hia, va, go_sem, Nat.reduceEqDiff, ↓reduceIte, Nat.reduceAdd, Nat.reduceLeDiff, Nat.reduceLT, reduceCtorEq, Nat.reduceBEq, Nat.reduceMul, Nat.reduceSub, ne_eq, not_false_eq_true, Int.reduceSub, Int.reduceAdd, Int.reduceLE, Int.reduceLT, Int.reduceToNat, Int.toNat_zero, implies_true]
    refine lineage_Invert_l0 (itemsOf [] a) (by clear ha hfa hia he; omega) ?_
    have e3 : (itemsOf [] a).length = ((itemsOf [] a).map Item.swap).length := by simp
    rw [e3]
    simp only [he, go_sem, Nat.reduceEqDiff, ↓reduceIte, Nat.reduceAdd, Nat.reduceLeDiff, Nat.reduceLT, reduceCtorEq, Nat.reduceBEq, Nat.reduceMul, Nat.reduceSub, ne_eq, not_false_eq_true, Int.reduceSub, Int.reduceAdd, Int.reduceLE, Int.reduceLT, Int.reduceToNat, Int.toNat_zero, implies_true]
  · have va' : feedOk none a = false := by simpa using va
    have hf : invert a = [] := by rw [invert, if_neg (by simp [va])]
    rw [hf]
    simp only [f_lineage_Invert, hfa, va', go_sem, Nat.reduceEqDiff, ↓reduceIte, Nat.reduceAdd, Nat.reduceLeDiff, Nat.reduceLT, reduceCtorEq, Nat.reduceBEq, Nat.reduceMul, Nat.reduceSub, ne_eq, not_false_eq_true, Int.reduceSub, Int.reduceAdd, Int.reduceLE, Int.reduceLT, Int.reduceToNat, Int.toNat_zero, implies_true]
end Go.Den
