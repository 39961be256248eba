import Derived.Test.YtjdnmifdkkohnaaS29A
/-! Ch. 29: Feed, Compose, Invert. -/
namespace Go.Den
open Go
set_option linter.unusedSimpArgs false
set_option linter.unusedVariables false
set_option maxRecDepth 100000
set_option maxHeartbeats 1000000
def σF (out : List Item) : St := [.arr 0 3 (out.map Item.cells), .cells [.osl 0 0 out.length 0 out.length]]
theorem Feed_1 (out : List Item) (n : Int) (x y : Option Line) (h : out.length < 1000000000000) : Den prog 13 (.int .i64 n :: lineP x :: lineP y :: [.ref 1 0]) (σF out) = some (.tup [], σF (out ++ [⟨n, x.map Line.r, y.map Line.r⟩])) := by
  have hb : (out.length + 1) * 24 ≤ 140737488355328 := mul24 (by omega)
  rw [Den_ofK (σF out) pr_lineage_Feed_1 rfl]
  cases x <;> cases y <;> simp only [f_lineage_Feed_1, σF, hb, finV, oneOf, go_sem]
theorem rise_all : ∀ {L : List Line} {last nx : Int}, rise nx last L = true → ∀ x ∈ L, 0 ≤ x.n ∧ x.n < nx
  | [], _, _, _ => by simp
  | x :: r, last, nx, h => by
    rw [rise] at h
    split at h
    · exact absurd h (by simp)
    · intro y hy
      simp at hy
      rcases hy with rfl | hy
      · omega
      · exact rise_all h y hy
theorem valid_all {t : Table} (h : valid t = true) : t.next ≤ 4611686018427387904 ∧ t.l.length ≤ 4096 ∧ ∀ x ∈ t.l, 0 ≤ x.n ∧ x.n < 4611686018427387904 := by
  unfold valid at h
  split at h
  · exact absurd h (by simp)
  · have := rise_all h
    refine ⟨by omega, by omega, fun x hx => ?_⟩
    have := this x hx
    omega
/-- All rows are of a size that memory holds. -/
def okL (L : List Line) : Prop := ∀ x ∈ L, x.r.length < 1000000000000000
def feedItems (a b : List Line) : List Item := mergeS Line.n Line.n (fun out n x y => out ++ [⟨n, x.map Line.r, y.map Line.r⟩]) [] a b
def feed (a b : Table) : List Event := if valid a = true ∧ valid b = true then eventsOf (feedItems a.l b.l) else []
theorem mergeS_inv {A B S : Type} {na : A → Int} {nb : B → Int} {step : S → Int → Option A → Option B → S} (P : S → Prop) :
    ∀ (a : List A) (b : List B) (s : S), P s → (∀ s n x y, P s → (∀ x', x = some x' → x' ∈ a) → (∀ y', y = some y' → y' ∈ b) → P (step s n x y)) → P (mergeS na nb step s a b)
  | [], [], s, h, _ => by rw [mergeS]; exact h
  | x :: a, [], s, h, hs => by
    rw [mergeS]
    exact mergeS_inv P a [] _ (hs _ _ _ _ h (by simp) (by simp)) fun s n u v hp hu hv => hs s n u v hp (fun z hz => by simp [hu z hz]) hv
  | [], y :: b, s, h, hs => by
    rw [mergeS]
    exact mergeS_inv P [] b _ (hs _ _ _ _ h (by simp) (by simp)) fun s n u v hp hu hv => hs s n u v hp hu (fun z hz => by simp [hv z hz])
  | x :: a, y :: b, s, h, hs => by
    rw [mergeS]
    split
    · exact mergeS_inv P a (y :: b) _ (hs _ _ _ _ h (by simp) (by simp)) fun s n u v hp hu hv => hs s n u v hp (fun z hz => by simp [hu z hz]) hv
    · split
      · exact mergeS_inv P (x :: a) b _ (hs _ _ _ _ h (by simp) (by simp)) fun s n u v hp hu hv => hs s n u v hp hu (fun z hz => by simp [hv z hz])
      · exact mergeS_inv P a b _ (hs _ _ _ _ h (by simp) (by simp)) fun s n u v hp hu hv => hs s n u v hp (fun z hz => by simp [hu z hz]) (fun z hz => by simp [hv z hz])
termination_by a b => a.length + b.length
theorem mergeS_len {A B S : Type} {na : A → Int} {nb : B → Int} {step : S → Int → Option A → Option B → S} (cnt : S → Nat) (k : Nat) (hs : ∀ s n x y, cnt (step s n x y) ≤ cnt s + k) :
    ∀ (a : List A) (b : List B) (s : S), cnt (mergeS na nb step s a b) ≤ cnt s + k * (a.length + b.length)
  | [], [], s => by rw [mergeS]; omega
  | x :: a, [], s => by
    rw [mergeS]
    have h1 := mergeS_len cnt k hs (na := na) (nb := nb) a [] (step s (na x) (some x) none)
    have h2 := hs s (na x) (some x) none
    simp only [List.length_cons, Nat.mul_add, Nat.mul_one] at h1 ⊢; omega
  | [], y :: b, s => by
    rw [mergeS]
    have h1 := mergeS_len cnt k hs (na := na) (nb := nb) [] b (step s (nb y) none (some y))
    have h2 := hs s (nb y) none (some y)
    simp only [List.length_cons, Nat.mul_add, Nat.mul_one] at h1 ⊢; omega
  | x :: a, y :: b, s => by
    rw [mergeS]
    split
    · have h1 := mergeS_len cnt k hs (na := na) (nb := nb) a (y :: b) (step s (na x) (some x) none)
      have h2 := hs s (na x) (some x) none
      simp only [List.length_cons, Nat.mul_add, Nat.mul_one] at h1 ⊢; omega
    · split
      · have h1 := mergeS_len cnt k hs (na := na) (nb := nb) (x :: a) b (step s (nb y) none (some y))
        have h2 := hs s (nb y) none (some y)
        simp only [List.length_cons, Nat.mul_add, Nat.mul_one] at h1 ⊢; omega
      · have h1 := mergeS_len cnt k hs (na := na) (nb := nb) a b (step s (na x) (some x) (some y))
        have h2 := hs s (na x) (some x) (some y)
        simp only [List.length_cons, Nat.mul_add, Nat.mul_one] at h1 ⊢; omega
termination_by a b => a.length + b.length
theorem lineage_Feed (a b : Table) (hLa : a.l.length < 1000000000000000) (hLb : b.l.length < 1000000000000000) (ha : okL a.l) (hb : okL b.l) : Den prog 21 [.agg [.int .i64 a.next, .sl (a.l.map Line.cells)], .agg [.int .i64 b.next, .sl (b.l.map Line.cells)]] [] = some (.sl ((feed a b).map Event.cells), []) := by
  rw [Den_ofK [] pr_lineage_Feed rfl]
  by_cases va : valid a = true
  · by_cases vb : valid b = true
    · have hm := merge_LL 13 [.ref 1 0] rfl rfl σF 2 (fun _ => rfl) List.length (fun out n x y => out ++ [⟨n, x.map Line.r, y.map Line.r⟩]) (fun out => ∀ i ∈ out, lenB i.b) (fun l => l.r.length < 1000000000000000) (fun l => l.r.length < 1000000000000000)
        (fun s n x y hg hc hx hy _ => ⟨Feed_1 s n x y hc, by
          intro i hi
          simp at hi
          rcases hi with hi | rfl
          · exact hg i hi
          · intro r hr
            cases x with
            | none => simp at hr
            | some x => simp at hr; subst hr; exact (hx x rfl).1, by simp⟩) a.l b.l []
        (by simp) (by obtain ⟨_, h1, _⟩ := valid_all va; obtain ⟨_, h2, _⟩ := valid_all vb; clear ha hb hLa hLb; simp; omega)
        (fun x hx => ⟨ha x hx, ((valid_all va).2.2 x hx).2⟩) (fun x hx => ⟨hb x hx, ((valid_all vb).2.2 x hx).2⟩)
      change Den prog 14 _ _ = some (_, σF (feedItems a.l b.l)) at hm
      have hlen : (feedItems a.l b.l).length < 1000000000000 := by
        have := mergeS_len (na := Line.n) (nb := Line.n) (step := fun out n x y => out ++ [(⟨n, x.map Line.r, y.map Line.r⟩ : Item)]) List.length 1 (fun s n x y => by simp) a.l b.l []
        obtain ⟨_, h1, _⟩ := valid_all va; obtain ⟨_, h2, _⟩ := valid_all vb
        change (feedItems a.l b.l).length ≤ _ at this
        clear ha hb hLa hLb hm
        simp at this; omega
      have hbb : ∀ i ∈ feedItems a.l b.l, lenB i.b := mergeS_inv (fun (out : List Item) => ∀ i ∈ out, lenB i.b) a.l b.l [] (by simp) fun s n x y hp hx _ i hi => by
        simp at hi
        rcases hi with hi | rfl
        · exact hp i hi
        · intro r hr
          cases x with
          | none => simp at hr
          | some x => simp at hr; subst hr; exact ha x (hx x rfl)
      have he := lineage_events _ hlen hbb
      have hf : feed a b = eventsOf (feedItems a.l b.l) := by rw [feed, if_pos ⟨va, vb⟩]
      simp only [σF, go_sem] at hm
      rw [hf]
      simp only [f_lineage_Feed, hLa, hLb, va, vb, hm, he, go_sem]
    · have vb' : valid b = false := by simpa using vb
      have hf : feed a b = [] := by rw [feed, if_neg (by simp [vb])]
      rw [hf]
      simp only [f_lineage_Feed, hLa, hLb, va, vb', go_sem]
  · have va' : valid a = false := by simpa using va
    have hf : feed a b = [] := by rw [feed, if_neg (by simp [va])]
    rw [hf]
    simp only [f_lineage_Feed, hLa, hLb, va', go_sem]

def σC (out : List Item) : St := [.arr 0 3 (out.map Item.cells), .cells [.osl 0 0 out.length 0 out.length], .dead, .dead]
def stepC2 (out : List Item) (n : Int) (x y : Option Item) : List Item := out ++ [match x, y with
  | none, none => ⟨n, none, none⟩
  | none, some y => y
  | some x, none => x
  | some x, some y => ⟨n, x.b, y.a⟩]
theorem Compose_1 (out : List Item) (n : Int) (x y : Option Item) (h : out.length < 1000000000000) (hxy : x = none → y = none → False) : Den prog 18 (.int .i64 n :: itemP x :: itemP y :: [.ref 1 0]) (σC out) = some (.tup [], σC (stepC2 out n x y)) := by
  have hb : (out.length + 1) * 24 ≤ 140737488355328 := mul24 (by omega)
  rw [Den_ofK (σC out) pr_lineage_Compose_1 rfl]
  cases x with
  | none => cases y with
    | none => exact (hxy rfl rfl).elim
    | some y => simp only [f_lineage_Compose_1, σC, stepC2, hb, finV, oneOf, go_sem]
  | some x => cases y with
    | none => simp only [f_lineage_Compose_1, σC, stepC2, hb, finV, oneOf, go_sem]
    | some y => simp only [f_lineage_Compose_1, σC, stepC2, hb, finV, oneOf, go_sem]
def composeItems (a b : List Item) : List Item := mergeS Item.n Item.n stepC2 [] a b
def compose (a b : List Event) : List Event := if feedOk none a = true ∧ feedOk none b = true then eventsOf (composeItems (itemsOf [] a) (itemsOf [] b)) else []
theorem itemsOf_all {P : Item → Prop} : ∀ {L : List Event} {out : List Item}, (∀ x ∈ L, ∀ i, P i → P (Item.upd i x)) → (∀ x ∈ L, P ⟨x.l.n, none, none⟩) → (∀ i ∈ out, P i) → ∀ i ∈ itemsOf out L, P i
  | [], out, _, _, h => by rw [itemsOf]; exact h
  | x :: r, out, h1, h2, h => by
    rw [itemsOf]
    refine itemsOf_all (fun y hy => h1 y (by simp [hy])) (fun y hy => h2 y (by simp [hy])) ?_
    intro i hi
    unfold addEv at hi
    have hx := h1 x (by simp)
    have h0 := h2 x (by simp)
    split at hi
    · rename_i y hy
      have hym : y ∈ out := List.mem_of_getLast? hy
      split at hi
      · simp at hi
        rcases hi with hi | rfl
        · exact h i ((List.dropLast_sublist out).subset hi)
        · exact hx y (h y hym)
      · simp at hi
        rcases hi with hi | rfl
        · exact h i hi
        · exact hx _ h0
    · simp at hi
      rcases hi with hi | rfl
      · exact h i hi
      · exact hx _ h0
theorem upd_n (i : Item) (x : Event) : (i.upd x).n = i.n := by unfold Item.upd; split <;> rfl
theorem itemsOf_len : ∀ (L : List Event) (out : List Item), (itemsOf out L).length ≤ out.length + L.length
  | [], out => by simp [itemsOf]
  | x :: r, out => by
    have h1 := itemsOf_len r (addEv out x)
    have h2 := addEv_len out x
    rw [itemsOf]; simp; omega
def okE (L : List Event) : Prop := ∀ e ∈ L, e.l.r.length < 1000000000000000
def okI (i : Item) : Prop := lenB i.b ∧ lenB i.a
theorem itemsOf_ok {L : List Event} (h : okE L) : ∀ i ∈ itemsOf [] L, okI i :=
  itemsOf_all (fun x hx i hi => by
    unfold Item.upd
    split
    · exact ⟨fun r hr => by simp at hr; subst hr; exact h x hx, hi.2⟩
    · exact ⟨hi.1, fun r hr => by simp at hr; subst hr; exact h x hx⟩) (fun x _ => ⟨fun r hr => by simp at hr, fun r hr => by simp at hr⟩) (by simp)
theorem feedOk_all : ∀ {L : List Event} {p : Option Event}, feedOk p L = true → ∀ x ∈ L, (x.kind = 1 ∨ x.kind = 2) ∧ 0 ≤ x.l.n ∧ x.l.n < 4611686018427387904
  | [], _, _ => by simp
  | x :: r, none, h => by
    rw [feedOk] at h
    split at h
    · exact absurd h (by simp)
    · intro y hy
      simp at hy
      rcases hy with rfl | hy
      · omega
      · exact feedOk_all h y hy
  | x :: r, some p, h => by
    rw [feedOk] at h
    split at h
    · exact absurd h (by simp)
    · intro y hy
      simp at hy
      rcases hy with rfl | hy
      · omega
      · split at h
        · exact feedOk_all h y hy
        · split at h
          · exact absurd h (by simp)
          · exact feedOk_all h y hy
theorem itemsOf_lt {L : List Event} (h : feedOk none L = true) : ∀ i ∈ itemsOf [] L, 0 ≤ i.n ∧ i.n < 4611686018427387904 :=
  itemsOf_all (P := fun i => 0 ≤ i.n ∧ i.n < 4611686018427387904) (fun x hx i hi => by rw [upd_n]; exact hi) (fun x hx => (feedOk_all h x hx).2) (by simp)
theorem composeItems_ok {a b : List Item} (ha : ∀ i ∈ a, okI i) (hb : ∀ i ∈ b, okI i) : ∀ i ∈ composeItems a b, okI i :=
  mergeS_inv (fun (out : List Item) => ∀ i ∈ out, okI i) a b [] (by simp) fun s n x y hp hx hy i hi => by
    simp only [stepC2, List.mem_append, List.mem_singleton] at hi
    rcases hi with hi | rfl
    · exact hp i hi
    · cases x with
      | none => cases y with
        | none => exact ⟨fun r hr => by simp at hr, fun r hr => by simp at hr⟩
        | some y => exact hb y (hy y rfl)
      | some x => cases y with
        | none => exact ha x (hx x rfl)
        | some y => exact ⟨(ha x (hx x rfl)).1, (hb y (hy y rfl)).2⟩
theorem lineage_Compose (a b : List Event) (hLa : a.length < 100000000000) (hLb : b.length < 100000000000) (ha : okE a) (hb : okE b) : Den prog 27 [.sl (a.map Event.cells), .sl (b.map Event.cells)] [] = some (.sl ((compose a b).map Event.cells), []) := by
  have hfa := lineage_isFeed a (by clear ha hb; omega) ha
  have hfb := lineage_isFeed b (by clear ha hb; omega) hb
  have hia := lineage_items a (by clear ha hb; omega)
  have hib := lineage_items b (by clear ha hb; omega)
  rw [Den_ofK [] pr_lineage_Compose rfl]
  by_cases va : feedOk none a = true
  · by_cases vb : feedOk none b = true
    · have l1 := itemsOf_len a []
      have l2 := itemsOf_len b []
      simp only [List.length_nil, Nat.zero_add] at l1 l2
      have hm := merge_II 18 [.ref 1 0] rfl rfl σC 4 (fun _ => rfl) List.length stepC2 (fun out => True) (fun _ => True) (fun _ => True)
        (fun s n x y _ hc hx hy hxy => ⟨Compose_1 s n x y hc hxy, trivial, by simp [stepC2]⟩) (itemsOf [] a) (itemsOf [] b) []
        trivial (by clear ha hb hfa hfb hia hib; simp only [List.length_nil]; omega)
        (fun x hx => ⟨trivial, (itemsOf_lt va x hx).2⟩) (fun x hx => ⟨trivial, (itemsOf_lt vb x hx).2⟩)
      change Den prog 19 _ _ = some (_, σC (composeItems (itemsOf [] a) (itemsOf [] b))) at hm
      have hlen : (composeItems (itemsOf [] a) (itemsOf [] b)).length < 1000000000000 := by
        have := mergeS_len (na := Item.n) (nb := Item.n) (step := stepC2) List.length 1 (fun s n x y => by simp [stepC2]) (itemsOf [] a) (itemsOf [] b) []
        change (composeItems (itemsOf [] a) (itemsOf [] b)).length ≤ _ at this
        clear ha hb hfa hfb hia hib hm
        simp only [List.length_nil] at this; omega
      have he := lineage_events _ hlen (fun i hi => (composeItems_ok (itemsOf_ok ha) (itemsOf_ok hb) i hi).1)
      have hf : compose a b = eventsOf (composeItems (itemsOf [] a) (itemsOf [] b)) := by rw [compose, if_pos ⟨va, vb⟩]
      simp only [σC, go_sem] at hm
      rw [hf]
      simp only [f_lineage_Compose, hfa, hfb, hia, hib, va, vb, hm, he, go_sem]
    · have vb' : feedOk none b = false := by simpa using vb
      have hf : compose a b = [] := by rw [compose, if_neg (by simp [vb])]
      rw [hf]
      simp only [f_lineage_Compose, hfa, hfb, va, vb', go_sem]
  · have va' : feedOk none a = false := by simpa using va
    have hf : compose a b = [] := by rw [compose, if_neg (by simp [va])]
    rw [hf]
    simp only [f_lineage_Compose, hfa, hfb, va', go_sem]
def Item.swap (i : Item) : Item := ⟨i.n, i.a, i.b⟩
def invert (l : List Event) : List Event := if feedOk none l = true then eventsOf ((itemsOf [] l).map Item.swap) else []
theorem lineage_Invert_l0 {β : Type} {K : Ex × Env × St → Option β} {Z : Option β} (L : List Item) (hL : L.length < 1000000000000)
    (h : K (.exit 0, [(3, .osl 0 0 L.length 0 L.length), (11, .osl 0 0 L.length 0 L.length), (12, .int .i64 L.length), (13, .int .i64 L.length), (14, .bool false)], [.arr 0 3 ((L.map Item.swap).map Item.cells)]) = Z) :
    (Run prog 0 (.loop 1 [3, 11, 12, 13] f_lineage_Invert_l0) [(3, .osl 0 0 L.length 0 L.length), (11, .osl 0 0 L.length 0 L.length), (12, .int .i64 L.length), (13, .int .i64 0)] [.arr 0 3 (L.map Item.cells)]).bind K = Z := by
  have h0 := range_ind L (by omega) (fun i (cur : List Item) => (Run prog 0 (.loop 1 [3, 11, 12, 13] f_lineage_Invert_l0) [(3, .osl 0 0 L.length 0 L.length), (11, .osl 0 0 L.length 0 L.length), (12, .int .i64 L.length), (13, .int .i64 i)] [.arr 0 3 (cur.map Item.cells)]).bind K = Z)
    (fun i rest cur => ∃ pre, i = (pre.length : Int) ∧ cur = pre ++ rest ∧ pre ++ rest.map Item.swap = L.map Item.swap) ?_ ?_ L ⟨[], by simp, by simp, by simp⟩
  · exact h0
  · intro cur ⟨pre, hi, hc, hs⟩
    simp at hs hc
    rw [← hc] at hs
    rw [Run_loop]
    simp only [f_lineage_Invert_l0_eq, f_lineage_Invert_l0u, hs, h, go_sem]
  · intro i pre0 rest x cur hp hi0 hi1 hi2 hx hc hw ⟨pre, hi, hcur, hs⟩ ih
    have hlen : L.length = pre.length + (rest.length + 1) := by
      have := congrArg List.length hp
      simp at this
      clear hw hx hc ih h hp
      omega
    subst hi
    have hk : decide ((pre.length : Int) < L.length) = true := hc
    have hk2 : (pre.length : Int) < L.length := hi2
    have hget : ∀ v, (List.map Item.cells pre ++ v :: List.map Item.cells rest)[pre.length]? = some v := by intro v; simp
    have hset : ∀ v u, (List.map Item.cells pre ++ v :: List.map Item.cells rest).set pre.length u = List.map Item.cells pre ++ u :: List.map Item.cells rest := by intro v u; simp
    have ih := ih (pre ++ x.swap :: rest) ⟨pre ++ [x.swap], by simp, by simp, by rw [← hs]; simp⟩
    subst hcur
    have hlen2 : (List.map Item.cells pre ++ Item.cells x :: List.map Item.cells rest).length = L.length := by simp; omega
    clear hp hi0 hi1 hi2 hx
    rw [hlen] at hk hk2
    simp only [Int.natCast_add, Int.cast_ofNat_Int] at hk hk2
    rw [Run_loop]
    simp only [hlen, Item.swap, go_sem] at ih
    simp only [f_lineage_Invert_l0_eq, f_lineage_Invert_l0u, hlen, hk, hk2, hget, hset, hw, ih, go_sem]
theorem lineage_Invert (a : List Event) (hLa : a.length < 100000000000) (ha : okE a) : Den prog 24 [.sl (a.map Event.cells)] [] = some (.sl ((invert a).map Event.cells), []) := by
  have hfa := lineage_isFeed a (by clear ha; omega) ha
  have hia := lineage_items a (by clear ha; omega)
  rw [Den_ofK [] pr_lineage_Invert rfl]
  by_cases va : feedOk none a = true
  · have l1 := itemsOf_len a []
    simp only [List.length_nil, Nat.zero_add] at l1
    have he := lineage_events ((itemsOf [] a).map Item.swap) (by clear ha hfa hia; simp only [List.length_map]; omega) (fun i hi => by
      simp at hi
      obtain ⟨j, hj, rfl⟩ := hi
      exact (itemsOf_ok ha j hj).2)
    have hf : invert a = eventsOf ((itemsOf [] a).map Item.swap) := by rw [invert, if_pos va]
    rw [hf]
    simp only [f_lineage_Invert, hfa, hia, va, go_sem]
    refine lineage_Invert_l0 (itemsOf [] a) (by clear ha hfa hia he; omega) ?_
    have e3 : (itemsOf [] a).length = ((itemsOf [] a).map Item.swap).length := by simp
    rw [e3]
    simp only [he, go_sem]
  · have va' : feedOk none a = false := by simpa using va
    have hf : invert a = [] := by rw [invert, if_neg (by simp [va])]
    rw [hf]
    simp only [f_lineage_Invert, hfa, va', go_sem]
end Go.Den

/-! Ch. 29: Apply, Fits. -/
namespace Go.Den
open Go
set_option linter.unusedSimpArgs false
set_option linter.unusedVariables false
set_option maxRecDepth 100000
set_option maxHeartbeats 1000000
structure Ap where
  gap : Bool
  out : List Line
  next : Int
def σA (s : Ap) : St := [.cells [.int .i64 0, .nils], .arr 0 2 (s.out.map Line.cells), .cells [.int .i64 s.next, .osl 1 0 s.out.length 0 s.out.length], .cells [.bool s.gap], .dead]
def stepA (s : Ap) (n : Int) (x : Option Line) (y : Option Item) : Ap :=
  let now := x.map Line.r
  let gap := match y with | some y => s.gap || !decide (now = y.b) | none => s.gap
  match (match y with | some y => y.a | none => now) with
  | some r => ⟨gap, s.out ++ [⟨n, r⟩], if s.next < n + 1 then n + 1 else s.next⟩
  | none => ⟨gap, s.out, s.next⟩
theorem Apply_1 (s : Ap) (n : Int) (x : Option Line) (y : Option Item) (h : s.out.length < 1000000000000) (hn : 0 ≤ n) (hn2 : n < 4611686018427387904) (hx : lenB (x.map Line.r)) :
    Den prog 8 (.int .i64 n :: lineP x :: itemP y :: [.ref 3 0, .ref 2 0]) (σA s) = some (.tup [], σA (stepA s n x y)) := by
  have hb : (s.out.length + 1) * 32 ≤ 140737488355328 := mul32 (by clear hx; omega)
  have hw : IntKind.wrap .i64 (n + 1) = n + 1 := wrap_i64 (by omega) (by omega)
  rw [Den_ofK (σA s) pr_lineage_Apply_1 rfl]
  obtain ⟨gap, out, next⟩ := s
  simp only [] at hb
  cases y with
  | none =>
    cases x with
    | none => simp only [f_lineage_Apply_1, σA, stepA, hb, hw, finV, oneOf, Option.isNone_none, Option.isNone_some, go_sem]
    | some x => simp only [f_lineage_Apply_1, σA, stepA, hb, hw, finV, oneOf, Option.isNone_none, Option.isNone_some, go_sem]
  | some y =>
    obtain ⟨m, b, a⟩ := y
    have hsame := lineage_same (x.map Line.r) b hx
    cases x with
    | none =>
      simp only [go_sem] at hsame
      cases gap <;> cases a <;> simp only [f_lineage_Apply_1, σA, stepA, hb, hw, hsame, finV, oneOf, Option.isNone_none, Option.isNone_some, go_sem]
    | some x =>
      simp only [go_sem] at hsame
      cases gap <;> cases a <;> simp only [f_lineage_Apply_1, σA, stepA, hb, hw, hsame, finV, oneOf, Option.isNone_none, Option.isNone_some, go_sem]
def applyS (t : Table) (l : List Item) : Ap := mergeS Line.n Item.n stepA ⟨false, [], t.next⟩ t.l l
def apply (t : Table) (l : List Event) : Table × Int :=
  if valid t = false then (⟨0, []⟩, 1) else if feedOk none l = false then (⟨0, []⟩, 5) else
  let s := applyS t (itemsOf [] l)
  if s.gap = true then (⟨0, []⟩, 300) else if 4096 < s.out.length then (⟨0, []⟩, 2) else (⟨s.next, s.out⟩, 0)
theorem stepA_len (s : Ap) (n : Int) (x : Option Line) (y : Option Item) : (stepA s n x y).out.length ≤ s.out.length + 1 := by
  unfold stepA
  simp only []
  split <;> simp
theorem lineage_Apply (t : Table) (l : List Event) (hLt : t.l.length < 1000000000000000) (hLl : l.length < 100000000000) (ht : okL t.l) (hl : okE l) :
    Den prog 17 [.agg [.int .i64 t.next, .sl (t.l.map Line.cells)], .sl (l.map Event.cells)] [] = some (.tup [.agg [.int .i64 (apply t l).1.next, .sl ((apply t l).1.l.map Line.cells)], .int .i64 (apply t l).2], []) := by
  have hfa := lineage_isFeed l (by clear ht hl; omega) hl
  have hia := lineage_items l (by clear ht hl; omega)
  rw [Den_ofK [] pr_lineage_Apply rfl]
  cases va : valid t with
  | false =>
    have hf : apply t l = (⟨0, []⟩, 1) := by rw [apply, if_pos va]
    rw [hf]
    simp only [f_lineage_Apply, hLt, va, go_sem]
  | true =>
    cases vb : feedOk none l with
    | false =>
      have hf : apply t l = (⟨0, []⟩, 5) := by rw [apply, if_neg (by simp [va]), if_pos vb]
      rw [hf]
      simp only [f_lineage_Apply, hLt, hfa, va, vb, go_sem]
    | true =>
      have l1 := itemsOf_len l []
      simp only [List.length_nil, Nat.zero_add] at l1
      obtain ⟨_, v2, v3⟩ := valid_all va
      have hm := merge_LI 8 [.ref 3 0, .ref 2 0] rfl rfl σA 5 (fun _ => rfl) (fun s => s.out.length) stepA (fun _ => True) (fun l => l.r.length < 1000000000000000 ∧ 0 ≤ l.n ∧ l.n < 4611686018427387904) (fun i => 0 ≤ i.n ∧ i.n < 4611686018427387904)
        (fun s n x y _ hc hx hy hxy => ⟨Apply_1 s n x y hc (by
            cases x with
            | none => cases y with
              | none => exact (hxy rfl rfl).elim
              | some y => obtain ⟨h1, h2⟩ := hy y rfl; omega
            | some x => obtain ⟨h1, h2⟩ := hx x rfl; omega) (by
            cases x with
            | none => cases y with
              | none => exact (hxy rfl rfl).elim
              | some y => obtain ⟨h1, h2⟩ := hy y rfl; omega
            | some x => obtain ⟨h1, h2⟩ := hx x rfl; omega) (by
            intro r hr
            cases x with
            | none => simp at hr
            | some x => simp at hr; subst hr; exact (hx x rfl).1.1), trivial, stepA_len s n x y⟩) t.l (itemsOf [] l) ⟨false, [], t.next⟩
        trivial (by clear ht hl hfa hia; simp only [List.length_nil]; omega)
        (fun x hx => ⟨⟨ht x hx, v3 x hx⟩, (v3 x hx).2⟩) (fun x hx => ⟨itemsOf_lt vb x hx, (itemsOf_lt vb x hx).2⟩)
      change Den prog 9 _ _ = some (_, σA (applyS t (itemsOf [] l))) at hm
      have hf : apply t l = (let s := applyS t (itemsOf [] l)
          if s.gap = true then (⟨0, []⟩, 300) else if 4096 < s.out.length then (⟨0, []⟩, 2) else (⟨s.next, s.out⟩, 0)) := by rw [apply, if_neg (by simp [va]), if_neg (by simp [vb])]
      rw [hf]
      generalize applyS t (itemsOf [] l) = s at *
      obtain ⟨gap, out, next⟩ := s
      simp only [σA, go_sem] at hm
      simp only []
      cases gap with
      | true => simp only [f_lineage_Apply, hLt, hfa, hia, va, vb, hm, go_sem]
      | false =>
        by_cases hbig : 4096 < out.length
        · have hd : decide ((4096 : Int) < out.length) = true := by rw [decide_eq_true_eq]; clear hm; omega
          simp only [f_lineage_Apply, hLt, hfa, hia, va, vb, hm, hd, hbig, Bool.false_eq_true, go_sem]
        · have hd : decide ((4096 : Int) < out.length) = false := by rw [decide_eq_false_iff_not]; clear hm; omega
          simp only [f_lineage_Apply, hLt, hfa, hia, va, vb, hm, hd, hbig, Bool.false_eq_true, go_sem]
theorem lineage_Fits (t : Table) (l : List Event) (hLt : t.l.length < 1000000000000000) (hLl : l.length < 100000000000) (ht : okL t.l) (hl : okE l) :
    Den prog 28 [.agg [.int .i64 t.next, .sl (t.l.map Line.cells)], .sl (l.map Event.cells)] [] = some (.bool (decide ((apply t l).2 = 0)), []) := by
  have h := lineage_Apply t l hLt hLl ht hl
  rw [Den_ofK [] pr_lineage_Fits rfl]
  simp only [f_lineage_Fits, h, go_sem]
end Go.Den

/-! Ch. 29: the reference's states, items, feeds. -/
namespace Go.Den
open Go
set_option linter.unusedSimpArgs false
set_option linter.unusedVariables false
set_option maxRecDepth 100000
set_option maxHeartbeats 1000000
def rowOf : Option (List Cell) → List Cell
  | none => []
  | some r => r
theorem rowOf_none : rowOf none = [] := (rfl)
theorem rowOf_some (r : List Cell) : rowOf (some r) = r := (rfl)
attribute [go_sem] rowOf_none rowOf_some Option.isSome_some Option.isSome_none Option.isNone_some Option.isNone_none
def Item.cellsR (i : Item) : List AV := [.int .i64 i.n, .bool i.b.isSome, .sl ((rowOf i.b).map Cell.cells), .bool i.a.isSome, .sl ((rowOf i.a).map Cell.cells)]
attribute [go_sem] Item.cellsR
theorem R29_Items_l0 {β : Type} {K : Ex × Env × St → Option β} {Z : Option β} (L : List Event) (hL : L.length < 100000000000)
    (h : K (.exit 0, [(0, .sl (L.map Event.cells)), (3, .osl 0 0 (itemsOf [] L).length 0 (itemsOf [] L).length), (4, .int .i64 L.length), (10, .bool false)], [.arr 0 5 ((itemsOf [] L).map Item.cellsR)]) = Z) :
    (Run prog 0 (.loop 1 [0, 3, 4] f_R29_Items_l0) [(0, .sl (L.map Event.cells)), (3, .osl 0 0 0 0 0), (4, .int .i64 0)] [.arr 0 5 []]).bind K = Z := by
  have h0 := range_ind L (by omega) (fun i (out : List Item) => (Run prog 0 (.loop 1 [0, 3, 4] f_R29_Items_l0) [(0, .sl (L.map Event.cells)), (3, .osl 0 0 out.length 0 out.length), (4, .int .i64 i)] [.arr 0 5 (out.map Item.cellsR)]).bind K = Z)
    (fun i rest out => (out.length : Int) ≤ i ∧ itemsOf out rest = itemsOf [] L) ?_ ?_ [] ⟨by simp, rfl⟩
  · exact h0
  · intro out ⟨_, hg⟩
    rw [itemsOf] at hg
    rw [Run_loop]
    simp only [f_R29_Items_l0_eq, f_R29_Items_l0u, hg, h, go_sem]
  · intro i pre rest x out hp hi0 hi1 hi2 hx hc hw ⟨hn, hg⟩ ih
    have ih := ih (addEv out x) ⟨by have := addEv_len out x; clear hw hc hx hg hp h; omega, by rw [← hg, itemsOf]⟩
    have hq : out.length < 100000000000 := by clear hw hc hx hg hp h ih; omega
    clear hg hp h hi0 hi1 hi2 hn
    have hwm : IntKind.wrap .i64 (-1) = -1 := rfl
    have hwz : IntKind.wrap .i64 0 = 0 := rfl
    rw [Run_loop]
    rcases List.eq_nil_or_concat out with h0 | ⟨o, y, h0⟩
    · subst h0
      by_cases hk : x.kind = 2
      · have hkd : decide (x.kind = 2) = true := by simpa using hk
        simp only [addEv, List.getLast?_nil, Item.upd, hk, go_sem] at ih
        simp only [f_R29_Items_l0_eq, f_R29_Items_l0u, hw, hx, hc, hwm, hwz, hkd, ih, Int.reduceSub, go_sem]
      · have hkd : decide (x.kind = 2) = false := by simpa using hk
        simp only [addEv, List.getLast?_nil, Item.upd, hk, go_sem] at ih
        simp only [f_R29_Items_l0_eq, f_R29_Items_l0u, hw, hx, hc, hwm, hwz, hkd, ih, Int.reduceSub, go_sem]
    · rw [List.concat_eq_append] at h0
      have hol : out.length = o.length + 1 := by simp [h0]
      have hi1 : (o.length : Int) < out.length := by omega
      have hlast : out.getLast? = some y := by simp [h0]
      have hw1 : IntKind.wrap .i64 ((out.length : Int) - 1) = o.length := by rw [wrap_i64 (by omega) (by omega)]; omega
      have hw2 : IntKind.wrap .i64 ((o.length : Int) + 1) = out.length := by rw [wrap_i64 (by omega) (by omega)]; omega
      have hz : decide ((o.length : Int) < 0) = false := by rw [decide_eq_false_iff_not]; omega
      have hget : (out.map Item.cellsR)[o.length]? = some [.int .i64 y.n, .bool y.b.isSome, .sl ((rowOf y.b).map Cell.cells), .bool y.a.isSome, .sl ((rowOf y.a).map Cell.cells)] := by simp [h0, Item.cellsR]
      by_cases hn : y.n = x.l.n
      · have hnd : decide (y.n = x.l.n) = true := by simpa using hn
        have hset : ∀ v : List AV, (out.map Item.cellsR).set o.length v = o.map Item.cellsR ++ [v] := by intro v; simp [h0]
        have hdl : out.dropLast = o := by simp [h0]
        clear h0
        by_cases hk : x.kind = 2
        · have hkd : decide (x.kind = 2) = true := by simpa using hk
          simp only [addEv, hlast, hn, hdl, Item.upd, hk, ← hol, go_sem] at ih
          simp only [f_R29_Items_l0_eq, f_R29_Items_l0u, hw, hx, hc, hw1, hz, hi1, hget, hset, hnd, hkd, hn, ih, go_sem]
        · have hkd : decide (x.kind = 2) = false := by simpa using hk
          simp only [addEv, hlast, hn, hdl, Item.upd, hk, ← hol, go_sem] at ih
          simp only [f_R29_Items_l0_eq, f_R29_Items_l0u, hw, hx, hc, hw1, hz, hi1, hget, hset, hnd, hkd, hn, ih, go_sem]
      · have hnd : decide (y.n = x.l.n) = false := by simpa using hn
        have hi2 : (out.length : Int) < out.length + 1 := by omega
        have hb : (out.length + 1) * 72 ≤ 140737488355328 := by clear hw hx ih hget; omega
        clear h0 hol
        by_cases hk : x.kind = 2
        · have hkd : decide (x.kind = 2) = true := by simpa using hk
          simp only [addEv, hlast, hn, Item.upd, hk, go_sem] at ih
          simp only [f_R29_Items_l0_eq, f_R29_Items_l0u, hw, hx, hc, hw1, hw2, hz, hi1, hi2, hget, hnd, hb, hkd, ih, go_sem]
        · have hkd : decide (x.kind = 2) = false := by simpa using hk
          simp only [addEv, hlast, hn, Item.upd, hk, go_sem] at ih
          simp only [f_R29_Items_l0_eq, f_R29_Items_l0u, hw, hx, hc, hw1, hw2, hz, hi1, hi2, hget, hnd, hb, hkd, ih, go_sem]
theorem R29_Items (L : List Event) (hL : L.length < 100000000000) : Den prog 31 [.sl (L.map Event.cells)] [] = some (.sl ((itemsOf [] L).map Item.cellsR), []) := by
  rw [Den_ofK [] pr_R29_Items rfl]
  simp only [f_R29_Items, go_sem]
  refine R29_Items_l0 L hL ?_
  simp only [go_sem]
def atS (n : Int) : List Line → Option (List Cell)
  | [] => none
  | x :: _ => if x.n = n then some x.r else none
def atR (n : Int) : List Line → List Line
  | [] => []
  | x :: r => if x.n = n then r else x :: r
theorem R29_at (n : Int) (L : List Line) : Den prog 32 [.sl (L.map Line.cells), .int .i64 n] [] = some (.tup [.agg [.bool (atS n L).isSome, .sl ((rowOf (atS n L)).map Cell.cells)], .sl ((atR n L).map Line.cells)], []) := by
  rw [Den_ofK [] pr_R29_at rfl]
  have hz : decide ((0 : Int) < 0) = false := rfl
  cases L with
  | nil => simp only [f_R29_at, hz, atS, atR, Int.natCast_zero, go_sem]
  | cons x r =>
    have hp : decide ((0 : Int) < (r.length : Int) + 1) = true := by rw [decide_eq_true_eq]; omega
    by_cases h : x.n = n
    · have hd : decide (x.n = n) = true := by simpa using h
      simp only [f_R29_at, hp, hd, h, atS, atR, go_sem]
    · have hd : decide (x.n = n) = false := by simpa using h
      simp only [f_R29_at, hp, hd, h, atS, atR, go_sem]
theorem R29_same (x y : Option (List Cell)) (hx : lenB x) : Den prog 33 [.agg [.bool x.isSome, .sl ((rowOf x).map Cell.cells)], .agg [.bool y.isSome, .sl ((rowOf y).map Cell.cells)]] [] = some (.bool (decide (x = y)), []) := by
  rw [Den_ofK [] pr_R29_same rfl]
  cases x with
  | none => cases y <;> simp only [f_R29_same, reduceCtorEq, BEq.rfl, (by decide : (false == true) = false), go_sem]
  | some r =>
    have := hx r rfl
    cases y with
    | none => simp only [f_R29_same, reduceCtorEq, (by decide : (true == false) = false), go_sem]
    | some s => simp only [f_R29_same, this, Option.some.injEq, BEq.rfl, go_sem]
theorem R29_change (n : Int) (x y : Option (List Cell)) (hx : lenB x) : Den prog 34 [.int .i64 n, .agg [.bool x.isSome, .sl ((rowOf x).map Cell.cells)], .agg [.bool y.isSome, .sl ((rowOf y).map Cell.cells)]] [] = some (.sl ((chg n x y).map Event.cells), []) := by
  have hs := R29_same x y hx
  rw [Den_ofK [] pr_R29_change rfl]
  cases x with
  | none => cases y <;> (simp only [reduceCtorEq, go_sem] at hs; simp only [f_R29_change, hs, chg, reduceCtorEq, Nat.reduceLeDiff, go_sem])
  | some r => cases y with
    | none => simp only [reduceCtorEq, go_sem] at hs; simp only [f_R29_change, hs, chg, reduceCtorEq, Nat.reduceLeDiff, go_sem]
    | some s =>
      by_cases h : r = s
      · simp only [h, go_sem] at hs
        simp only [f_R29_change, hs, chg, h, go_sem]
      · have hd : decide (some r = some s) = false := by simp [h]
        simp only [hd, go_sem] at hs
        simp only [f_R29_change, hs, chg, h, Option.some.injEq, Nat.reduceLeDiff, go_sem]
end Go.Den

/-! Ch. 29: the reference's Feed, Compose, Invert. -/
namespace Go.Den
open Go
set_option linter.unusedSimpArgs false
set_option linter.unusedVariables false
set_option maxRecDepth 100000
set_option maxHeartbeats 1000000
def stepF (out : List Event) (n : Int) (x y : Option Line) : List Event := out ++ chg n (x.map Line.r) (y.map Line.r)
def feedR (a b : List Line) : List Event := mergeS Line.n Line.n stepF [] a b
theorem R29_Feed_l0 {β : Type} {K : Ex × Env × St → Option β} {Z : Option β} : ∀ (k : Nat) (a b : List Line) (out : List Event), a.length + b.length ≤ k → out.length + 2 * k < 100000000000 → okL a → (∀ x ∈ b, x.n < 4611686018427387904) →
      K (.exit 0, [(5, .osl 0 0 (mergeS Line.n Line.n stepF out a b).length 0 (mergeS Line.n Line.n stepF out a b).length), (6, .sl []), (7, .sl []), (32, .bool false)], [.arr 0 3 ((mergeS Line.n Line.n stepF out a b).map Event.cells)]) = Z →
      (Run prog 0 (.loop 1 [5, 6, 7] f_R29_Feed_l0) [(5, .osl 0 0 out.length 0 out.length), (6, .sl (a.map Line.cells)), (7, .sl (b.map Line.cells))] [.arr 0 3 (out.map Event.cells)]).bind K = Z
  | 0, a, b, out, hk, hc, ha, hb, h => by
    have ha0 : a = [] := by cases a with
      | nil => rfl
      | cons => simp at hk
    have hb0 : b = [] := by cases b with
      | nil => rfl
      | cons => simp at hk
    subst ha0; subst hb0
    rw [mergeS] at h
    have hz : decide ((0 : Int) < 0) = false := rfl
    rw [Run_loop]
    simp only [f_R29_Feed_l0_eq, f_R29_Feed_l0u, hz, Int.natCast_zero, h, go_sem]
  | k + 1, a, b, out, hk, hc, ha, hb, h => by
    have IH := R29_Feed_l0 (K := K) (Z := Z) k
    have hz : decide ((0 : Int) < 0) = false := rfl
    have hp : ∀ q : Nat, decide ((0 : Int) < (q : Int) + 1) = true := by intro q; rw [decide_eq_true_eq]; omega
    have hbb : ∀ n x y, (out.length + (chg n x y).length) * 40 ≤ 140737488355328 := by
      intro n x y
      have := chg_len n x y
      exact mul40 (by clear IH h; omega)
    have hlen : ∀ n x y, (stepF out n x y).length ≤ out.length + 2 := by
      intro n x y
      have := chg_len n (x.map Line.r) (y.map Line.r)
      simp only [stepF, List.length_append]; omega
    cases a with
    | nil => cases b with
      | nil =>
        rw [mergeS] at h
        rw [Run_loop]
        simp only [f_R29_Feed_l0_eq, f_R29_Feed_l0u, hz, Int.natCast_zero, h, go_sem]
      | cons y b =>
        have hy2 := hb y (by simp)
        have ih := IH [] b (stepF out y.n none (some y)) (by simp at hk ⊢; omega) (by have := hlen y.n none (some y); omega) (by simp [okL]) (fun z hz => hb z (by simp [hz])) (by rw [mergeS] at h; exact h)
        have h1 := R29_at y.n []
        have h2 := R29_at y.n (y :: b)
        have h3 := R29_change y.n none (some y.r) (by intro r hr; simp at hr)
        simp only [atS, atR, stepF, Option.map_none, Option.map_some, go_sem] at h1 h2 h3 ih
        clear IH h hlen
        rw [Run_loop]
        simp only [f_R29_Feed_l0_eq, f_R29_Feed_l0u, hz, hp, hy2, h1, h2, h3, hbb, ih, Int.natCast_zero, go_sem]
    | cons x a =>
      have hx : lenB (some x.r) := by intro r hr; simp at hr; subst hr; exact ha x (by simp)
      have ha' : okL a := fun z hz => ha z (by simp [hz])
      cases b with
      | nil =>
        have ih := IH a [] (stepF out x.n (some x) none) (by simp at hk ⊢; omega) (by have := hlen x.n (some x) none; omega) ha' (by simp) (by rw [mergeS] at h; exact h)
        have h1 := R29_at x.n (x :: a)
        have h2 := R29_at x.n []
        have h3 := R29_change x.n (some x.r) none hx
        simp only [atS, atR, stepF, Option.map_none, Option.map_some, go_sem] at h1 h2 h3 ih
        clear IH h hlen
        rw [Run_loop]
        simp only [f_R29_Feed_l0_eq, f_R29_Feed_l0u, hz, hp, h1, h2, h3, hbb, ih, Int.natCast_zero, go_sem]
      | cons y b =>
        by_cases c1 : x.n < y.n
        · have ih := IH a (y :: b) (stepF out x.n (some x) none) (by simp at hk ⊢; omega) (by have := hlen x.n (some x) none; omega) ha' hb (by rw [mergeS, if_pos c1] at h; exact h)
          have h1 := R29_at x.n (x :: a)
          have h2 := R29_at x.n (y :: b)
          have h3 := R29_change x.n (some x.r) none hx
          have c2 : (y.n < x.n) = False := by simp; omega
          have c3 : (y.n = x.n) = False := by simp; omega
          simp only [atS, atR, stepF, c3, Option.map_none, Option.map_some, go_sem] at h1 h2 h3 ih
          clear IH h hlen
          rw [Run_loop]
          simp only [f_R29_Feed_l0_eq, f_R29_Feed_l0u, hz, hp, c2, h1, h2, h3, hbb, ih, Int.natCast_zero, go_sem]
        · by_cases c2 : y.n < x.n
          · have ih := IH (x :: a) b (stepF out y.n none (some y)) (by simp at hk ⊢; omega) (by have := hlen y.n none (some y); omega) ha (fun z hz => hb z (by simp [hz])) (by rw [mergeS, if_neg c1, if_pos c2] at h; exact h)
            have h1 := R29_at y.n (x :: a)
            have h2 := R29_at y.n (y :: b)
            have h3 := R29_change y.n none (some y.r) (by intro r hr; simp at hr)
            have c3 : (x.n = y.n) = False := by simp; omega
            simp only [atS, atR, stepF, c3, Option.map_none, Option.map_some, go_sem] at h1 h2 h3 ih
            clear IH h hlen
            rw [Run_loop]
            simp only [f_R29_Feed_l0_eq, f_R29_Feed_l0u, hz, hp, c2, h1, h2, h3, hbb, ih, Int.natCast_zero, go_sem]
          · have c3 : x.n = y.n := by omega
            have ih := IH a b (stepF out x.n (some x) (some y)) (by simp at hk ⊢; omega) (by have := hlen x.n (some x) (some y); omega) ha' (fun z hz => hb z (by simp [hz])) (by rw [mergeS, if_neg c1, if_neg c2] at h; exact h)
            have h1 := R29_at y.n (x :: a)
            have h2 := R29_at y.n (y :: b)
            have h3 := R29_change y.n (some x.r) (some y.r) hx
            have c4 : (y.n < y.n) = False := by simp
            simp only [atS, atR, stepF, c3, Option.map_none, Option.map_some, go_sem] at h1 h2 h3 ih
            clear IH h hlen
            rw [Run_loop]
            simp only [f_R29_Feed_l0_eq, f_R29_Feed_l0u, hz, hp, c3, c4, h1, h2, h3, hbb, ih, Int.natCast_zero, go_sem]
theorem R29_Feed (a b : Table) (hLa : a.l.length < 1000000000000000) (hLb : b.l.length < 1000000000000000) (ha : okL a.l) (hb : okL b.l) : Den prog 39 [.agg [.int .i64 a.next, .sl (a.l.map Line.cells)], .agg [.int .i64 b.next, .sl (b.l.map Line.cells)]] [] = some (.sl ((if valid a = true ∧ valid b = true then feedR a.l b.l else []).map Event.cells), []) := by
  have hva := R29_Valid a hLa
  have hvb := R29_Valid b hLb
  simp only [go_sem] at hva hvb
  rw [Den_ofK [] pr_R29_Feed rfl]
  cases va : valid a with
  | true => cases vb : valid b with
    | true =>
      have hf : (if true = true ∧ true = true then feedR a.l b.l else []) = feedR a.l b.l := rfl
      rw [hf]
      simp only [f_R29_Feed, hva, hvb, va, vb, go_sem]
      refine R29_Feed_l0 _ a.l b.l [] (Nat.le_refl _) (by obtain ⟨_, h1, _⟩ := valid_all va; obtain ⟨_, h2, _⟩ := valid_all vb; clear ha hb hva hvb; simp only [List.length_nil]; omega) ha (fun x hx => ((valid_all vb).2.2 x hx).2) ?_
      simp only [feedR, go_sem]
    | false => simp only [f_R29_Feed, hva, hvb, va, vb, Bool.false_eq_true, and_false, go_sem]
  | false => simp only [f_R29_Feed, hva, hvb, va, Bool.false_eq_true, false_and, go_sem]

def stepFC (out : List Event) (n : Int) (x y : Option Item) : List Event := out ++ (match x, y with
  | none, none => []
  | some x, none => chg x.n x.b x.a
  | none, some y => chg y.n y.b y.a
  | some x, some y => chg x.n x.b y.a)
def composeR (a b : List Item) : List Event := mergeS Item.n Item.n stepFC [] a b
theorem R29_Compose_l0 {β : Type} {K : Ex × Env × St → Option β} {Z : Option β} : ∀ (k : Nat) (a b : List Item) (out : List Event), a.length + b.length ≤ k → out.length + 2 * k < 500000000000 → (∀ i ∈ a, okI i) → (∀ i ∈ b, okI i) →
      K (.exit 0, [(5, .osl 0 0 (mergeS Item.n Item.n stepFC out a b).length 0 (mergeS Item.n Item.n stepFC out a b).length), (6, .sl []), (7, .sl []), (29, .bool false)], [.arr 0 3 ((mergeS Item.n Item.n stepFC out a b).map Event.cells)]) = Z →
      (Run prog 0 (.loop 1 [5, 6, 7] f_R29_Compose_l0) [(5, .osl 0 0 out.length 0 out.length), (6, .sl (a.map Item.cellsR)), (7, .sl (b.map Item.cellsR))] [.arr 0 3 (out.map Event.cells)]).bind K = Z
  | 0, a, b, out, hk, hc, ha, hb, h => by
    have ha0 : a = [] := by cases a with
      | nil => rfl
      | cons => simp at hk
    have hb0 : b = [] := by cases b with
      | nil => rfl
      | cons => simp at hk
    subst ha0; subst hb0
    rw [mergeS] at h
    have hz : decide ((0 : Int) < 0) = false := rfl
    rw [Run_loop]
    simp only [f_R29_Compose_l0_eq, f_R29_Compose_l0u, hz, Int.natCast_zero, h, go_sem]
  | k + 1, a, b, out, hk, hc, ha, hb, h => by
    have IH := R29_Compose_l0 (K := K) (Z := Z) k
    have hz : decide ((0 : Int) < 0) = false := rfl
    have hp : ∀ q : Nat, decide ((0 : Int) < (q : Int) + 1) = true := by intro q; rw [decide_eq_true_eq]; omega
    have he0 : decide ((0 : Int) = 0) = true := rfl
    have he : ∀ q : Nat, decide ((q : Int) + 1 = 0) = false := by intro q; rw [decide_eq_false_iff_not]; omega
    have hbb : ∀ n x y, (out.length + (chg n x y).length) * 40 ≤ 140737488355328 := by
      intro n x y
      have := chg_len n x y
      exact mul40 (by clear IH h; omega)
    have hlen : ∀ n x y, (stepFC out n x y).length ≤ out.length + 2 := by
      intro n x y
      simp only [stepFC, List.length_append]
      cases x <;> cases y <;> simp only [] <;> first | (have := chg_len; simp; done) | (rename_i u; have := chg_len u.n u.b u.a; omega) | (rename_i u v; have := chg_len u.n u.b v.a; omega)
    cases a with
    | nil => cases b with
      | nil =>
        rw [mergeS] at h
        rw [Run_loop]
        simp only [f_R29_Compose_l0_eq, f_R29_Compose_l0u, hz, he0, Int.natCast_zero, h, go_sem]
      | cons y b =>
        have hy := hb y (by simp)
        have ih := IH [] b (stepFC out y.n none (some y)) (by simp at hk ⊢; omega) (by have := hlen y.n none (some y); omega) (by simp) (fun z hz => hb z (by simp [hz])) (by rw [mergeS] at h; exact h)
        have h3 := R29_change y.n y.b y.a hy.1
        simp only [stepFC, go_sem] at ih
        clear IH h hlen
        rw [Run_loop]
        simp only [f_R29_Compose_l0_eq, f_R29_Compose_l0u, hz, hp, he0, he, h3, hbb, ih, Int.natCast_zero, go_sem]
    | cons x a =>
      have hx := ha x (by simp)
      have ha' : ∀ i ∈ a, okI i := fun z hz => ha z (by simp [hz])
      cases b with
      | nil =>
        have ih := IH a [] (stepFC out x.n (some x) none) (by simp at hk ⊢; omega) (by have := hlen x.n (some x) none; omega) ha' (by simp) (by rw [mergeS] at h; exact h)
        have h3 := R29_change x.n x.b x.a hx.1
        simp only [stepFC, go_sem] at ih
        clear IH h hlen
        rw [Run_loop]
        simp only [f_R29_Compose_l0_eq, f_R29_Compose_l0u, hz, hp, he0, he, h3, hbb, ih, Int.natCast_zero, go_sem]
      | cons y b =>
        have hy := hb y (by simp)
        by_cases c1 : x.n < y.n
        · have ih := IH a (y :: b) (stepFC out x.n (some x) none) (by simp at hk ⊢; omega) (by have := hlen x.n (some x) none; omega) ha' hb (by rw [mergeS, if_pos c1] at h; exact h)
          have h3 := R29_change x.n x.b x.a hx.1
          have d1 : decide (x.n < y.n) = true := by simpa using c1
          simp only [stepFC, go_sem] at ih
          clear IH h hlen
          rw [Run_loop]
          simp only [f_R29_Compose_l0_eq, f_R29_Compose_l0u, hz, hp, he0, he, d1, h3, hbb, ih, Int.natCast_zero, go_sem]
        · have d1 : decide (x.n < y.n) = false := by simpa using c1
          by_cases c2 : y.n < x.n
          · have ih := IH (x :: a) b (stepFC out y.n none (some y)) (by simp at hk ⊢; omega) (by have := hlen y.n none (some y); omega) ha (fun z hz => hb z (by simp [hz])) (by rw [mergeS, if_neg c1, if_pos c2] at h; exact h)
            have h3 := R29_change y.n y.b y.a hy.1
            have d2 : decide (y.n < x.n) = true := by simpa using c2
            simp only [stepFC, go_sem] at ih
            clear IH h hlen
            rw [Run_loop]
            simp only [f_R29_Compose_l0_eq, f_R29_Compose_l0u, hz, hp, he0, he, d1, d2, h3, hbb, ih, Int.natCast_zero, go_sem]
          · have d2 : decide (y.n < x.n) = false := by simpa using c2
            have ih := IH a b (stepFC out x.n (some x) (some y)) (by simp at hk ⊢; omega) (by have := hlen x.n (some x) (some y); omega) ha' (fun z hz => hb z (by simp [hz])) (by rw [mergeS, if_neg c1, if_neg c2] at h; exact h)
            have h3 := R29_change x.n x.b y.a hx.1
            simp only [stepFC, go_sem] at ih
            clear IH h hlen
            rw [Run_loop]
            simp only [f_R29_Compose_l0_eq, f_R29_Compose_l0u, hz, hp, he0, he, d1, d2, h3, hbb, ih, Int.natCast_zero, go_sem]
theorem R29_Compose (a b : List Event) (hLa : a.length < 100000000000) (hLb : b.length < 100000000000) (ha : okE a) (hb : okE b) : Den prog 41 [.sl (a.map Event.cells), .sl (b.map Event.cells)] [] = some (.sl ((if feedOk none a = true ∧ feedOk none b = true then composeR (itemsOf [] a) (itemsOf [] b) else []).map Event.cells), []) := by
  have hva := R29_IsFeed a (by clear ha hb; omega) ha
  have hvb := R29_IsFeed b (by clear ha hb; omega) hb
  have hia := R29_Items a hLa
  have hib := R29_Items b hLb
  rw [Den_ofK [] pr_R29_Compose rfl]
  cases va : feedOk none a with
  | true => cases vb : feedOk none b with
    | true =>
      have hf : (if true = true ∧ true = true then composeR (itemsOf [] a) (itemsOf [] b) else []) = composeR (itemsOf [] a) (itemsOf [] b) := rfl
      rw [hf]
      have l1 := itemsOf_len a []
      have l2 := itemsOf_len b []
      simp only [List.length_nil, Nat.zero_add] at l1 l2
      simp only [f_R29_Compose, hva, hvb, hia, hib, va, vb, go_sem]
      refine R29_Compose_l0 _ _ _ [] (Nat.le_refl _) (by clear ha hb hva hvb hia hib; simp only [List.length_nil]; omega) (itemsOf_ok ha) (itemsOf_ok hb) ?_
      simp only [composeR, go_sem]
    | false => simp only [f_R29_Compose, hva, hvb, va, vb, Bool.false_eq_true, and_false, go_sem]
  | false => simp only [f_R29_Compose, hva, hvb, va, Bool.false_eq_true, false_and, go_sem]
def invR : List Item → List Event
  | [] => []
  | i :: r => chg i.n i.a i.b ++ invR r
theorem R29_Invert_l0 {β : Type} {K : Ex × Env × St → Option β} {Z : Option β} (L : List Item) (hL : L.length < 100000000000) (hB : ∀ i ∈ L, okI i)
    (h : K (.exit 0, [(3, .osl 0 0 (invR L).length 0 (invR L).length), (4, .sl (L.map Item.cellsR)), (5, .int .i64 L.length), (16, .bool false)], [.arr 0 3 ((invR L).map Event.cells)]) = Z) :
    (Run prog 0 (.loop 1 [3, 4, 5] f_R29_Invert_l0) [(3, .osl 0 0 0 0 0), (4, .sl (L.map Item.cellsR)), (5, .int .i64 0)] [.arr 0 3 []]).bind K = Z := by
  have h0 := range_ind L (by omega) (fun i (out : List Event) => (Run prog 0 (.loop 1 [3, 4, 5] f_R29_Invert_l0) [(3, .osl 0 0 out.length 0 out.length), (4, .sl (L.map Item.cellsR)), (5, .int .i64 i)] [.arr 0 3 (out.map Event.cells)]).bind K = Z)
    (fun i rest out => (out.length : Int) ≤ 2 * i ∧ out ++ invR rest = invR L) ?_ ?_ [] ⟨by simp, rfl⟩
  · exact h0
  · intro out ⟨_, hg⟩
    rw [invR, List.append_nil] at hg
    rw [Run_loop]
    simp only [f_R29_Invert_l0_eq, f_R29_Invert_l0u, hg, h, go_sem]
  · intro i pre rest x out hp hi0 hi1 hi2 hx hc hw ⟨hn, hg⟩ ih
    have hxb := hB x (by rw [hp]; simp)
    have hl := chg_len x.n x.a x.b
    have ih := ih (out ++ chg x.n x.a x.b) ⟨by clear hw hc hx hg hp h; rw [List.length_append]; omega, by rw [← hg, invR, List.append_assoc]⟩
    have h3 := R29_change x.n x.a x.b hxb.2
    have hb : (out.length + (chg x.n x.a x.b).length) * 40 ≤ 140737488355328 := mul40 (by clear hw hc hx hg hp h ih h3 hB; omega)
    simp only [go_sem] at ih
    rw [Run_loop]
    simp only [f_R29_Invert_l0_eq, f_R29_Invert_l0u, hx, hc, hw, h3, hb, ih, go_sem]
theorem R29_Invert (a : List Event) (hLa : a.length < 100000000000) (ha : okE a) : Den prog 42 [.sl (a.map Event.cells)] [] = some (.sl ((if feedOk none a = true then invR (itemsOf [] a) else []).map Event.cells), []) := by
  have hva := R29_IsFeed a (by clear ha; omega) ha
  have hia := R29_Items a hLa
  rw [Den_ofK [] pr_R29_Invert rfl]
  cases va : feedOk none a with
  | true =>
    have hf : (if true = true then invR (itemsOf [] a) else []) = invR (itemsOf [] a) := rfl
    rw [hf]
    have l1 := itemsOf_len a []
    simp only [List.length_nil, Nat.zero_add] at l1
    simp only [f_R29_Invert, hva, hia, va, go_sem]
    refine R29_Invert_l0 (itemsOf [] a) (by clear ha hva hia; omega) (itemsOf_ok ha) ?_
    simp only [go_sem]
  | false => simp only [f_R29_Invert, hva, va, Bool.false_eq_true, go_sem]
end Go.Den

/-! Ch. 29: the reference's Apply and Fits. -/
namespace Go.Den
open Go
set_option linter.unusedSimpArgs false
set_option linter.unusedVariables false
set_option maxRecDepth 100000
set_option maxHeartbeats 1000000
def takeLt (n : Int) : List Line → List Line
  | [] => []
  | x :: r => if x.n < n then x :: takeLt n r else []
def dropLt (n : Int) : List Line → List Line
  | [] => []
  | x :: r => if x.n < n then dropLt n r else x :: r
def σR (out : List Line) (next : Int) : St := [.cells [.int .i64 0, .nils], .cells [.int .i64 next, .osl 2 0 out.length 0 out.length], .arr 0 2 (out.map Line.cells)]
theorem R29_Apply_l1 {β : Type} {K : Ex × Env × St → Option β} {Z : Option β} (I : AV) (J : Int) (n next : Int) : ∀ (x out : List Line), out.length + x.length < 1000000000000 →
    K (.exit 2, [(4, .ref 0 0), (6, I), (7, .ref 1 0), (8, .sl ((dropLt n x).map Line.cells)), (9, .int .i64 J), (10, .int .i64 n), (48, .bool false)], σR (out ++ takeLt n x) next) = Z →
    (Run prog 0 (.loop 3 [4, 6, 7, 8, 9, 10] f_R29_Apply_l1) [(4, .ref 0 0), (6, I), (7, .ref 1 0), (8, .sl (x.map Line.cells)), (9, .int .i64 J), (10, .int .i64 n)] (σR out next)).bind K = Z
  | [], out, hl, h => by
    have hz : decide ((0 : Int) < 0) = false := rfl
    simp only [dropLt, takeLt, σR, List.append_nil, List.map_nil] at h
    rw [Run_loop]
    simp only [f_R29_Apply_l1_eq, f_R29_Apply_l1u, σR, hz, Int.natCast_zero, h, go_sem]
  | x :: r, out, hl, h => by
    have hp : decide ((0 : Int) < (r.length : Int) + 1) = true := by rw [decide_eq_true_eq]; omega
    by_cases c : x.n < n
    · have hd : decide (x.n < n) = true := by simpa using c
      have ih := R29_Apply_l1 (K := K) (Z := Z) I J n next r (out ++ [x]) (by clear h; simp at hl ⊢; omega) (by rw [dropLt, takeLt, if_pos c, if_pos c] at h; simpa using h)
      have hb : (out.length + 1) * 32 ≤ 140737488355328 := mul32 (by clear h ih; simp at hl; omega)
      simp only [σR, go_sem] at ih
      rw [Run_loop]
      simp only [f_R29_Apply_l1_eq, f_R29_Apply_l1u, σR, hp, hd, hb, ih, go_sem]
    · have hd : decide (x.n < n) = false := by simpa using c
      simp only [dropLt, takeLt, σR, if_neg c, go_sem] at h
      rw [Run_loop]
      simp only [f_R29_Apply_l1_eq, f_R29_Apply_l1u, σR, hp, hd, h, go_sem]
def apR : List Item → List Line → List Line → Int → Option (List Line × List Line × Int)
  | [], x, out, next => some (x, out, next)
  | i :: r, x, out, next =>
    if atS i.n (dropLt i.n x) = i.b then (match i.a with
      | some row => apR r (atR i.n (dropLt i.n x)) (out ++ takeLt i.n x ++ [⟨i.n, row⟩]) (if next < i.n + 1 then i.n + 1 else next)
      | none => apR r (atR i.n (dropLt i.n x)) (out ++ takeLt i.n x) next)
    else none
theorem takeLt_len (n : Int) : ∀ x : List Line, (takeLt n x).length + (dropLt n x).length = x.length
  | [] => rfl
  | x :: r => by
    have := takeLt_len n r
    rw [takeLt, dropLt]
    split <;> simp <;> omega
theorem dropLt_sub (n : Int) : ∀ (x : List Line), ∀ l ∈ dropLt n x, l ∈ x
  | [], l, h => h
  | x :: r, l, h => by
    rw [dropLt] at h
    split at h
    · exact List.mem_cons_of_mem _ (dropLt_sub n r l h)
    · exact h
theorem atR_sub (n : Int) : ∀ (x : List Line), ∀ l ∈ atR n x, l ∈ x
  | [], l, h => h
  | x :: r, l, h => by
    rw [atR] at h
    split at h
    · exact List.mem_cons_of_mem _ h
    · exact h
theorem atR_len (n : Int) : ∀ (x : List Line), (atR n x).length ≤ x.length
  | [] => Nat.le_refl _
  | x :: r => by rw [atR]; split <;> simp
theorem atS_ok (n : Int) : ∀ (x : List Line), okL x → lenB (atS n x)
  | [], _ => by intro r hr; simp [atS] at hr
  | x :: r, h => by
    intro r hr
    rw [atS] at hr
    split at hr
    · simp at hr; subst hr; exact h x (by simp)
    · simp at hr
theorem R29_Apply_l0 {β : Type} {K : Ex × Env × St → Option β} {Z : Option β} (L : List Item) (hL : L.length < 200000000000) (hB : ∀ i ∈ L, okI i ∧ 0 ≤ i.n ∧ i.n < 4611686018427387904) (x0 : List Line) (hx0 : x0.length < 200000000000) (hx : okL x0) (next0 : Int)
    (h1 : ∀ x out next, apR L x0 [] next0 = some (x, out, next) → out.length + x.length ≤ L.length + x0.length → K (.exit 0, [(4, .ref 0 0), (6, .sl (L.map Item.cellsR)), (7, .ref 1 0), (8, .sl (x.map Line.cells)), (9, .int .i64 L.length), (30, .bool false)], σR out next) = Z)
    (h0 : apR L x0 [] next0 = none → ∀ s, K (.ret, [(4, .ref 0 0), (5, .int .i64 300)], .cells [.int .i64 0, .nils] :: s) = Z) :
    (Run prog 0 (.loop 3 [4, 6, 7, 8, 9] f_R29_Apply_l0) [(4, .ref 0 0), (6, .sl (L.map Item.cellsR)), (7, .ref 1 0), (8, .sl (x0.map Line.cells)), (9, .int .i64 0)] (σR [] next0)).bind K = Z := by
  have h := range_ind L (by omega) (fun i (s : List Line × List Line × Int) => (Run prog 0 (.loop 3 [4, 6, 7, 8, 9] f_R29_Apply_l0) [(4, .ref 0 0), (6, .sl (L.map Item.cellsR)), (7, .ref 1 0), (8, .sl (s.1.map Line.cells)), (9, .int .i64 i)] (σR s.2.1 s.2.2)).bind K = Z)
    (fun i rest s => (s.2.1.length + s.1.length : Int) ≤ i + x0.length ∧ okL s.1 ∧ apR rest s.1 s.2.1 s.2.2 = apR L x0 [] next0) ?_ ?_ (x0, [], next0) ⟨by simp, hx, rfl⟩
  · exact h
  · intro ⟨x, out, next⟩ ⟨hl, _, hg⟩
    rw [apR] at hg
    have := h1 x out next hg.symm (by clear h1 h0 hB; simp only [] at hl; omega)
    simp only [σR] at this
    rw [Run_loop]
    simp only [f_R29_Apply_l0_eq, f_R29_Apply_l0u, σR, this, go_sem]
  · intro i pre rest it ⟨x, out, next⟩ hp hi0 hi1 hi2 hxx hc hw ⟨hl, hok, hg⟩ ih
    simp only [] at hl hok hg ih
    obtain ⟨hit, hn0, hn1⟩ := hB it (by rw [hp]; simp)
    have hwn : IntKind.wrap .i64 (it.n + 1) = it.n + 1 := wrap_i64 (by clear hw hc hxx hg hp h1 h0 ih; omega) (by clear hw hc hxx hg hp h1 h0 ih; omega)
    have htl := takeLt_len it.n x
    have har := atR_len it.n (dropLt it.n x)
    have hq : out.length + x.length < 400000000000 := by clear hw hc hxx hg hp h1 h0 ih hwn; omega
    have hok1 : okL (dropLt it.n x) := fun l hl => hok l (dropLt_sub _ _ l hl)
    have hok2 : okL (atR it.n (dropLt it.n x)) := fun l hl => hok1 l (atR_sub _ _ l hl)
    have ha := R29_at it.n (dropLt it.n x)
    have hs := R29_same (atS it.n (dropLt it.n x)) it.b (atS_ok _ _ hok1)
    have hb : ((out ++ takeLt it.n x).length + 1) * 32 ≤ 140737488355328 := mul32 (by rw [List.length_append]; clear hw hc hxx hg hp h1 h0 ih hwn hs ha; omega)
    rw [apR] at hg
    rw [Run_loop]
    simp only [f_R29_Apply_l0_eq, f_R29_Apply_l0u, hw, hxx, hc, σR, go_sem]
    have hl1 := fun K => R29_Apply_l1 (β := β) (K := K) (Z := Z) (.sl (L.map Item.cellsR)) i it.n next x out (by clear hw hc hxx hg hp h1 h0 ih hwn hs ha hb hl; omega)
    simp only [σR, go_sem] at hl1
    refine hl1 _ ?_
    clear hl1
    by_cases hsame : atS it.n (dropLt it.n x) = it.b
    · have hd : decide (atS it.n (dropLt it.n x) = it.b) = true := by simpa using hsame
      rw [hd] at hs
      rw [if_pos hsame] at hg
      cases hia : it.a with
      | none =>
        rw [hia] at hg
        have ih := ih (atR it.n (dropLt it.n x), out ++ takeLt it.n x, next) ⟨by simp only [List.length_append]; clear hw hc hxx hg hp h1 h0 hwn hs ha hb ih; omega, hok2, hg⟩
        simp only [σR, go_sem] at ih
        clear hg hp h1 h0 hB hl htl har
        simp only [hw, hxx, hc, ha, hs, hia, ih, go_sem]
      | some row =>
        rw [hia] at hg
        have ih := ih (atR it.n (dropLt it.n x), out ++ takeLt it.n x ++ [⟨it.n, row⟩], if next < it.n + 1 then it.n + 1 else next) ⟨by simp only [List.length_append, List.length_cons, List.length_nil]; clear hw hc hxx hg hp h1 h0 hwn hs ha hb ih; omega, hok2, hg⟩
        simp only [σR, Nat.add_assoc, go_sem] at ih hb
        clear hg hp h1 h0 hB hl htl har
        simp only [hw, hxx, hc, ha, hs, hia, hwn, hb, ih, Nat.add_assoc, go_sem]
    · have hd : decide (atS it.n (dropLt it.n x) = it.b) = false := by simpa using hsame
      rw [hd] at hs
      rw [if_neg hsame] at hg
      have h0 := h0 hg.symm
      simp only [hw, hxx, hc, ha, hs, h0, go_sem]
def applyR (t : Table) (l : List Event) : Table × Int :=
  if valid t = false then (⟨0, []⟩, 1) else if feedOk none l = false then (⟨0, []⟩, 5) else
  match apR (itemsOf [] l) t.l [] t.next with
  | none => (⟨0, []⟩, 300)
  | some (x, out, next) => if 4096 < (out ++ x).length then (⟨0, []⟩, 2) else (⟨next, out ++ x⟩, 0)
theorem R29_Apply (t : Table) (l : List Event) (hLt : t.l.length < 1000000000000000) (hLl : l.length < 100000000000) (ht : okL t.l) (hl : okE l) :
    Den prog 35 [.agg [.int .i64 t.next, .sl (t.l.map Line.cells)], .sl (l.map Event.cells)] [] = some (.tup [.agg [.int .i64 (applyR t l).1.next, .sl ((applyR t l).1.l.map Line.cells)], .int .i64 (applyR t l).2], []) := by
  have hva := R29_Valid t hLt
  have hvb := R29_IsFeed l (by clear ht hl; omega) hl
  have hia := R29_Items l hLl
  simp only [go_sem] at hva
  rw [Den_ofK [] pr_R29_Apply rfl]
  cases va : valid t with
  | false =>
    have hf : applyR t l = (⟨0, []⟩, 1) := by rw [applyR, if_pos va]
    rw [hf]
    simp only [f_R29_Apply, hva, va, go_sem]
  | true =>
    cases vb : feedOk none l with
    | false =>
      have hf : applyR t l = (⟨0, []⟩, 5) := by rw [applyR, if_neg (by simp [va]), if_pos vb]
      rw [hf]
      simp only [f_R29_Apply, hva, hvb, va, vb, go_sem]
    | true =>
      have l1 := itemsOf_len l []
      simp only [List.length_nil, Nat.zero_add] at l1
      obtain ⟨_, v2, v3⟩ := valid_all va
      simp only [f_R29_Apply, hva, hvb, hia, va, vb, go_sem]
      have hl0 := fun K Z => R29_Apply_l0 (β := AV × St) (K := K) (Z := Z) (itemsOf [] l) (by clear ht hl hva hvb hia; omega) (fun i hi => ⟨itemsOf_ok hl i hi, itemsOf_lt vb i hi⟩) t.l (by clear ht hl hva hvb hia; omega) ht t.next
      simp only [σR, go_sem] at hl0
      refine hl0 _ _ (fun x out next hap hlen => ?_) (fun hap s => ?_)
      · have hf : applyR t l = (if 4096 < (out ++ x).length then (⟨0, []⟩, 2) else (⟨next, out ++ x⟩, 0)) := by
          rw [applyR, if_neg (by simp [va]), if_neg (by simp [vb]), hap]
        rw [hf]
        have hb : (out.length + x.length) * 32 ≤ 140737488355328 := mul32 (by clear ht hl hva hvb hia hl0 hap hf; omega)
        by_cases hbig : 4096 < (out ++ x).length
        · rw [if_pos hbig]
          rw [List.length_append] at hbig
          have hd : decide ((4096 : Int) < (out.length : Int) + x.length) = true := by rw [decide_eq_true_eq]; clear hb hl0 hap hf; omega
          simp only [hb, hd, go_sem]
        · rw [if_neg hbig]
          rw [List.length_append] at hbig
          have hd : decide ((4096 : Int) < (out.length : Int) + x.length) = false := by rw [decide_eq_false_iff_not]; clear hb hl0 hap hf; omega
          simp only [hb, hd, go_sem]
      · have hf : applyR t l = (⟨0, []⟩, 300) := by
          rw [applyR, if_neg (by simp [va]), if_neg (by simp [vb]), hap]
        rw [hf]
        simp only [go_sem]
theorem R29_Fits (t : Table) (l : List Event) (hLt : t.l.length < 1000000000000000) (hLl : l.length < 100000000000) (ht : okL t.l) (hl : okE l) :
    Den prog 40 [.agg [.int .i64 t.next, .sl (t.l.map Line.cells)], .sl (l.map Event.cells)] [] = some (.bool (decide ((applyR t l).2 = 0)), []) := by
  have h := R29_Apply t l hLt hLl ht hl
  rw [Den_ofK [] pr_R29_Fits rfl]
  simp only [f_R29_Fits, h, go_sem]
end Go.Den

/-! Ch. 29: the reference's comparisons. -/
namespace Go.Den
open Go
set_option linter.unusedSimpArgs false
set_option linter.unusedVariables false
set_option maxRecDepth 100000
set_option maxHeartbeats 1000000
theorem zip_ind {α : Type} (A B : List α) (hl : A.length = B.length) (hL : A.length < 1000000000000000) (goal : Int → Prop) (hend : A = B → goal A.length)
    (hstep : ∀ (i : Int) (x y : α), getE A i = some x → getE B i = some y → decide (i < (A.length : Int)) = true → IntKind.wrap .i64 (i + 1) = i + 1 → x ∈ A → y ∈ B → (x = y → goal (i + 1)) → (x ≠ y → A ≠ B) → goal i) : goal 0 := by
  refine range_ind A hL (fun i (_ : Unit) => goal i) (fun i rest _ => ∃ pre s, A = pre ++ rest ∧ B = pre ++ s ∧ i = (pre.length : Int)) ?_ ?_ () ⟨[], B, rfl, rfl, rfl⟩
  · intro _ ⟨pre, s, h1, h2, h3⟩
    refine hend ?_
    have : s.length = 0 := by have q1 := congrArg List.length h1; have q2 := congrArg List.length h2; simp at q1 q2; omega
    have hs : s = [] := by simpa using this
    rw [h1, h2, hs]
  · intro i pre0 rest x _ _ _ _ _ hx hc hw ⟨pre, s, h1, h2, h3⟩ ih
    cases s with
    | nil =>
      exfalso
      have q1 := congrArg List.length h1; have q2 := congrArg List.length h2; simp at q1 q2; omega
    | cons y s =>
      have hy : getE B i = some y := by rw [h3]; exact getE_at h2
      refine hstep i x y hx hy hc hw (by rw [h1]; simp) (by rw [h2]; simp) (fun e => ?_) (fun e => ?_)
      · refine ih () ⟨pre ++ [x], s, by rw [h1]; simp, by rw [h2, e]; simp, by rw [h3]; simp⟩
      · intro hab
        rw [h1, h2] at hab
        have := List.append_cancel_left hab
        simp at this
        exact e this.1
theorem R29_Lines (A B : List Line) (hL : A.length < 1000000000000000) (hA : okL A) : Den prog 16 [.sl (A.map Line.cells), .sl (B.map Line.cells)] [] = some (.bool (decide (A = B)), []) := by
  rw [Den_ofK [] pr_R29_Lines rfl]
  by_cases hl : A.length = B.length
  · have hd : decide ((A.length : Int) = B.length) = true := by rw [decide_eq_true_eq]; omega
    simp only [f_R29_Lines, hd, go_sem]
    refine zip_ind A B hl hL (fun i => (Run prog 0 (.loop 0 [0, 1, 5] f_R29_Lines_l0) [(0, .sl (A.map Line.cells)), (1, .sl (B.map Line.cells)), (5, .int .i64 i)] []).bind _ = _) ?_ ?_
    · intro h
      have hab : decide (A = B) = true := by simp [h]
      rw [Run_loop]
      simp only [f_R29_Lines_l0_eq, f_R29_Lines_l0u, hab, go_sem]
    · intro i x y hx hy hc hw hxA hyB h1 h0
      have hxr := hA x hxA
      rw [Run_loop]
      by_cases c1 : x.n = y.n
      · have d1 : decide (x.n = y.n) = true := by simpa using c1
        by_cases c2 : x.r = y.r
        · have d2 : decide (x.r = y.r) = true := by simpa using c2
          have h1 := h1 (by cases x; cases y; simp_all)
          simp only [f_R29_Lines_l0_eq, f_R29_Lines_l0u, hx, hy, hc, hw, d1, d2, hxr, h1, go_sem]
        · have d2 : decide (x.r = y.r) = false := by simpa using c2
          have hab : decide (A = B) = false := by simpa using h0 (by intro e; exact c2 (by rw [e]))
          simp only [f_R29_Lines_l0_eq, f_R29_Lines_l0u, hx, hy, hc, hw, d1, d2, hxr, hab, go_sem]
      · have d1 : decide (x.n = y.n) = false := by simpa using c1
        have hab : decide (A = B) = false := by simpa using h0 (by intro e; exact c1 (by rw [e]))
        simp only [f_R29_Lines_l0_eq, f_R29_Lines_l0u, hx, hy, hc, hw, d1, hab, go_sem]
  · have hd : decide ((A.length : Int) = B.length) = false := by simp; omega
    have hab : decide (A = B) = false := by simp only [decide_eq_false_iff_not]; intro h; exact hl (by rw [h])
    simp only [f_R29_Lines, hd, hab, go_sem]
theorem R29_Events (A B : List Event) (hL : A.length < 1000000000000000) (hA : okE A) : Den prog 25 [.sl (A.map Event.cells), .sl (B.map Event.cells)] [] = some (.bool (decide (A = B)), []) := by
  rw [Den_ofK [] pr_R29_Events rfl]
  by_cases hl : A.length = B.length
  · have hd : decide ((A.length : Int) = B.length) = true := by rw [decide_eq_true_eq]; omega
    simp only [f_R29_Events, hd, go_sem]
    refine zip_ind A B hl hL (fun i => (Run prog 0 (.loop 0 [0, 1, 5] f_R29_Events_l0) [(0, .sl (A.map Event.cells)), (1, .sl (B.map Event.cells)), (5, .int .i64 i)] []).bind _ = _) ?_ ?_
    · intro h
      have hab : decide (A = B) = true := by simp [h]
      rw [Run_loop]
      simp only [f_R29_Events_l0_eq, f_R29_Events_l0u, hab, go_sem]
    · intro i x y hx hy hc hw hxA hyB h1 h0
      have hxr := hA x hxA
      rw [Run_loop]
      by_cases c0 : x.kind = y.kind
      · have d0 : decide (x.kind = y.kind) = true := by simpa using c0
        by_cases c1 : x.l.n = y.l.n
        · have d1 : decide (x.l.n = y.l.n) = true := by simpa using c1
          by_cases c2 : x.l.r = y.l.r
          · have d2 : decide (x.l.r = y.l.r) = true := by simpa using c2
            have h1 := h1 (by obtain ⟨k, n, r⟩ := x; obtain ⟨k', n', r'⟩ := y; simp_all)
            simp only [f_R29_Events_l0_eq, f_R29_Events_l0u, hx, hy, hc, hw, d0, d1, d2, hxr, h1, go_sem]
          · have d2 : decide (x.l.r = y.l.r) = false := by simpa using c2
            have hab : decide (A = B) = false := by simpa using h0 (by intro e; exact c2 (by rw [e]))
            simp only [f_R29_Events_l0_eq, f_R29_Events_l0u, hx, hy, hc, hw, d0, d1, d2, hxr, hab, go_sem]
        · have d1 : decide (x.l.n = y.l.n) = false := by simpa using c1
          have hab : decide (A = B) = false := by simpa using h0 (by intro e; exact c1 (by rw [e]))
          simp only [f_R29_Events_l0_eq, f_R29_Events_l0u, hx, hy, hc, hw, d0, d1, hab, go_sem]
      · have d0 : decide (x.kind = y.kind) = false := by simpa using c0
        have hab : decide (A = B) = false := by simpa using h0 (by intro e; exact c0 (by rw [e]))
        simp only [f_R29_Events_l0_eq, f_R29_Events_l0u, hx, hy, hc, hw, d0, hab, go_sem]
  · have hd : decide ((A.length : Int) = B.length) = false := by simp; omega
    have hab : decide (A = B) = false := by simp only [decide_eq_false_iff_not]; intro h; exact hl (by rw [h])
    simp only [f_R29_Events, hd, hab, go_sem]
theorem R29_Same (a b : Table) (hL : a.l.length < 1000000000000000) (hA : okL a.l) : Den prog 26 [.agg [.int .i64 a.next, .sl (a.l.map Line.cells)], .agg [.int .i64 b.next, .sl (b.l.map Line.cells)]] [] = some (.bool (decide (a.next = b.next) && decide (a.l = b.l)), []) := by
  have h := R29_Lines a.l b.l hL hA
  rw [Den_ofK [] pr_R29_Same rfl]
  by_cases c : a.next = b.next
  · have d : decide (a.next = b.next) = true := by simpa using c
    simp only [f_R29_Same, h, d, go_sem]
  · have d : decide (a.next = b.next) = false := by simpa using c
    simp only [f_R29_Same, h, d, go_sem]
def lightL (L : List Line) : Bool := decide (L.length ≤ 80) && L.all fun x => decide (x.r.length ≤ 40)
theorem R29_Light (L : List Line) (hL : L.length < 1000000000000000) : Den prog 37 [.sl (L.map Line.cells)] [] = some (.bool (lightL L), []) := by
  rw [Den_ofK [] pr_R29_Light rfl]
  by_cases c : L.length ≤ 80
  · have d : decide ((80 : Int) < L.length) = false := by simp; omega
    have e : lightL L = L.all fun x => decide (x.r.length ≤ 40) := by simp [lightL, c]
    rw [e]
    simp only [f_R29_Light, d, go_sem]
    refine range_ind L hL (fun i (_ : Unit) => (Run prog 0 (.loop 0 [0, 3] f_R29_Light_l0) [(0, .sl (L.map Line.cells)), (3, .int .i64 i)] []).bind _ = _) (fun i rest _ => (rest.all fun x => decide (x.r.length ≤ 40)) = L.all fun x => decide (x.r.length ≤ 40)) ?_ ?_ () rfl
    · intro _ h
      simp only [List.all_nil] at h
      rw [Run_loop]
      simp only [f_R29_Light_l0_eq, f_R29_Light_l0u, ← h, go_sem]
    · intro i pre rest x _ hp _ _ _ hx hc hw h ih
      rw [Run_loop]
      rw [List.all_cons] at h
      by_cases c2 : x.r.length ≤ 40
      · have d2 : decide ((40 : Int) < x.r.length) = false := by simp; omega
        have ih := ih () (by rw [← h]; simp [c2])
        simp only [f_R29_Light_l0_eq, f_R29_Light_l0u, hx, hc, hw, d2, ih, go_sem]
      · have d2 : decide ((40 : Int) < x.r.length) = true := by simp; omega
        have e2 : (L.all fun x => decide (x.r.length ≤ 40)) = false := by rw [← h]; simp [c2]
        simp only [f_R29_Light_l0_eq, f_R29_Light_l0u, hx, hc, hw, d2, e2, go_sem]
  · have d : decide ((80 : Int) < L.length) = true := by simp; omega
    have e : lightL L = false := by simp [lightL, c]
    rw [e]
    simp only [f_R29_Light, d, go_sem]
theorem R29_Of (L : List Event) (hL : L.length * 40 ≤ 140737488351232) : Den prog 38 [.sl (L.map Event.cells)] [] = some (.sl ((L.map Event.l).map Line.cells), []) := by
  rw [Den_ofK [] pr_R29_Of rfl]
  simp only [f_R29_Of, go_sem]
  refine range_ind L (by omega) (fun i (out : List Line) => (Run prog 0 (.loop 1 [0, 3, 4] f_R29_Of_l0) [(0, .sl (L.map Event.cells)), (3, .osl 0 0 out.length 0 out.length), (4, .int .i64 i)] [.arr 0 2 (out.map Line.cells)]).bind _ = _) (fun i rest out => (out.length : Int) = i ∧ out ++ rest.map Event.l = L.map Event.l) ?_ ?_ [] ⟨rfl, rfl⟩
  · intro out ⟨_, h⟩
    simp only [List.map_nil, List.append_nil] at h
    rw [Run_loop]
    simp only [f_R29_Of_l0_eq, f_R29_Of_l0u, ← h, go_sem]
  · intro i pre rest x out hp _ _ hi hx hc hw ⟨hn, h⟩ ih
    have ih := ih (out ++ [x.l]) ⟨by clear ih hx hc hw h hp; simp; omega, by rw [← h]; simp⟩
    have hb : (out.length + 1) * 32 ≤ 140737488355328 := by clear ih hx hc hw h hp; omega
    simp only [go_sem] at ih
    rw [Run_loop]
    simp only [f_R29_Of_l0_eq, f_R29_Of_l0u, hx, hc, hw, hb, ih, go_sem]
end Go.Den
