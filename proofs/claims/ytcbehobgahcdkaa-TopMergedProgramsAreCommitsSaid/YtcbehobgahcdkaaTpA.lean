/- Events: items, Invert, Apply (picked). -/
import Derived.Test.YtcbehobgahcdkaaSFeed
namespace Go.Den
open Go
set_option linter.unusedSimpArgs false
set_option linter.unusedVariables false
set_option maxRecDepth 100000
set_option maxHeartbeats 1000000
/-- A list of events is a feed; p comes ahead of it. -/
def feedOk : Option Event → List Event → Bool
  | _, [] => true
  | none, x :: r => if (x.kind ≠ 1 ∧ x.kind ≠ 2) ∨ x.l.n < 0 ∨ 4611686018427387904 ≤ x.l.n then false else feedOk (some x) r
  | some y, x :: r => if (x.kind ≠ 1 ∧ x.kind ≠ 2) ∨ x.l.n < 0 ∨ 4611686018427387904 ≤ x.l.n then false else
      if y.l.n < x.l.n then feedOk (some x) r else if x.l.n < y.l.n ∨ y.kind ≠ 2 ∨ x.kind ≠ 1 ∨ x.l.r = y.l.r then false else feedOk (some x) r
theorem lineage_isFeed_l0 {β : Type} {K : Ex × Env × St → Option β} {Z : Option β} (L : List Event) (hL : L.length < 1000000000000000) (hR : ∀ e ∈ L, e.l.r.length < 1000000000000000) : ∀ (rest pre : List Event) (p : Option Event), L = pre ++ rest → p = pre.getLast? →
    (feedOk p rest = true → K (.exit 0, [(0, .sl (L.map Event.cells)), (6, .sl (L.map Event.cells)), (7, .int .i64 L.length), (8, .int .i64 L.length), (9, .bool false)], []) = Z) →
    (feedOk p rest = false → ∀ s, K (.ret, [(2, .bool false)], s) = Z) →
    (Run prog 0 (.loop 0 [0, 6, 7, 8] f_lineage_isFeed_l0) [(0, .sl (L.map Event.cells)), (6, .sl (L.map Event.cells)), (7, .int .i64 L.length), (8, .int .i64 pre.length)] []).bind K = Z
  | [], pre, p, hp, h1, k1, k0 => by
    have hlen : pre.length = L.length := by simp [hp]
    have k := k1 (by cases p <;> rfl)
    rw [Run_loop]
    simp only [f_lineage_isFeed_l0_eq, f_lineage_isFeed_l0u, hlen, k, go_sem]
  | x :: rest, pre, p, hp, h1, k1, k0 => by
    have hlen := congrArg List.length hp
    simp only [List.length_append, List.length_cons] at hlen
    have hw : IntKind.wrap .i64 ((pre.length : Int) + 1) = pre.length + 1 := wrap_i64 (by omega) (by omega)
    have hx := getE_at hp
    have hc : decide ((pre.length : Int) < L.length) = true := by simp; omega
    have hxr := hR x (by rw [hp]; simp)
    have ih := lineage_isFeed_l0 (K := K) (Z := Z) L hL hR rest (pre ++ [x]) (some x) (by simpa using hp) (by simp)
    simp only [List.length_append, List.length_cons, List.length_nil, Nat.zero_add, Int.natCast_add, Int.cast_ofNat_Int] at ih
    rw [Run_loop]
    rcases List.eq_nil_or_concat pre with h0 | ⟨q, y, h0⟩
    · have hz : decide ((pre.length : Int) = 0) = true := by simp [h0]
      have hp0 : p = none := by rw [h1, h0]; rfl
      subst hp0
      simp only [f_lineage_isFeed_l0_eq, f_lineage_isFeed_l0u, hw, hx, hc, hz, go_sem]
      repeat' (first
        | (refine grd_split (fun h => ?_) (fun h => ?_) <;> simp only [h, hw, hx, hc, hz, go_sem])
        | (refine condR_split (fun h => ?_) (fun h => ?_) <;> simp only [h, hw, hx, hc, hz, go_sem])
        | (refine grdD_split (fun h => ?_) (fun h => ?_) <;> simp only [h, hw, hx, hc, hz, go_sem])
        | (refine brk_split (fun h => ?_) (fun h => ?_) <;> simp only [h, hw, hx, hc, hz, go_sem])
        | (refine pickV_split (fun h => ?_) (fun h => ?_) <;> simp only [h, hw, hx, hc, hz, go_sem]))
      all_goals simp only [not_dec, not_decf, decide_eq_true_eq, decide_eq_false_iff_not] at *
      all_goals first
        | exact k0 (by rw [feedOk, if_pos (by omega)]) _
        | exact ih (fun h => k1 (by rw [feedOk, if_neg (by omega)]; exact h)) (fun h => k0 (by rw [feedOk, if_neg (by omega)]; exact h))
    · have hz : decide ((pre.length : Int) = 0) = false := by rw [decide_eq_false_iff_not, h0]; simp; omega
      have hp0 : p = some y := by rw [h1, h0]; simp
      have hg : getE L (IntKind.wrap .i64 (pre.length - 1)) = some y := by
        rw [wrap_i64 (by omega) (by omega)]
        exact getE_prev (p := q) (r := x :: rest) (by rw [hp, h0]; simp) (by rw [h0]; simp)
      subst hp0
      simp only [f_lineage_isFeed_l0_eq, f_lineage_isFeed_l0u, hw, hx, hc, hz, hg, hxr, go_sem]
      repeat' (first
        | (refine grd_split (fun h => ?_) (fun h => ?_) <;> simp only [h, hw, hx, hc, hz, hg, hxr, go_sem])
        | (refine condR_split (fun h => ?_) (fun h => ?_) <;> simp only [h, hw, hx, hc, hz, hg, hxr, go_sem])
        | (refine grdD_split (fun h => ?_) (fun h => ?_) <;> simp only [h, hw, hx, hc, hz, hg, hxr, go_sem])
        | (refine brk_split (fun h => ?_) (fun h => ?_) <;> simp only [h, hw, hx, hc, hz, hg, hxr, go_sem])
        | (refine pickV_split (fun h => ?_) (fun h => ?_) <;> simp only [h, hw, hx, hc, hz, hg, hxr, go_sem]))
      all_goals simp only [not_dec, not_decf, decide_eq_true_eq, decide_eq_false_iff_not] at *
      all_goals clear hw hx hg hp h1
      all_goals first
        | exact k0 (by rw [feedOk, if_pos (by omega)]) _
        | exact ih (fun h => k1 (by rw [feedOk, if_neg (by omega), if_pos (by omega)]; exact h)) (fun h => k0 (by rw [feedOk, if_neg (by omega), if_pos (by omega)]; exact h))
        | exact k0 (by rw [feedOk, if_neg (by omega), if_neg (by omega), if_pos (by grind)]) _
        | exact ih (fun h => k1 (by rw [feedOk, if_neg (by omega), if_neg (by omega), if_neg (by grind)]; exact h)) (fun h => k0 (by rw [feedOk, if_neg (by omega), if_neg (by omega), if_neg (by grind)]; exact h))
@[go_sem] theorem lineage_isFeed (L : List Event) (hL : L.length < 1000000000000000) (hR : ∀ e ∈ L, e.l.r.length < 1000000000000000) : Den prog 6 [.sl (L.map Event.cells)] [] = some (.bool (feedOk none L), []) := by
  rw [Den_ofK [] pr_lineage_isFeed rfl]
  simp only [f_lineage_isFeed, go_sem]
  refine lineage_isFeed_l0 L hL hR L [] none rfl rfl (fun h => ?_) (fun h s => ?_)
  · simp only [h, go_sem]
  · simp only [h, go_sem]
def Item.upd (y : Item) (x : Event) : Item := if x.kind = 2 then { y with b := some x.l.r } else { y with a := some x.l.r }
def addEv (out : List Item) (x : Event) : List Item := match out.getLast? with
  | some y => if y.n = x.l.n then out.dropLast ++ [y.upd x] else out ++ [Item.upd ⟨x.l.n, none, none⟩ x]
  | none => out ++ [Item.upd ⟨x.l.n, none, none⟩ x]
def itemsOf (out : List Item) : List Event → List Item
  | [] => out
  | x :: r => itemsOf (addEv out x) r
theorem addEv_len (out : List Item) (x : Event) : (addEv out x).length ≤ out.length + 1 := by
  unfold addEv
  split
  · split
    · simp
    · simp
  · simp
theorem lineage_items_l0 {β : Type} {K : Ex × Env × St → Option β} {Z : Option β} (L : List Event) (hL : L.length < 1000000000000) : ∀ (rest pre : List Event) (out : List Item), L = pre ++ rest → out.length ≤ pre.length →
    K (.exit 0, [(0, .sl (L.map Event.cells)), (3, .osl 0 0 (itemsOf out rest).length 0 (itemsOf out rest).length), (9, .int .i64 L.length), (10, .int .i64 L.length), (11, .bool false)], [.arr 0 3 ((itemsOf out rest).map Item.cells)]) = Z →
    (Run prog 0 (.loop 1 [0, 3, 9, 10] f_lineage_items_l0) [(0, .sl (L.map Event.cells)), (3, .osl 0 0 out.length 0 out.length), (9, .int .i64 L.length), (10, .int .i64 pre.length)] [.arr 0 3 (out.map Item.cells)]).bind K = Z
  | [], pre, out, hp, ho, k1 => by
    have hlen : pre.length = L.length := by simp [hp]
    rw [itemsOf] at k1
    rw [Run_loop]
    simp only [f_lineage_items_l0_eq, f_lineage_items_l0u, hlen, k1, go_sem]
  | x :: rest, pre, out, hp, ho, k1 => by
    have hlen := congrArg List.length hp
    simp only [List.length_append, List.length_cons] at hlen
    have hw : IntKind.wrap .i64 ((pre.length : Int) + 1) = pre.length + 1 := wrap_i64 (by omega) (by omega)
    have hx := getE_at hp
    have hc : decide ((pre.length : Int) < L.length) = true := by simp; omega
    have ih := lineage_items_l0 (K := K) (Z := Z) L hL rest (pre ++ [x]) (addEv out x) (by simpa using hp) (by have := addEv_len out x; simp; omega) (by rw [itemsOf] at k1; exact k1)
    simp only [List.length_append, List.length_cons, List.length_nil, Nat.zero_add, Int.natCast_add, Int.cast_ofNat_Int] at ih
    rw [Run_loop]
    rcases List.eq_nil_or_concat out with h0 | ⟨o, y, h0⟩
    · subst h0
      have hw2 : IntKind.wrap .i64 0 = 0 := rfl
      by_cases hk : x.kind = 2
      · have hkd : decide (x.kind = 2) = true := by simpa using hk
        simp only [addEv, List.getLast?_nil, Item.upd, hk, go_sem] at ih
        simp only [f_lineage_items_l0_eq, f_lineage_items_l0u, hw, hx, hc, hw2, hkd, go_sem]
        all_goals exact ih
      · have hkd : decide (x.kind = 2) = false := by simpa using hk
        simp only [addEv, List.getLast?_nil, Item.upd, hk, go_sem] at ih
        simp only [f_lineage_items_l0_eq, f_lineage_items_l0u, hw, hx, hc, hw2, hkd, go_sem]
        all_goals exact ih
    · rw [List.concat_eq_append] at h0
      by_cases hn : y.n = x.l.n
      · subst h0
        simp only [List.length_append, List.length_cons, List.length_nil, Nat.zero_add] at ho
        have hz : decide ((o.length : Int) + 1 = 0) = false := by simp; omega
        have hw1 : IntKind.wrap .i64 ((o.length : Int) + 1 - 1) = o.length := by rw [wrap_i64 (by omega) (by omega)]; omega
        have hi1 : (o.length : Int) < o.length + 1 := by omega
        have hnd : decide (y.n = x.l.n) = true := by simpa using hn
        by_cases hk : x.kind = 2
        · have hkd : decide (x.kind = 2) = true := by simpa using hk
          simp only [addEv, List.getLast?_append, List.getLast?_singleton, Option.or_some, Option.some_or, hn, List.dropLast_concat, Item.upd, hk, go_sem] at ih
          simp only [f_lineage_items_l0_eq, f_lineage_items_l0u, hw, hx, hc, hz, hw1, hi1, hnd, hkd, go_sem]
          all_goals first | exact ih | (rw [hn]; exact ih)
        · have hkd : decide (x.kind = 2) = false := by simpa using hk
          simp only [addEv, List.getLast?_append, List.getLast?_singleton, Option.or_some, Option.some_or, hn, List.dropLast_concat, Item.upd, hk, go_sem] at ih
          simp only [f_lineage_items_l0_eq, f_lineage_items_l0u, hw, hx, hc, hz, hw1, hi1, hnd, hkd, go_sem]
          all_goals first | exact ih | (rw [hn]; exact ih)
      · have hnd : decide (y.n = x.l.n) = false := by simpa using hn
        have hol : out.length = o.length + 1 := by simp [h0]
        have hlast : out.getLast? = some y := by simp [h0]
        have hz : decide ((out.length : Int) = 0) = false := by rw [decide_eq_false_iff_not]; omega
        have hw1 : IntKind.wrap .i64 ((out.length : Int) - 1) = o.length := by rw [wrap_i64 (by omega) (by omega)]; omega
        have hi1 : (o.length : Int) < out.length := by omega
        have hget : (out.map Item.cells)[o.length]? = some [.int .i64 y.n, ptrc y.b, ptrc y.a] := by simp [h0, Item.cells]
        have hw2 : IntKind.wrap .i64 ((out.length : Int) + 1 - 1) = out.length := by rw [wrap_i64 (by omega) (by omega)]; omega
        have hi2 : (out.length : Int) < out.length + 1 := by omega
        have hb : (out.length + 1) * 24 ≤ 140737488355328 := by omega
        clear h0
        by_cases hk : x.kind = 2
        · have hkd : decide (x.kind = 2) = true := by simpa using hk
          simp only [addEv, hlast, hn, Item.upd, hk, go_sem] at ih
          simp only [f_lineage_items_l0_eq, f_lineage_items_l0u, hw, hx, hc, hz, hw1, hi1, hget, hnd, hw2, hi2, hb, hkd, go_sem]
          all_goals first | exact ih | (rw [hn]; exact ih)
        · have hkd : decide (x.kind = 2) = false := by simpa using hk
          simp only [addEv, hlast, hn, Item.upd, hk, go_sem] at ih
          simp only [f_lineage_items_l0_eq, f_lineage_items_l0u, hw, hx, hc, hz, hw1, hi1, hget, hnd, hw2, hi2, hb, hkd, go_sem]
          all_goals first | exact ih | (rw [hn]; exact ih)
@[go_sem] theorem lineage_items (L : List Event) (hL : L.length < 1000000000000) : Den prog 7 [.sl (L.map Event.cells)] [] = some (.osl 0 0 (itemsOf [] L).length 0 (itemsOf [] L).length, [.arr 0 3 ((itemsOf [] L).map Item.cells)]) := by
  rw [Den_ofK [] pr_lineage_items rfl]
  simp only [f_lineage_items, go_sem]
  have h := fun K Z => lineage_items_l0 (β := AV × St) (K := K) (Z := Z) L hL L [] [] rfl (by simp)
  simp only [go_sem] at h
  refine h _ _ ?_
  simp only [go_sem]
def itemP : Option Item → AV
  | none => .nilp
  | some i => .rptr [.int .i64 i.n, ptrc i.b, ptrc i.a]
@[go_sem] theorem itemP_none : itemP none = .nilp := (rfl)
@[go_sem] theorem itemP_some (i : Item) : itemP (some i) = .rptr [.int .i64 i.n, ptrc i.b, ptrc i.a] := (rfl)
@[go_sem] theorem itemP_noref (o : Option Item) : (itemP o).noref = true := by cases o <;> rfl
@[go_sem] theorem itemP_norm (o : Option Item) : (itemP o).norm = itemP o := by cases o <;> rfl
@[go_sem] theorem eqp_itemP (o : Option Item) : eq2 .ptr (itemP o) .nilp = some o.isNone := by cases o <;> rfl
@[go_sem] theorem lineage_ofItem (n : Int) (a b : AV) : Den prog 11 [.rptr [.int .i64 n, a, b]] [] = some (.int .i64 n, []) := by
  rw [Den_ofK [] pr_lineage_ofItem rfl]
  simp only [f_lineage_ofItem, go_sem]
theorem merge_LI_l0 {S β : Type} {K : Ex × Env × St → Option β} {Z : Option β} (fid : Nat) (caps : List AV) (hcn : norms caps = caps) (hcr : norefs caps = false) (σ : S → St) (bs : Nat) (hbs : ∀ s, (σ s).length = bs) (cnt : S → Nat)
    (step : S → Int → Option Line → Option Item → S) (good : S → Prop) (okA : Line → Prop) (okB : Item → Prop)
    (hstep : ∀ s n x y, good s → cnt s < 1000000000000 → (∀ x', x = some x' → okA x' ∧ n = x'.n) → (∀ y', y = some y' → okB y' ∧ n = y'.n) → (x = none → y = none → False) →
      Den prog fid (.int .i64 n :: lineP x :: itemP y :: caps) (σ s) = some (.tup [], σ (step s n x y)) ∧ good (step s n x y) ∧ cnt (step s n x y) ≤ cnt s + 1) :
    ∀ (k : Nat) (a : List Line) (b : List Item) (s : S), a.length + b.length ≤ k → good s → cnt s + k < 1000000000000 → (∀ x ∈ a, okA x ∧ x.n < 4611686018427387904) → (∀ y ∈ b, okB y ∧ y.n < 4611686018427387904) →
      K (.exit 0, [(0, .sl []), (1, .sl []), (2, .fn 10 []), (3, .fn 11 []), (4, .fn fid caps), (20, .bool false)], σ (mergeS Line.n Item.n step s a b)) = Z →
      (Run prog bs (.loop 0 [0, 1, 2, 3, 4] f_lineage_merge_api_Line_lineage_item_l0) [(0, .sl (a.map Line.cells)), (1, .sl (b.map Item.cells)), (2, .fn 10 []), (3, .fn 11 []), (4, .fn fid caps)] (σ s)).bind K = Z
  | 0, a, b, s, hk, hg, hc, ha, hb, h => by
    have ha0 : a = [] := by cases a with
      | nil => rfl
      | cons => simp at hk
    have hb0 : b = [] := by cases b with
      | nil => rfl
      | cons => simp at hk
    subst ha0; subst hb0
    rw [mergeS] at h
    have hz : decide ((0 : Int) < 0) = false := rfl
    rw [Run_loop]
    simp only [f_lineage_merge_api_Line_lineage_item_l0_eq, f_lineage_merge_api_Line_lineage_item_l0u, hz, hbs, hcn, hcr, Int.natCast_zero, h, go_sem]
  | k + 1, a, b, s, hk, hg, hc, ha, hb, h => by
    have IH := merge_LI_l0 (K := K) (Z := Z) fid caps hcn hcr σ bs hbs cnt step good okA okB hstep k
    have hz : decide ((0 : Int) < 0) = false := rfl
    have hp : ∀ q : Nat, decide ((0 : Int) < (q : Int) + 1) = true := by intro q; rw [decide_eq_true_eq]; omega
    cases a with
    | nil => cases b with
      | nil =>
        rw [mergeS] at h
        clear IH hstep
        rw [Run_loop]
        simp only [f_lineage_merge_api_Line_lineage_item_l0_eq, f_lineage_merge_api_Line_lineage_item_l0u, hz, hbs, hcn, hcr, Int.natCast_zero, h, go_sem]
      | cons y b =>
        obtain ⟨hy1, hy2⟩ := hb y (by simp)
        obtain ⟨e, g, c⟩ := hstep s y.n none (some y) hg (by omega) (by simp) (by simp; exact hy1) (by simp)
        have ih := IH [] b (step s y.n none (some y)) (by simp at hk ⊢; omega) g (by omega) (by simp) (fun z hz => hb z (by simp [hz])) (by rw [mergeS] at h; exact h)
        have hd : decide (y.n = y.n) = true := by simp
        clear IH hstep h
        rw [Run_loop]
        simp only [go_sem] at e ih
        simp only [f_lineage_merge_api_Line_lineage_item_l0_eq, f_lineage_merge_api_Line_lineage_item_l0u, hz, hp, hd, hy2, hbs, hcn, hcr, e, ih, Int.natCast_zero, go_sem]
    | cons x a =>
      obtain ⟨hx1, hx2⟩ := ha x (by simp)
      have hdx : decide (x.n = x.n) = true := by simp
      cases b with
      | nil =>
        obtain ⟨e, g, c⟩ := hstep s x.n (some x) none hg (by omega) (by simp; exact hx1) (by simp) (by simp)
        have ih := IH a [] (step s x.n (some x) none) (by simp at hk ⊢; omega) g (by omega) (fun z hz => ha z (by simp [hz])) (by simp) (by rw [mergeS] at h; exact h)
        clear IH hstep h
        rw [Run_loop]
        simp only [go_sem] at e ih
        simp only [f_lineage_merge_api_Line_lineage_item_l0_eq, f_lineage_merge_api_Line_lineage_item_l0u, hz, hp, hdx, hbs, hcn, hcr, e, ih, Int.natCast_zero, go_sem]
      | cons y b =>
        obtain ⟨hy1, hy2⟩ := hb y (by simp)
        have hdy : decide (y.n = y.n) = true := by simp
        by_cases h1 : x.n < y.n
        · obtain ⟨e, g, c⟩ := hstep s x.n (some x) none hg (by omega) (by simp; exact hx1) (by simp) (by simp)
          have ih := IH a (y :: b) (step s x.n (some x) none) (by simp at hk ⊢; omega) g (by omega) (fun z hz => ha z (by simp [hz])) hb (by rw [mergeS, if_pos h1] at h; exact h)
          have h2 : (y.n < x.n) = False := by simp; omega
          have h3 : decide (y.n = x.n) = false := by simp; omega
          clear IH hstep h
          rw [Run_loop]
          simp only [go_sem] at e ih
          simp only [f_lineage_merge_api_Line_lineage_item_l0_eq, f_lineage_merge_api_Line_lineage_item_l0u, hz, hp, hdx, hdy, h2, h3, hbs, hcn, hcr, e, ih, Int.natCast_zero, go_sem]
        · by_cases h2 : y.n < x.n
          · obtain ⟨e, g, c⟩ := hstep s y.n none (some y) hg (by omega) (by simp) (by simp; exact hy1) (by simp)
            have ih := IH (x :: a) b (step s y.n none (some y)) (by simp at hk ⊢; omega) g (by omega) ha (fun z hz => hb z (by simp [hz])) (by rw [mergeS, if_neg h1, if_pos h2] at h; exact h)
            have h3 : decide (x.n = y.n) = false := by simp; omega
            clear IH hstep h
            rw [Run_loop]
            simp only [go_sem] at e ih
            simp only [f_lineage_merge_api_Line_lineage_item_l0_eq, f_lineage_merge_api_Line_lineage_item_l0u, hz, hp, hdx, hdy, h2, h3, hbs, hcn, hcr, e, ih, Int.natCast_zero, go_sem]
          · have h3 : x.n = y.n := by omega
            obtain ⟨e, g, c⟩ := hstep s x.n (some x) (some y) hg (by omega) (by simp; exact hx1) (by simp; exact ⟨hy1, h3⟩) (by simp)
            have ih := IH a b (step s x.n (some x) (some y)) (by simp at hk ⊢; omega) g (by omega) (fun z hz => ha z (by simp [hz])) (fun z hz => hb z (by simp [hz])) (by rw [mergeS, if_neg h1, if_neg h2] at h; exact h)
            have h4 : (y.n < y.n) = False := by simp
            clear IH hstep h
            rw [Run_loop]
            simp only [h3, go_sem] at e ih
            simp only [f_lineage_merge_api_Line_lineage_item_l0_eq, f_lineage_merge_api_Line_lineage_item_l0u, hz, hp, hdx, hdy, h3, h4, hbs, hcn, hcr, e, ih, Int.natCast_zero, go_sem]
theorem merge_LI {S : Type} (fid : Nat) (caps : List AV) (hcn : norms caps = caps) (hcr : norefs caps = false) (σ : S → St) (bs : Nat) (hbs : ∀ s, (σ s).length = bs) (cnt : S → Nat)
    (step : S → Int → Option Line → Option Item → S) (good : S → Prop) (okA : Line → Prop) (okB : Item → Prop)
    (hstep : ∀ s n x y, good s → cnt s < 1000000000000 → (∀ x', x = some x' → okA x' ∧ n = x'.n) → (∀ y', y = some y' → okB y' ∧ n = y'.n) → (x = none → y = none → False) →
      Den prog fid (.int .i64 n :: lineP x :: itemP y :: caps) (σ s) = some (.tup [], σ (step s n x y)) ∧ good (step s n x y) ∧ cnt (step s n x y) ≤ cnt s + 1)
    (a : List Line) (b : List Item) (s : S) (hg : good s) (hc : cnt s + (a.length + b.length) < 1000000000000) (ha : ∀ x ∈ a, okA x ∧ x.n < 4611686018427387904) (hb : ∀ y ∈ b, okB y ∧ y.n < 4611686018427387904) :
    Den prog 9 [.sl (a.map Line.cells), .sl (b.map Item.cells), .fn 10 [], .fn 11 [], .fn fid caps] (σ s) = some (.tup [], σ (mergeS Line.n Item.n step s a b)) := by
  rw [Den_ofK (σ s) pr_lineage_merge_api_Line_lineage_item rfl]
  simp only [f_lineage_merge_api_Line_lineage_item, hbs, go_sem]
  refine merge_LI_l0 fid caps hcn hcr σ bs hbs cnt step good okA okB hstep _ a b s (Nat.le_refl _) hg hc ha hb ?_
  have hlen := hbs (mergeS Line.n Item.n step s a b)
  simp only [go_sem, frz_tup, finV, oneOf, fin]
  rw [← hlen, List.take_length]
theorem itemsOf_all {P : Item → Prop} : ∀ {L : List Event} {out : List Item}, (∀ x ∈ L, ∀ i, P i → P (Item.upd i x)) → (∀ x ∈ L, P ⟨x.l.n, none, none⟩) → (∀ i ∈ out, P i) → ∀ i ∈ itemsOf out L, P i
  | [], out, _, _, h => by rw [itemsOf]; exact h
  | x :: r, out, h1, h2, h => by
    rw [itemsOf]
    refine itemsOf_all (fun y hy => h1 y (by simp [hy])) (fun y hy => h2 y (by simp [hy])) ?_
    intro i hi
    unfold addEv at hi
    have hx := h1 x (by simp)
    have h0 := h2 x (by simp)
    split at hi
    · rename_i y hy
      have hym : y ∈ out := List.mem_of_getLast? hy
      split at hi
      · simp at hi
        rcases hi with hi | rfl
        · exact h i ((List.dropLast_sublist out).subset hi)
        · exact hx y (h y hym)
      · simp at hi
        rcases hi with hi | rfl
        · exact h i hi
        · exact hx _ h0
    · simp at hi
      rcases hi with hi | rfl
      · exact h i hi
      · exact hx _ h0
theorem upd_n (i : Item) (x : Event) : (i.upd x).n = i.n := by unfold Item.upd; split <;> rfl
theorem itemsOf_len : ∀ (L : List Event) (out : List Item), (itemsOf out L).length ≤ out.length + L.length
  | [], out => by simp [itemsOf]
  | x :: r, out => by
    have h1 := itemsOf_len r (addEv out x)
    have h2 := addEv_len out x
    rw [itemsOf]; simp; omega
def okE (L : List Event) : Prop := ∀ e ∈ L, e.l.r.length < 1000000000000000
def okI (i : Item) : Prop := lenB i.b ∧ lenB i.a
theorem itemsOf_ok {L : List Event} (h : okE L) : ∀ i ∈ itemsOf [] L, okI i :=
  itemsOf_all (fun x hx i hi => by
    unfold Item.upd
    split
    · exact ⟨fun r hr => by simp at hr; subst hr; exact h x hx, hi.2⟩
    · exact ⟨hi.1, fun r hr => by simp at hr; subst hr; exact h x hx⟩) (fun x _ => ⟨fun r hr => by simp at hr, fun r hr => by simp at hr⟩) (by simp)
theorem feedOk_all : ∀ {L : List Event} {p : Option Event}, feedOk p L = true → ∀ x ∈ L, (x.kind = 1 ∨ x.kind = 2) ∧ 0 ≤ x.l.n ∧ x.l.n < 4611686018427387904
  | [], _, _ => by simp
  | x :: r, none, h => by
    rw [feedOk] at h
    split at h
    · exact absurd h (by simp)
    · intro y hy
      simp at hy
      rcases hy with rfl | hy
      · omega
      · exact feedOk_all h y hy
  | x :: r, some p, h => by
    rw [feedOk] at h
    split at h
    · exact absurd h (by simp)
    · intro y hy
      simp at hy
      rcases hy with rfl | hy
      · omega
      · split at h
        · exact feedOk_all h y hy
        · split at h
          · exact absurd h (by simp)
          · exact feedOk_all h y hy
theorem itemsOf_lt {L : List Event} (h : feedOk none L = true) : ∀ i ∈ itemsOf [] L, 0 ≤ i.n ∧ i.n < 4611686018427387904 :=
  itemsOf_all (P := fun i => 0 ≤ i.n ∧ i.n < 4611686018427387904) (fun x hx i hi => by rw [upd_n]; exact hi) (fun x hx => (feedOk_all h x hx).2) (by simp)
def Item.swap (i : Item) : Item := ⟨i.n, i.a, i.b⟩
def invert (l : List Event) : List Event := if feedOk none l = true then eventsOf ((itemsOf [] l).map Item.swap) else []
theorem lineage_Invert_l0 {β : Type} {K : Ex × Env × St → Option β} {Z : Option β} (L : List Item) (hL : L.length < 1000000000000)
    (h : K (.exit 0, [(3, .osl 0 0 L.length 0 L.length), (11, .osl 0 0 L.length 0 L.length), (12, .int .i64 L.length), (13, .int .i64 L.length), (14, .bool false)], [.arr 0 3 ((L.map Item.swap).map Item.cells)]) = Z) :
    (Run prog 0 (.loop 1 [3, 11, 12, 13] f_lineage_Invert_l0) [(3, .osl 0 0 L.length 0 L.length), (11, .osl 0 0 L.length 0 L.length), (12, .int .i64 L.length), (13, .int .i64 0)] [.arr 0 3 (L.map Item.cells)]).bind K = Z := by
  have h0 := range_ind L (by omega) (fun i (cur : List Item) => (Run prog 0 (.loop 1 [3, 11, 12, 13] f_lineage_Invert_l0) [(3, .osl 0 0 L.length 0 L.length), (11, .osl 0 0 L.length 0 L.length), (12, .int .i64 L.length), (13, .int .i64 i)] [.arr 0 3 (cur.map Item.cells)]).bind K = Z)
    (fun i rest cur => ∃ pre, i = (pre.length : Int) ∧ cur = pre ++ rest ∧ pre ++ rest.map Item.swap = L.map Item.swap) ?_ ?_ L ⟨[], by simp, by simp, by simp⟩
  · exact h0
  · intro cur ⟨pre, hi, hc, hs⟩
    simp at hs hc
    rw [← hc] at hs
    rw [Run_loop]
    simp only [f_lineage_Invert_l0_eq, f_lineage_Invert_l0u, hs, h, go_sem]
  · intro i pre0 rest x cur hp hi0 hi1 hi2 hx hc hw ⟨pre, hi, hcur, hs⟩ ih
    have hlen : L.length = pre.length + (rest.length + 1) := by
      have := congrArg List.length hp
      simp at this
      clear hw hx hc ih h hp
      omega
    subst hi
    have hk : decide ((pre.length : Int) < L.length) = true := hc
    have hk2 : (pre.length : Int) < L.length := hi2
    have hget : ∀ v, (List.map Item.cells pre ++ v :: List.map Item.cells rest)[pre.length]? = some v := by intro v; simp
    have hset : ∀ v u, (List.map Item.cells pre ++ v :: List.map Item.cells rest).set pre.length u = List.map Item.cells pre ++ u :: List.map Item.cells rest := by intro v u; simp
    have ih := ih (pre ++ x.swap :: rest) ⟨pre ++ [x.swap], by simp, by simp, by rw [← hs]; simp⟩
    subst hcur
    have hlen2 : (List.map Item.cells pre ++ Item.cells x :: List.map Item.cells rest).length = L.length := by simp; omega
    clear hp hi0 hi1 hi2 hx
    rw [hlen] at hk hk2
    simp only [Int.natCast_add, Int.cast_ofNat_Int] at hk hk2
    rw [Run_loop]
    simp only [hlen, Item.swap, go_sem] at ih
    simp only [f_lineage_Invert_l0_eq, f_lineage_Invert_l0u, hlen, hk, hk2, hget, hset, hw, ih, go_sem]
theorem lineage_Invert (a : List Event) (hLa : a.length < 100000000000) (ha : okE a) : Den prog 24 [.sl (a.map Event.cells)] [] = some (.sl ((invert a).map Event.cells), []) := by
  have hfa := lineage_isFeed a (by clear ha; omega) ha
  have hia := lineage_items a (by clear ha; omega)
  rw [Den_ofK [] pr_lineage_Invert rfl]
  by_cases va : feedOk none a = true
  · have l1 := itemsOf_len a []
    simp only [List.length_nil, Nat.zero_add] at l1
    have he := lineage_events ((itemsOf [] a).map Item.swap) (by clear ha hfa hia; simp only [List.length_map]; omega) (fun i hi => by
      simp at hi
      obtain ⟨j, hj, rfl⟩ := hi
      exact (itemsOf_ok ha j hj).2)
    have hf : invert a = eventsOf ((itemsOf [] a).map Item.swap) := by rw [invert, if_pos va]
    rw [hf]
    simp only [f_lineage_Invert, hfa, hia, va, go_sem]
    refine lineage_Invert_l0 (itemsOf [] a) (by clear ha hfa hia he; omega) ?_
    have e3 : (itemsOf [] a).length = ((itemsOf [] a).map Item.swap).length := by simp
    rw [e3]
    simp only [he, go_sem]
  · have va' : feedOk none a = false := by simpa using va
    have hf : invert a = [] := by rw [invert, if_neg (by simp [va])]
    rw [hf]
    simp only [f_lineage_Invert, hfa, va', go_sem]
structure Ap where
  gap : Bool
  out : List Line
  next : Int
def σA (s : Ap) : St := [.cells [.int .i64 0, .nils], .arr 0 2 (s.out.map Line.cells), .cells [.int .i64 s.next, .osl 1 0 s.out.length 0 s.out.length], .cells [.bool s.gap], .dead]
def stepA (s : Ap) (n : Int) (x : Option Line) (y : Option Item) : Ap :=
  let now := x.map Line.r
  let gap := match y with | some y => s.gap || !decide (now = y.b) | none => s.gap
  match (match y with | some y => y.a | none => now) with
  | some r => ⟨gap, s.out ++ [⟨n, r⟩], if s.next < n + 1 then n + 1 else s.next⟩
  | none => ⟨gap, s.out, s.next⟩
theorem Apply_1 (s : Ap) (n : Int) (x : Option Line) (y : Option Item) (h : s.out.length < 1000000000000) (hn : 0 ≤ n) (hn2 : n < 4611686018427387904) (hx : lenB (x.map Line.r)) :
    Den prog 8 (.int .i64 n :: lineP x :: itemP y :: [.ref 3 0, .ref 2 0]) (σA s) = some (.tup [], σA (stepA s n x y)) := by
  have hb : (s.out.length + 1) * 32 ≤ 140737488355328 := mul32 (by clear hx; omega)
  have hw : IntKind.wrap .i64 (n + 1) = n + 1 := wrap_i64 (by omega) (by omega)
  rw [Den_ofK (σA s) pr_lineage_Apply_1 rfl]
  obtain ⟨gap, out, next⟩ := s
  simp only [] at hb
  cases y with
  | none =>
    cases x with
    | none => simp only [f_lineage_Apply_1, σA, stepA, hb, hw, finV, oneOf, Option.isNone_none, Option.isNone_some, go_sem]
    | some x => simp only [f_lineage_Apply_1, σA, stepA, hb, hw, finV, oneOf, Option.isNone_none, Option.isNone_some, go_sem]
  | some y =>
    obtain ⟨m, b, a⟩ := y
    have hsame := lineage_same (x.map Line.r) b hx
    cases x with
    | none =>
      simp only [go_sem] at hsame
      cases gap <;> cases a <;> simp only [f_lineage_Apply_1, σA, stepA, hb, hw, hsame, finV, oneOf, Option.isNone_none, Option.isNone_some, go_sem]
    | some x =>
      simp only [go_sem] at hsame
      cases gap <;> cases a <;> simp only [f_lineage_Apply_1, σA, stepA, hb, hw, hsame, finV, oneOf, Option.isNone_none, Option.isNone_some, go_sem]
def applyS (t : Table) (l : List Item) : Ap := mergeS Line.n Item.n stepA ⟨false, [], t.next⟩ t.l l
def apply (t : Table) (l : List Event) : Table × Int :=
  if valid t = false then (⟨0, []⟩, 1) else if feedOk none l = false then (⟨0, []⟩, 5) else
  let s := applyS t (itemsOf [] l)
  if s.gap = true then (⟨0, []⟩, 300) else if 4096 < s.out.length then (⟨0, []⟩, 2) else (⟨s.next, s.out⟩, 0)
theorem stepA_len (s : Ap) (n : Int) (x : Option Line) (y : Option Item) : (stepA s n x y).out.length ≤ s.out.length + 1 := by
  unfold stepA
  simp only []
  split <;> simp
theorem lineage_Apply (t : Table) (l : List Event) (hLt : t.l.length < 1000000000000000) (hLl : l.length < 100000000000) (ht : okL t.l) (hl : okE l) :
    Den prog 17 [.agg [.int .i64 t.next, .sl (t.l.map Line.cells)], .sl (l.map Event.cells)] [] = some (.tup [.agg [.int .i64 (apply t l).1.next, .sl ((apply t l).1.l.map Line.cells)], .int .i64 (apply t l).2], []) := by
  have hfa := lineage_isFeed l (by clear ht hl; omega) hl
  have hia := lineage_items l (by clear ht hl; omega)
  rw [Den_ofK [] pr_lineage_Apply rfl]
  cases va : valid t with
  | false =>
    have hf : apply t l = (⟨0, []⟩, 1) := by rw [apply, if_pos va]
    rw [hf]
    simp only [f_lineage_Apply, hLt, va, go_sem]
  | true =>
    cases vb : feedOk none l with
    | false =>
      have hf : apply t l = (⟨0, []⟩, 5) := by rw [apply, if_neg (by simp [va]), if_pos vb]
      rw [hf]
      simp only [f_lineage_Apply, hLt, hfa, va, vb, go_sem]
    | true =>
      have l1 := itemsOf_len l []
      simp only [List.length_nil, Nat.zero_add] at l1
      obtain ⟨_, v2, v3⟩ := valid_all va
      have hm := merge_LI 8 [.ref 3 0, .ref 2 0] rfl rfl σA 5 (fun _ => rfl) (fun s => s.out.length) stepA (fun _ => True) (fun l => l.r.length < 1000000000000000 ∧ 0 ≤ l.n ∧ l.n < 4611686018427387904) (fun i => 0 ≤ i.n ∧ i.n < 4611686018427387904)
        (fun s n x y _ hc hx hy hxy => ⟨Apply_1 s n x y hc (by
            cases x with
            | none => cases y with
              | none => exact (hxy rfl rfl).elim
              | some y => obtain ⟨h1, h2⟩ := hy y rfl; omega
            | some x => obtain ⟨h1, h2⟩ := hx x rfl; omega) (by
            cases x with
            | none => cases y with
              | none => exact (hxy rfl rfl).elim
              | some y => obtain ⟨h1, h2⟩ := hy y rfl; omega
            | some x => obtain ⟨h1, h2⟩ := hx x rfl; omega) (by
            intro r hr
            cases x with
            | none => simp at hr
            | some x => simp at hr; subst hr; exact (hx x rfl).1.1), trivial, stepA_len s n x y⟩) t.l (itemsOf [] l) ⟨false, [], t.next⟩
        trivial (by clear ht hl hfa hia; simp only [List.length_nil]; omega)
        (fun x hx => ⟨⟨ht x hx, v3 x hx⟩, (v3 x hx).2⟩) (fun x hx => ⟨itemsOf_lt vb x hx, (itemsOf_lt vb x hx).2⟩)
      change Den prog 9 _ _ = some (_, σA (applyS t (itemsOf [] l))) at hm
      have hf : apply t l = (let s := applyS t (itemsOf [] l)
          if s.gap = true then (⟨0, []⟩, 300) else if 4096 < s.out.length then (⟨0, []⟩, 2) else (⟨s.next, s.out⟩, 0)) := by rw [apply, if_neg (by simp [va]), if_neg (by simp [vb])]
      rw [hf]
      generalize applyS t (itemsOf [] l) = s at *
      obtain ⟨gap, out, next⟩ := s
      simp only [σA, go_sem] at hm
      simp only []
      cases gap with
      | true => simp only [f_lineage_Apply, hLt, hfa, hia, va, vb, hm, go_sem]
      | false =>
        by_cases hbig : 4096 < out.length
        · have hd : decide ((4096 : Int) < out.length) = true := by rw [decide_eq_true_eq]; clear hm; omega
          simp only [f_lineage_Apply, hLt, hfa, hia, va, vb, hm, hd, hbig, Bool.false_eq_true, go_sem]
        · have hd : decide ((4096 : Int) < out.length) = false := by rw [decide_eq_false_iff_not]; clear hm; omega
          simp only [f_lineage_Apply, hLt, hfa, hia, va, vb, hm, hd, hbig, Bool.false_eq_true, go_sem]
end Go.Den
