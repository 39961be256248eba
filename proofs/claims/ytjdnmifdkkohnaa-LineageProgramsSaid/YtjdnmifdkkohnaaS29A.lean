import Derived.Test.YtjdnmifdkkohnaaTy
import Derived.Test.YtjdnmifdkkohnaaFn29
import Derived.Test.YtjdnmifdkkohnaaDenLp
namespace Go.Den
open Go
set_option linter.unusedSimpArgs false
set_option linter.unusedVariables false
set_option maxRecDepth 100000
set_option maxHeartbeats 1000000


/-- The numbers of lines rise from last on, below nx. -/
def rise (nx : Int) : Int → List Line → Bool
  | _, [] => true
  | last, x :: r => if x.n < 0 ∨ nx ≤ x.n ∨ x.n ≤ last then false else rise nx x.n r
theorem R29_Valid_l0 (nx : Int) (L : List Line) (hL : L.length < 1000000000000000) : ∀ (rest pre : List Line) (last : Int), L = pre ++ rest → (pre = [] → last = -1) → (∀ p x, pre = p ++ [x] → last = x.n) → 
    Run prog 0 (.loop 0 [1, 3] f_R29_Valid_l0) [(1, .rptr [.int .i64 nx, .sl (L.map Line.cells)]), (3, .int .i64 pre.length)] [] =
      brk (rise nx last rest) (some (.exit 0, [(1, .rptr [.int .i64 nx, .sl (L.map Line.cells)]), (3, .int .i64 L.length), (23, .bool false)], []))
        (some (.ret, [(2, .bool false)], []))
  | [], pre, last, hp, h1, h2 => by
    have hlen : pre.length = L.length := by simp [hp]
    rw [Run_loop]
    simp only [f_R29_Valid_l0_eq, f_R29_Valid_l0u, rise, hlen, go_sem]
  | x :: rest, pre, last, hp, h1, h2 => by
    have ih := R29_Valid_l0 nx L hL rest (pre ++ [x]) x.n (by simpa using hp) (by simp) (by intro p y h; simp at h; rw [h.2])
    have hlen : L.length = pre.length + (rest.length + 1) := by simp [hp]
    simp only [List.length_append, List.length_cons, List.length_nil, Nat.zero_add, Int.natCast_add, Int.cast_ofNat_Int] at ih
    rw [Run_loop]
    have hw : IntKind.wrap .i64 ((pre.length : Int) + 1) = pre.length + 1 := wrap_i64 (by omega) (by omega)
    have hx := getE_at hp
    have hc : decide ((pre.length : Int) < L.length) = true := by simp; omega
    rcases List.eq_nil_or_concat pre with h0 | ⟨p, y, h0⟩
    · have hl := h1 h0
      have hz : decide ((0:Int) < pre.length) = false := by simp [h0]
      simp only [f_R29_Valid_l0_eq, f_R29_Valid_l0u, hw, hx, hc, hz, ih, go_sem]
      repeat' (first
        | (refine grd_split (fun h => ?_) (fun h => ?_) <;> simp only [h, hw, hx, hc, hz, ih, go_sem])
        | (refine condR_split (fun h => ?_) (fun h => ?_) <;> simp only [h, hw, hx, hc, hz, ih, go_sem])
        | (refine grdD_split (fun h => ?_) (fun h => ?_) <;> simp only [h, hw, hx, hc, hz, ih, go_sem])
        | (refine brk_split (fun h => ?_) (fun h => ?_) <;> simp only [h, hw, hx, hc, hz, ih, go_sem])
        | (refine pickV_split (fun h => ?_) (fun h => ?_) <;> simp only [h, hw, hx, hc, hz, ih, go_sem]))
      all_goals clear ih hw hx
      all_goals simp only [decide_eq_true_eq, decide_eq_false_iff_not] at *
      all_goals first | (rw [rise, if_pos (by omega)]; simp only [brk_false]) | (rw [rise, if_neg (by omega)])
    · have hl := h2 p y (by simpa using h0)
      have hg : getE L (IntKind.wrap .i64 (pre.length - 1)) = some y := by
        rw [wrap_i64 (by omega) (by omega)]
        exact getE_prev (p := p) (r := x :: rest) (by rw [hp, h0]; simp) (by rw [h0]; simp)
      have hz : decide ((0:Int) < pre.length) = true := by simp [h0]
      simp only [f_R29_Valid_l0_eq, f_R29_Valid_l0u, hw, hx, hc, hz, hg, ih, go_sem]
      repeat' (first
        | (refine grd_split (fun h => ?_) (fun h => ?_) <;> simp only [h, hw, hx, hc, hz, hg, ih, go_sem])
        | (refine condR_split (fun h => ?_) (fun h => ?_) <;> simp only [h, hw, hx, hc, hz, hg, ih, go_sem])
        | (refine grdD_split (fun h => ?_) (fun h => ?_) <;> simp only [h, hw, hx, hc, hz, hg, ih, go_sem])
        | (refine brk_split (fun h => ?_) (fun h => ?_) <;> simp only [h, hw, hx, hc, hz, hg, ih, go_sem])
        | (refine pickV_split (fun h => ?_) (fun h => ?_) <;> simp only [h, hw, hx, hc, hz, hg, ih, go_sem]))
      all_goals clear ih hw hx hg
      all_goals simp only [decide_eq_true_eq, decide_eq_false_iff_not] at *
      all_goals first | (rw [rise, if_pos (by omega)]; simp only [brk_false]) | (rw [rise, if_neg (by omega)])
/-- L1. -/
def valid (t : Table) : Bool := if t.next < 0 ∨ 4611686018427387904 < t.next ∨ 4096 < t.l.length then false else rise t.next (-1) t.l
theorem R29_Valid (t : Table) (hL : t.l.length < 1000000000000000) : Den prog 29 [.agg (Table.cells t)] [] = some (.bool (valid t), []) := by
  have hl := R29_Valid_l0 t.next t.l hL t.l [] (-1) rfl (fun _ => rfl) (by simp)
  simp only [List.length_nil, Int.natCast_zero] at hl
  rw [Den_ofK [] pr_R29_Valid rfl]
  simp only [f_R29_Valid, hl, go_sem]
  repeat' (first
    | (refine grd_split (fun h => ?_) (fun h => ?_) <;> simp only [h, hl, go_sem])
    | (refine condR_split (fun h => ?_) (fun h => ?_) <;> simp only [h, hl, go_sem])
    | (refine grdD_split (fun h => ?_) (fun h => ?_) <;> simp only [h, hl, go_sem])
    | (refine brk_split (fun h => ?_) (fun h => ?_) <;> simp only [h, hl, go_sem])
    | (refine pickV_split (fun h => ?_) (fun h => ?_) <;> simp only [h, hl, go_sem]))
  all_goals clear hl
  all_goals simp only [decide_eq_true_eq, decide_eq_false_iff_not] at *
  all_goals first | (rw [valid, if_pos (by omega)]; done) | (rw [valid, if_neg (by omega)]; simp only [*]; done)

theorem bool_eq_iff {a b : Bool} (h : a = true ↔ b = true) : a = b := by cases a <;> cases b <;> simp_all
theorem eqcell (a b : Cell) : (decide (a.id = b.id) && ((a.v.null == b.v.null) && (decide (a.v.n = b.v.n) && decide (a.v.s = b.v.s)))) = decide (a = b) := by
  obtain ⟨i, ⟨n, k, s⟩⟩ := a
  obtain ⟨i', ⟨n', k', s'⟩⟩ := b
  apply bool_eq_iff
  simp
theorem slices_Equal_l0 (A B : List Cell) (hl : A.length = B.length) (hL : A.length < 1000000000000000) : ∀ (r s p q : List Cell), A = p ++ r → B = q ++ s → p.length = q.length → p = q →
    Run prog 0 (.loop 0 [0, 1, 12, 13] f_slices_Equal_api_Cell_api_Cell_l0) [(0, .sl (A.map Cell.cells)), (1, .sl (B.map Cell.cells)), (12, .int .i64 A.length), (13, .int .i64 p.length)] [] =
      brk (decide (A = B)) (some (.exit 0, [(0, .sl (A.map Cell.cells)), (1, .sl (B.map Cell.cells)), (12, .int .i64 A.length), (13, .int .i64 A.length), (14, .bool false)], [])) (some (.ret, [(4, .bool false)], []))
  | [], s, p, q, hp, hq, hpq, he => by
    have hlen : p.length = A.length := by simp [hp]
    have hs : s = [] := by
      have : s.length = 0 := by have := congrArg List.length hq; simp at this; omega
      simpa using this
    have hab : decide (A = B) = true := by simp [hp, hq, hs, he]
    rw [Run_loop]
    simp only [f_slices_Equal_api_Cell_api_Cell_l0_eq, f_slices_Equal_api_Cell_api_Cell_l0u, hlen, hab, go_sem]
  | x :: r, [], p, q, hp, hq, hpq, he => by
    exfalso
    have h1 := congrArg List.length hp
    have h2 := congrArg List.length hq
    simp at h1 h2; omega
  | x :: r, y :: s, p, q, hp, hq, hpq, he => by
    have hlen := congrArg List.length hp
    simp only [List.length_append, List.length_cons] at hlen
    have hw : IntKind.wrap .i64 ((p.length : Int) + 1) = p.length + 1 := wrap_i64 (by omega) (by omega)
    have hx := getE_at hp
    have hy : getE B (p.length : Int) = some y := by rw [hpq]; exact getE_at hq
    have hc : decide ((p.length : Int) < A.length) = true := by simp; omega
    have hcell := eqcell x y
    by_cases hxy : x = y
    · have ih := slices_Equal_l0 A B hl hL r s (p ++ [x]) (q ++ [y]) (by simpa using hp) (by simpa using hq) (by simpa using hpq) (by rw [he, hxy])
      simp only [List.length_append, List.length_cons, List.length_nil, Nat.zero_add, Int.natCast_add, Int.cast_ofNat_Int] at ih
      have hd : decide (x = y) = true := by simpa using hxy
      rw [Run_loop]
      simp only [f_slices_Equal_api_Cell_api_Cell_l0_eq, f_slices_Equal_api_Cell_api_Cell_l0u, hw, hx, hy, hc, hcell, hd, Bool.not_true, ih, go_sem]
    · have hd : decide (x = y) = false := by simpa using hxy
      have hab : decide (A = B) = false := by
        simp only [decide_eq_false_iff_not]
        intro h
        rw [hp, hq, he] at h
        simp at h
        exact hxy h.1
      rw [Run_loop]
      simp only [f_slices_Equal_api_Cell_api_Cell_l0_eq, f_slices_Equal_api_Cell_api_Cell_l0u, hw, hx, hy, hc, hcell, hd, hab, Bool.not_false, go_sem]
@[go_sem] theorem slices_Equal (A B : List Cell) (hL : A.length < 1000000000000000) : Den prog 1 [.sl (A.map Cell.cells), .sl (B.map Cell.cells)] [] = some (.bool (decide (A = B)), []) := by
  rw [Den_ofK [] pr_slices_Equal_api_Cell_api_Cell rfl]
  by_cases hl : A.length = B.length
  · have h := slices_Equal_l0 A B hl hL A B [] [] rfl rfl rfl rfl
    simp only [List.length_nil, Int.natCast_zero] at h
    have hd : decide ((A.length : Int) = B.length) = true := by rw [decide_eq_true_eq]; omega
    simp only [f_slices_Equal_api_Cell_api_Cell, h, hd, Bool.not_true, go_sem]
    repeat' (first
      | (refine grd_split (fun h => ?_) (fun h => ?_) <;> simp only [h, h, go_sem])
      | (refine condR_split (fun h => ?_) (fun h => ?_) <;> simp only [h, h, go_sem])
      | (refine grdD_split (fun h => ?_) (fun h => ?_) <;> simp only [h, h, go_sem])
      | (refine brk_split (fun h => ?_) (fun h => ?_) <;> simp only [h, h, go_sem])
      | (refine pickV_split (fun h => ?_) (fun h => ?_) <;> simp only [h, h, go_sem]))
  · have hd : decide ((A.length : Int) = B.length) = false := by simp; omega
    have hab : decide (A = B) = false := by simp only [decide_eq_false_iff_not]; intro h; exact hl (by rw [h])
    simp only [f_slices_Equal_api_Cell_api_Cell, hd, hab, Bool.not_false, go_sem]
end Go.Den

/-! Ch. 29: rows and tables. -/
namespace Go.Den
open Go
set_option linter.unusedSimpArgs false
set_option linter.unusedVariables false
set_option maxRecDepth 100000
set_option maxHeartbeats 1000000
@[go_sem] theorem lineage_equal (A B : List Cell) (hL : A.length < 1000000000000000) : Den prog 2 [.agg [.sl (A.map Cell.cells)], .agg [.sl (B.map Cell.cells)]] [] = some (.bool (decide (A = B)), []) := by
  rw [Den_ofK [] pr_lineage_equal rfl]
  simp only [f_lineage_equal, hL, go_sem]
theorem SameRow_l0 (A B : List Cell) (hl : A.length = B.length) (hL : A.length < 1000000000000000) : ∀ (r s p q : List Cell), A = p ++ r → B = q ++ s → p.length = q.length → p = q →
    Run prog 0 (.loop 0 [2, 3, 5] f_R06_SameRow_l0) [(2, .rptr [.sl (A.map Cell.cells)]), (3, .rptr [.sl (B.map Cell.cells)]), (5, .int .i64 p.length)] [] =
      brk (decide (A = B)) (some (.exit 0, [(2, .rptr [.sl (A.map Cell.cells)]), (3, .rptr [.sl (B.map Cell.cells)]), (5, .int .i64 A.length), (17, .bool false)], [])) (some (.ret, [(4, .bool false)], []))
  | [], s, p, q, hp, hq, hpq, he => by
    have hlen : p.length = A.length := by simp [hp]
    have hs : s = [] := by
      have : s.length = 0 := by have := congrArg List.length hq; simp at this; omega
      simpa using this
    have hab : decide (A = B) = true := by simp [hp, hq, hs, he]
    rw [Run_loop]
    simp only [f_R06_SameRow_l0_eq, f_R06_SameRow_l0u, hlen, hab, go_sem]
  | x :: r, [], p, q, hp, hq, hpq, he => by
    exfalso
    have h1 := congrArg List.length hp
    have h2 := congrArg List.length hq
    simp at h1 h2; omega
  | x :: r, y :: s, p, q, hp, hq, hpq, he => by
    have hlen := congrArg List.length hp
    simp only [List.length_append, List.length_cons] at hlen
    have hw : IntKind.wrap .i64 ((p.length : Int) + 1) = p.length + 1 := wrap_i64 (by omega) (by omega)
    have hx := getE_at hp
    have hy : getE B (p.length : Int) = some y := by rw [hpq]; exact getE_at hq
    have hc : decide ((p.length : Int) < A.length) = true := by simp; omega
    have hcell := eqcell x y
    by_cases hxy : x = y
    · have ih := SameRow_l0 A B hl hL r s (p ++ [x]) (q ++ [y]) (by simpa using hp) (by simpa using hq) (by simpa using hpq) (by rw [he, hxy])
      simp only [List.length_append, List.length_cons, List.length_nil, Nat.zero_add, Int.natCast_add, Int.cast_ofNat_Int] at ih
      have hd : decide (x = y) = true := by simpa using hxy
      rw [Run_loop]
      simp only [f_R06_SameRow_l0_eq, f_R06_SameRow_l0u, hw, hx, hy, hc, hcell, hd, ih, go_sem]
    · have hd : decide (x = y) = false := by simpa using hxy
      have hab : decide (A = B) = false := by
        simp only [decide_eq_false_iff_not]
        intro h
        rw [hp, hq, he] at h
        simp at h
        exact hxy h.1
      rw [Run_loop]
      simp only [f_R06_SameRow_l0_eq, f_R06_SameRow_l0u, hw, hx, hy, hc, hcell, hd, hab, go_sem]
@[go_sem] theorem R06_SameRow (A B : List Cell) (hL : A.length < 1000000000000000) : Den prog 12 [.agg [.sl (A.map Cell.cells)], .agg [.sl (B.map Cell.cells)]] [] = some (.bool (decide (A = B)), []) := by
  rw [Den_ofK [] pr_R06_SameRow rfl]
  by_cases hl : A.length = B.length
  · have h := SameRow_l0 A B hl hL A B [] [] rfl rfl rfl rfl
    simp only [List.length_nil, Int.natCast_zero] at h
    have hd : decide ((A.length : Int) = B.length) = true := by rw [decide_eq_true_eq]; omega
    simp only [f_R06_SameRow, h, hd, go_sem]
    repeat' (first
      | (refine grd_split (fun h => ?_) (fun h => ?_) <;> simp only [h, h, go_sem])
      | (refine condR_split (fun h => ?_) (fun h => ?_) <;> simp only [h, h, go_sem])
      | (refine grdD_split (fun h => ?_) (fun h => ?_) <;> simp only [h, h, go_sem])
      | (refine brk_split (fun h => ?_) (fun h => ?_) <;> simp only [h, h, go_sem])
      | (refine pickV_split (fun h => ?_) (fun h => ?_) <;> simp only [h, h, go_sem]))
  · have hd : decide ((A.length : Int) = B.length) = false := by simp; omega
    have hab : decide (A = B) = false := by simp only [decide_eq_false_iff_not]; intro h; exact hl (by rw [h])
    simp only [f_R06_SameRow, hd, hab, go_sem]
theorem lineage_Valid_l0 {β : Type} {K : Ex × Env × St → Option β} {Z : Option β} (nx : Int) (L : List Line) (hL : L.length < 1000000000000000) : ∀ (rest pre : List Line) (last : Int), L = pre ++ rest → -1 ≤ last →
    (rise nx last rest = true → ∀ l, K (.exit 0, [(1, .rptr [.int .i64 nx, .sl (L.map Line.cells)]), (3, .int .i64 l), (21, .sl (L.map Line.cells)), (22, .int .i64 L.length), (23, .int .i64 L.length), (24, .bool false)], []) = Z) →
    (rise nx last rest = false → ∀ s, K (.ret, [(2, .bool false)], s) = Z) →
    (Run prog 0 (.loop 0 [1, 3, 21, 22, 23] f_lineage_Valid_l0) [(1, .rptr [.int .i64 nx, .sl (L.map Line.cells)]), (3, .int .i64 last), (21, .sl (L.map Line.cells)), (22, .int .i64 L.length), (23, .int .i64 pre.length)] []).bind K = Z
  | [], pre, last, hp, h1, k1, k0 => by
    have hlen : pre.length = L.length := by simp [hp]
    have k := k1 rfl last
    rw [Run_loop]
    simp only [f_lineage_Valid_l0_eq, f_lineage_Valid_l0u, hlen, k, go_sem]
  | x :: rest, pre, last, hp, h1, k1, k0 => by
    have hlen := congrArg List.length hp
    simp only [List.length_append, List.length_cons] at hlen
    have hw : IntKind.wrap .i64 ((pre.length : Int) + 1) = pre.length + 1 := wrap_i64 (by omega) (by omega)
    have hx := getE_at hp
    have hc : decide ((pre.length : Int) < L.length) = true := by simp; omega
    rw [Run_loop]
    simp only [f_lineage_Valid_l0_eq, f_lineage_Valid_l0u, hw, hx, hc, go_sem]
    repeat' (first
      | (refine grd_split (fun h => ?_) (fun h => ?_) <;> simp only [h, hw, hx, hc, go_sem])
      | (refine condR_split (fun h => ?_) (fun h => ?_) <;> simp only [h, hw, hx, hc, go_sem])
      | (refine grdD_split (fun h => ?_) (fun h => ?_) <;> simp only [h, hw, hx, hc, go_sem])
      | (refine brk_split (fun h => ?_) (fun h => ?_) <;> simp only [h, hw, hx, hc, go_sem])
      | (refine pickV_split (fun h => ?_) (fun h => ?_) <;> simp only [h, hw, hx, hc, go_sem]))
    all_goals simp only [decide_eq_true_eq, decide_eq_false_iff_not] at *
    · exact k0 (by rw [rise, if_pos (by omega)]) _
    · exact k0 (by rw [rise, if_pos (by omega)]) _
    · have e : rise nx last (x :: rest) = rise nx x.n rest := by rw [rise, if_neg (by omega)]
      rw [e] at k1 k0
      have ih := lineage_Valid_l0 nx L hL rest (pre ++ [x]) x.n (by simpa using hp) (by omega) k1 k0
      simpa only [List.length_append, List.length_cons, List.length_nil, Nat.zero_add, Int.natCast_add, Int.cast_ofNat_Int] using ih
@[go_sem] theorem lineage_Valid (t : Table) (hL : t.l.length < 1000000000000000) : Den prog 5 [.agg [.int .i64 t.next, .sl (t.l.map Line.cells)]] [] = some (.bool (valid t), []) := by
  rw [Den_ofK [] pr_lineage_Valid rfl]
  simp only [f_lineage_Valid, go_sem]
  repeat' (first
    | (refine grd_split (fun h => ?_) (fun h => ?_) <;> simp only [h, go_sem])
    | (refine condR_split (fun h => ?_) (fun h => ?_) <;> simp only [h, go_sem])
    | (refine grdD_split (fun h => ?_) (fun h => ?_) <;> simp only [h, go_sem])
    | (refine brk_split (fun h => ?_) (fun h => ?_) <;> simp only [h, go_sem])
    | (refine pickV_split (fun h => ?_) (fun h => ?_) <;> simp only [h, go_sem]))
  all_goals simp only [decide_eq_true_eq, decide_eq_false_iff_not] at *
  · rw [valid, if_pos (by omega)]
  · rw [valid, if_pos (by omega)]
  · rw [valid, if_pos (by omega)]
  · refine lineage_Valid_l0 t.next t.l hL t.l [] (-1) rfl (by omega) (fun h l => ?_) (fun h s => ?_)
    · rw [valid, if_neg (by omega), h]
      simp only [go_sem]
    · rw [valid, if_neg (by omega), h]
      simp only [go_sem]
end Go.Den

/-! Ch. 29: feeds. -/
namespace Go.Den
open Go
set_option linter.unusedSimpArgs false
set_option linter.unusedVariables false
set_option maxRecDepth 100000
set_option maxHeartbeats 1000000
/-- A list of events is a feed; p comes ahead of it. -/
def feedOk : Option Event → List Event → Bool
  | _, [] => true
  | none, x :: r => if (x.kind ≠ 1 ∧ x.kind ≠ 2) ∨ x.l.n < 0 ∨ 4611686018427387904 ≤ x.l.n then false else feedOk (some x) r
  | some y, x :: r => if (x.kind ≠ 1 ∧ x.kind ≠ 2) ∨ x.l.n < 0 ∨ 4611686018427387904 ≤ x.l.n then false else
      if y.l.n < x.l.n then feedOk (some x) r else if x.l.n < y.l.n ∨ y.kind ≠ 2 ∨ x.kind ≠ 1 ∨ x.l.r = y.l.r then false else feedOk (some x) r
theorem not_dec {p : Prop} [Decidable p] : (!decide p) = true ↔ ¬ p := by simp
theorem not_decf {p : Prop} [Decidable p] : (!decide p) = false ↔ p := by simp
theorem lineage_isFeed_l0 {β : Type} {K : Ex × Env × St → Option β} {Z : Option β} (L : List Event) (hL : L.length < 1000000000000000) (hR : ∀ e ∈ L, e.l.r.length < 1000000000000000) : ∀ (rest pre : List Event) (p : Option Event), L = pre ++ rest → p = pre.getLast? →
    (feedOk p rest = true → K (.exit 0, [(0, .sl (L.map Event.cells)), (6, .sl (L.map Event.cells)), (7, .int .i64 L.length), (8, .int .i64 L.length), (9, .bool false)], []) = Z) →
    (feedOk p rest = false → ∀ s, K (.ret, [(2, .bool false)], s) = Z) →
    (Run prog 0 (.loop 0 [0, 6, 7, 8] f_lineage_isFeed_l0) [(0, .sl (L.map Event.cells)), (6, .sl (L.map Event.cells)), (7, .int .i64 L.length), (8, .int .i64 pre.length)] []).bind K = Z
  | [], pre, p, hp, h1, k1, k0 => by
    have hlen : pre.length = L.length := by simp [hp]
    have k := k1 (by cases p <;> rfl)
    rw [Run_loop]
    simp only [f_lineage_isFeed_l0_eq, f_lineage_isFeed_l0u, hlen, k, go_sem]
  | x :: rest, pre, p, hp, h1, k1, k0 => by
    have hlen := congrArg List.length hp
    simp only [List.length_append, List.length_cons] at hlen
    have hw : IntKind.wrap .i64 ((pre.length : Int) + 1) = pre.length + 1 := wrap_i64 (by omega) (by omega)
    have hx := getE_at hp
    have hc : decide ((pre.length : Int) < L.length) = true := by simp; omega
    have hxr := hR x (by rw [hp]; simp)
    have ih := lineage_isFeed_l0 (K := K) (Z := Z) L hL hR rest (pre ++ [x]) (some x) (by simpa using hp) (by simp)
    simp only [List.length_append, List.length_cons, List.length_nil, Nat.zero_add, Int.natCast_add, Int.cast_ofNat_Int] at ih
    rw [Run_loop]
    rcases List.eq_nil_or_concat pre with h0 | ⟨q, y, h0⟩
    · have hz : decide ((pre.length : Int) = 0) = true := by simp [h0]
      have hp0 : p = none := by rw [h1, h0]; rfl
      subst hp0
      simp only [f_lineage_isFeed_l0_eq, f_lineage_isFeed_l0u, hw, hx, hc, hz, go_sem]
      repeat' (first
        | (refine grd_split (fun h => ?_) (fun h => ?_) <;> simp only [h, hw, hx, hc, hz, go_sem])
        | (refine condR_split (fun h => ?_) (fun h => ?_) <;> simp only [h, hw, hx, hc, hz, go_sem])
        | (refine grdD_split (fun h => ?_) (fun h => ?_) <;> simp only [h, hw, hx, hc, hz, go_sem])
        | (refine brk_split (fun h => ?_) (fun h => ?_) <;> simp only [h, hw, hx, hc, hz, go_sem])
        | (refine pickV_split (fun h => ?_) (fun h => ?_) <;> simp only [h, hw, hx, hc, hz, go_sem]))
      all_goals simp only [not_dec, not_decf, decide_eq_true_eq, decide_eq_false_iff_not] at *
      all_goals first
        | exact k0 (by rw [feedOk, if_pos (by omega)]) _
        | exact ih (fun h => k1 (by rw [feedOk, if_neg (by omega)]; exact h)) (fun h => k0 (by rw [feedOk, if_neg (by omega)]; exact h))
    · have hz : decide ((pre.length : Int) = 0) = false := by rw [decide_eq_false_iff_not, h0]; simp; omega
      have hp0 : p = some y := by rw [h1, h0]; simp
      have hg : getE L (IntKind.wrap .i64 (pre.length - 1)) = some y := by
        rw [wrap_i64 (by omega) (by omega)]
        exact getE_prev (p := q) (r := x :: rest) (by rw [hp, h0]; simp) (by rw [h0]; simp)
      subst hp0
      simp only [f_lineage_isFeed_l0_eq, f_lineage_isFeed_l0u, hw, hx, hc, hz, hg, hxr, go_sem]
      repeat' (first
        | (refine grd_split (fun h => ?_) (fun h => ?_) <;> simp only [h, hw, hx, hc, hz, hg, hxr, go_sem])
        | (refine condR_split (fun h => ?_) (fun h => ?_) <;> simp only [h, hw, hx, hc, hz, hg, hxr, go_sem])
        | (refine grdD_split (fun h => ?_) (fun h => ?_) <;> simp only [h, hw, hx, hc, hz, hg, hxr, go_sem])
        | (refine brk_split (fun h => ?_) (fun h => ?_) <;> simp only [h, hw, hx, hc, hz, hg, hxr, go_sem])
        | (refine pickV_split (fun h => ?_) (fun h => ?_) <;> simp only [h, hw, hx, hc, hz, hg, hxr, go_sem]))
      all_goals simp only [not_dec, not_decf, decide_eq_true_eq, decide_eq_false_iff_not] at *
      all_goals clear hw hx hg hp h1
      all_goals first
        | exact k0 (by rw [feedOk, if_pos (by omega)]) _
        | exact ih (fun h => k1 (by rw [feedOk, if_neg (by omega), if_pos (by omega)]; exact h)) (fun h => k0 (by rw [feedOk, if_neg (by omega), if_pos (by omega)]; exact h))
        | exact k0 (by rw [feedOk, if_neg (by omega), if_neg (by omega), if_pos (by grind)]) _
        | exact ih (fun h => k1 (by rw [feedOk, if_neg (by omega), if_neg (by omega), if_neg (by grind)]; exact h)) (fun h => k0 (by rw [feedOk, if_neg (by omega), if_neg (by omega), if_neg (by grind)]; exact h))
@[go_sem] theorem lineage_isFeed (L : List Event) (hL : L.length < 1000000000000000) (hR : ∀ e ∈ L, e.l.r.length < 1000000000000000) : Den prog 6 [.sl (L.map Event.cells)] [] = some (.bool (feedOk none L), []) := by
  rw [Den_ofK [] pr_lineage_isFeed rfl]
  simp only [f_lineage_isFeed, go_sem]
  refine lineage_isFeed_l0 L hL hR L [] none rfl rfl (fun h => ?_) (fun h s => ?_)
  · simp only [h, go_sem]
  · simp only [h, go_sem]
theorem R29_IsFeed_l0 {β : Type} {K : Ex × Env × St → Option β} {Z : Option β} (L : List Event) (hL : L.length < 1000000000000000) (hR : ∀ e ∈ L, e.l.r.length < 1000000000000000) : ∀ (rest pre : List Event) (p : Option Event), L = pre ++ rest → p = pre.getLast? →
    (feedOk p rest = true → K (.exit 0, [(0, .sl (L.map Event.cells)), (3, .int .i64 L.length), (9, .bool false)], []) = Z) →
    (feedOk p rest = false → ∀ s, K (.ret, [(2, .bool false)], s) = Z) →
    (Run prog 0 (.loop 0 [0, 3] f_R29_IsFeed_l0) [(0, .sl (L.map Event.cells)), (3, .int .i64 pre.length)] []).bind K = Z
  | [], pre, p, hp, h1, k1, k0 => by
    have hlen : pre.length = L.length := by simp [hp]
    have k := k1 (by cases p <;> rfl)
    rw [Run_loop]
    simp only [f_R29_IsFeed_l0_eq, f_R29_IsFeed_l0u, hlen, k, go_sem]
  | x :: rest, pre, p, hp, h1, k1, k0 => by
    have hlen := congrArg List.length hp
    simp only [List.length_append, List.length_cons] at hlen
    have hw : IntKind.wrap .i64 ((pre.length : Int) + 1) = pre.length + 1 := wrap_i64 (by omega) (by omega)
    have hx := getE_at hp
    have hc : decide ((pre.length : Int) < L.length) = true := by simp; omega
    have hxr := hR x (by rw [hp]; simp)
    have hyr : ∀ y ∈ pre, y.l.r.length < 1000000000000000 := fun y hy => hR y (by rw [hp]; simp [hy])
    have ih := R29_IsFeed_l0 (K := K) (Z := Z) L hL hR rest (pre ++ [x]) (some x) (by simpa using hp) (by simp)
    simp only [List.length_append, List.length_cons, List.length_nil, Nat.zero_add, Int.natCast_add, Int.cast_ofNat_Int] at ih
    rw [Run_loop]
    rcases List.eq_nil_or_concat pre with h0 | ⟨q, y, h0⟩
    · have hz : decide ((pre.length : Int) = 0) = true := by simp [h0]
      have hp0 : p = none := by rw [h1, h0]; rfl
      subst hp0
      simp only [f_R29_IsFeed_l0_eq, f_R29_IsFeed_l0u, hw, hx, hc, hz, go_sem]
      repeat' (first
        | (refine grd_split (fun h => ?_) (fun h => ?_) <;> simp only [h, hw, hx, hc, hz, go_sem])
        | (refine condR_split (fun h => ?_) (fun h => ?_) <;> simp only [h, hw, hx, hc, hz, go_sem])
        | (refine grdD_split (fun h => ?_) (fun h => ?_) <;> simp only [h, hw, hx, hc, hz, go_sem])
        | (refine brk_split (fun h => ?_) (fun h => ?_) <;> simp only [h, hw, hx, hc, hz, go_sem])
        | (refine pickV_split (fun h => ?_) (fun h => ?_) <;> simp only [h, hw, hx, hc, hz, go_sem]))
      all_goals simp only [not_dec, not_decf, decide_eq_true_eq, decide_eq_false_iff_not] at *
      all_goals first
        | exact k0 (by rw [feedOk, if_pos (by omega)]) _
        | exact ih (fun h => k1 (by rw [feedOk, if_neg (by omega)]; exact h)) (fun h => k0 (by rw [feedOk, if_neg (by omega)]; exact h))
    · have hz : decide ((pre.length : Int) = 0) = false := by rw [decide_eq_false_iff_not, h0]; simp; omega
      have hxr := hyr y (by rw [h0]; simp)
      have hp0 : p = some y := by rw [h1, h0]; simp
      have hg : getE L (IntKind.wrap .i64 (pre.length - 1)) = some y := by
        rw [wrap_i64 (by omega) (by omega)]
        exact getE_prev (p := q) (r := x :: rest) (by rw [hp, h0]; simp) (by rw [h0]; simp)
      subst hp0
      simp only [f_R29_IsFeed_l0_eq, f_R29_IsFeed_l0u, hw, hx, hc, hz, hg, hxr, go_sem]
      repeat' (first
        | (refine grd_split (fun h => ?_) (fun h => ?_) <;> simp only [h, hw, hx, hc, hz, hg, hxr, go_sem])
        | (refine condR_split (fun h => ?_) (fun h => ?_) <;> simp only [h, hw, hx, hc, hz, hg, hxr, go_sem])
        | (refine grdD_split (fun h => ?_) (fun h => ?_) <;> simp only [h, hw, hx, hc, hz, hg, hxr, go_sem])
        | (refine brk_split (fun h => ?_) (fun h => ?_) <;> simp only [h, hw, hx, hc, hz, hg, hxr, go_sem])
        | (refine pickV_split (fun h => ?_) (fun h => ?_) <;> simp only [h, hw, hx, hc, hz, hg, hxr, go_sem]))
      all_goals simp only [not_dec, not_decf, decide_eq_true_eq, decide_eq_false_iff_not] at *
      all_goals clear hw hx hg hp h1
      all_goals first
        | exact k0 (by rw [feedOk, if_pos (by omega)]) _
        | exact ih (fun h => k1 (by rw [feedOk, if_neg (by omega), if_pos (by omega)]; exact h)) (fun h => k0 (by rw [feedOk, if_neg (by omega), if_pos (by omega)]; exact h))
        | exact k0 (by rw [feedOk, if_neg (by omega), if_neg (by omega), if_pos (by grind)]) _
        | exact ih (fun h => k1 (by rw [feedOk, if_neg (by omega), if_neg (by omega), if_neg (by grind)]; exact h)) (fun h => k0 (by rw [feedOk, if_neg (by omega), if_neg (by omega), if_neg (by grind)]; exact h))
@[go_sem] theorem R29_IsFeed (L : List Event) (hL : L.length < 1000000000000000) (hR : ∀ e ∈ L, e.l.r.length < 1000000000000000) : Den prog 30 [.sl (L.map Event.cells)] [] = some (.bool (feedOk none L), []) := by
  rw [Den_ofK [] pr_R29_IsFeed rfl]
  simp only [f_R29_IsFeed, go_sem]
  refine R29_IsFeed_l0 L hL hR L [] none rfl rfl (fun h => ?_) (fun h s => ?_)
  · simp only [h, go_sem]
  · simp only [h, go_sem]
end Go.Den

/-! Ch. 29: items. -/
namespace Go.Den
open Go
set_option linter.unusedSimpArgs false
set_option linter.unusedVariables false
set_option maxRecDepth 100000
set_option maxHeartbeats 1000000
/-- What a feed does to a number: the rows before and after; none: absent. -/
structure Item where
  n : Int
  b : Option (List Cell)
  a : Option (List Cell)
deriving DecidableEq
def ptrc : Option (List Cell) → AV
  | none => .nilp
  | some r => .rptr [.sl (r.map Cell.cells)]
def Item.cells (i : Item) : List AV := [.int .i64 i.n, ptrc i.b, ptrc i.a]
attribute [go_sem] Item.cells
@[go_sem] theorem ptrc_none : ptrc none = .nilp := (rfl)
@[go_sem] theorem ptrc_some (r : List Cell) : ptrc (some r) = .rptr [.sl (r.map Cell.cells)] := (rfl)
@[go_sem] theorem ptrc_noref (o : Option (List Cell)) : (ptrc o).noref = true := by cases o <;> rfl
@[go_sem] theorem ptrc_norm (o : Option (List Cell)) : (ptrc o).norm = ptrc o := by cases o <;> rfl
@[go_sem] theorem ptrc_scalar (o : Option (List Cell)) : (ptrc o).scalar = true := by cases o <;> rfl
@[go_sem] theorem ptrc_cellsOf (o : Option (List Cell)) : (ptrc o).cellsOf = [ptrc o] := by cases o <;> rfl
@[go_sem] theorem ptrc_under (m : Nat) (o : Option (List Cell)) : (ptrc o).under m = true := by cases o <;> rfl
def Item.upd (y : Item) (x : Event) : Item := if x.kind = 2 then { y with b := some x.l.r } else { y with a := some x.l.r }
def addEv (out : List Item) (x : Event) : List Item := match out.getLast? with
  | some y => if y.n = x.l.n then out.dropLast ++ [y.upd x] else out ++ [Item.upd ⟨x.l.n, none, none⟩ x]
  | none => out ++ [Item.upd ⟨x.l.n, none, none⟩ x]
def itemsOf (out : List Item) : List Event → List Item
  | [] => out
  | x :: r => itemsOf (addEv out x) r
theorem addEv_len (out : List Item) (x : Event) : (addEv out x).length ≤ out.length + 1 := by
  unfold addEv
  split
  · split
    · simp
    · simp
  · simp
theorem lineage_items_l0 {β : Type} {K : Ex × Env × St → Option β} {Z : Option β} (L : List Event) (hL : L.length < 1000000000000) : ∀ (rest pre : List Event) (out : List Item), L = pre ++ rest → out.length ≤ pre.length →
    K (.exit 0, [(0, .sl (L.map Event.cells)), (3, .osl 0 0 (itemsOf out rest).length 0 (itemsOf out rest).length), (9, .int .i64 L.length), (10, .int .i64 L.length), (11, .bool false)], [.arr 0 3 ((itemsOf out rest).map Item.cells)]) = Z →
    (Run prog 0 (.loop 1 [0, 3, 9, 10] f_lineage_items_l0) [(0, .sl (L.map Event.cells)), (3, .osl 0 0 out.length 0 out.length), (9, .int .i64 L.length), (10, .int .i64 pre.length)] [.arr 0 3 (out.map Item.cells)]).bind K = Z
  | [], pre, out, hp, ho, k1 => by
    have hlen : pre.length = L.length := by simp [hp]
    rw [itemsOf] at k1
    rw [Run_loop]
    simp only [f_lineage_items_l0_eq, f_lineage_items_l0u, hlen, k1, go_sem]
  | x :: rest, pre, out, hp, ho, k1 => by
    have hlen := congrArg List.length hp
    simp only [List.length_append, List.length_cons] at hlen
    have hw : IntKind.wrap .i64 ((pre.length : Int) + 1) = pre.length + 1 := wrap_i64 (by omega) (by omega)
    have hx := getE_at hp
    have hc : decide ((pre.length : Int) < L.length) = true := by simp; omega
    have ih := lineage_items_l0 (K := K) (Z := Z) L hL rest (pre ++ [x]) (addEv out x) (by simpa using hp) (by have := addEv_len out x; simp; omega) (by rw [itemsOf] at k1; exact k1)
    simp only [List.length_append, List.length_cons, List.length_nil, Nat.zero_add, Int.natCast_add, Int.cast_ofNat_Int] at ih
    rw [Run_loop]
    rcases List.eq_nil_or_concat out with h0 | ⟨o, y, h0⟩
    · subst h0
      have hw2 : IntKind.wrap .i64 0 = 0 := rfl
      by_cases hk : x.kind = 2
      · have hkd : decide (x.kind = 2) = true := by simpa using hk
        simp only [addEv, List.getLast?_nil, Item.upd, hk, go_sem] at ih
        simp only [f_lineage_items_l0_eq, f_lineage_items_l0u, hw, hx, hc, hw2, hkd, go_sem]
        all_goals exact ih
      · have hkd : decide (x.kind = 2) = false := by simpa using hk
        simp only [addEv, List.getLast?_nil, Item.upd, hk, go_sem] at ih
        simp only [f_lineage_items_l0_eq, f_lineage_items_l0u, hw, hx, hc, hw2, hkd, go_sem]
        all_goals exact ih
    · rw [List.concat_eq_append] at h0
      by_cases hn : y.n = x.l.n
      · subst h0
        simp only [List.length_append, List.length_cons, List.length_nil, Nat.zero_add] at ho
        have hz : decide ((o.length : Int) + 1 = 0) = false := by simp; omega
        have hw1 : IntKind.wrap .i64 ((o.length : Int) + 1 - 1) = o.length := by rw [wrap_i64 (by omega) (by omega)]; omega
        have hi1 : (o.length : Int) < o.length + 1 := by omega
        have hnd : decide (y.n = x.l.n) = true := by simpa using hn
        by_cases hk : x.kind = 2
        · have hkd : decide (x.kind = 2) = true := by simpa using hk
          simp only [addEv, List.getLast?_append, List.getLast?_singleton, Option.or_some, Option.some_or, hn, List.dropLast_concat, Item.upd, hk, go_sem] at ih
          simp only [f_lineage_items_l0_eq, f_lineage_items_l0u, hw, hx, hc, hz, hw1, hi1, hnd, hkd, go_sem]
          all_goals first | exact ih | (rw [hn]; exact ih)
        · have hkd : decide (x.kind = 2) = false := by simpa using hk
          simp only [addEv, List.getLast?_append, List.getLast?_singleton, Option.or_some, Option.some_or, hn, List.dropLast_concat, Item.upd, hk, go_sem] at ih
          simp only [f_lineage_items_l0_eq, f_lineage_items_l0u, hw, hx, hc, hz, hw1, hi1, hnd, hkd, go_sem]
          all_goals first | exact ih | (rw [hn]; exact ih)
      · have hnd : decide (y.n = x.l.n) = false := by simpa using hn
        have hol : out.length = o.length + 1 := by simp [h0]
        have hlast : out.getLast? = some y := by simp [h0]
        have hz : decide ((out.length : Int) = 0) = false := by rw [decide_eq_false_iff_not]; omega
        have hw1 : IntKind.wrap .i64 ((out.length : Int) - 1) = o.length := by rw [wrap_i64 (by omega) (by omega)]; omega
        have hi1 : (o.length : Int) < out.length := by omega
        have hget : (out.map Item.cells)[o.length]? = some [.int .i64 y.n, ptrc y.b, ptrc y.a] := by simp [h0, Item.cells]
        have hw2 : IntKind.wrap .i64 ((out.length : Int) + 1 - 1) = out.length := by rw [wrap_i64 (by omega) (by omega)]; omega
        have hi2 : (out.length : Int) < out.length + 1 := by omega
        have hb : (out.length + 1) * 24 ≤ 140737488355328 := by omega
        clear h0
        by_cases hk : x.kind = 2
        · have hkd : decide (x.kind = 2) = true := by simpa using hk
          simp only [addEv, hlast, hn, Item.upd, hk, go_sem] at ih
          simp only [f_lineage_items_l0_eq, f_lineage_items_l0u, hw, hx, hc, hz, hw1, hi1, hget, hnd, hw2, hi2, hb, hkd, go_sem]
          all_goals first | exact ih | (rw [hn]; exact ih)
        · have hkd : decide (x.kind = 2) = false := by simpa using hk
          simp only [addEv, hlast, hn, Item.upd, hk, go_sem] at ih
          simp only [f_lineage_items_l0_eq, f_lineage_items_l0u, hw, hx, hc, hz, hw1, hi1, hget, hnd, hw2, hi2, hb, hkd, go_sem]
          all_goals first | exact ih | (rw [hn]; exact ih)
@[go_sem] theorem lineage_items (L : List Event) (hL : L.length < 1000000000000) : Den prog 7 [.sl (L.map Event.cells)] [] = some (.osl 0 0 (itemsOf [] L).length 0 (itemsOf [] L).length, [.arr 0 3 ((itemsOf [] L).map Item.cells)]) := by
  rw [Den_ofK [] pr_lineage_items rfl]
  simp only [f_lineage_items, go_sem]
  have h := fun K Z => lineage_items_l0 (β := AV × St) (K := K) (Z := Z) L hL L [] [] rfl (by simp)
  simp only [go_sem] at h
  refine h _ _ ?_
  simp only [go_sem]
end Go.Den

/-! Ch. 29: states, and the closures of Feed, Apply, Compose. -/
namespace Go.Den
open Go
set_option linter.unusedSimpArgs false
set_option linter.unusedVariables false
set_option maxRecDepth 100000
set_option maxHeartbeats 1000000
def lineP : Option Line → AV
  | none => .nilp
  | some l => .rptr [.int .i64 l.n, .sl (l.r.map Cell.cells)]
def itemP : Option Item → AV
  | none => .nilp
  | some i => .rptr [.int .i64 i.n, ptrc i.b, ptrc i.a]
@[go_sem] theorem lineP_none : lineP none = .nilp := (rfl)
@[go_sem] theorem lineP_some (l : Line) : lineP (some l) = .rptr [.int .i64 l.n, .sl (l.r.map Cell.cells)] := (rfl)
@[go_sem] theorem itemP_none : itemP none = .nilp := (rfl)
@[go_sem] theorem itemP_some (i : Item) : itemP (some i) = .rptr [.int .i64 i.n, ptrc i.b, ptrc i.a] := (rfl)
@[go_sem] theorem lineP_noref (o : Option Line) : (lineP o).noref = true := by cases o <;> rfl
@[go_sem] theorem lineP_norm (o : Option Line) : (lineP o).norm = lineP o := by cases o <;> rfl
@[go_sem] theorem itemP_noref (o : Option Item) : (itemP o).noref = true := by cases o <;> rfl
@[go_sem] theorem itemP_norm (o : Option Item) : (itemP o).norm = itemP o := by cases o <;> rfl
@[go_sem] theorem eqp_none (v : AV) (h : (match v with | .rptr _ => true | _ => false) = true) : eq2 .ptr v .nilp = some false := by
  cases v <;> first | rfl | (exact absurd h (by simp))
@[go_sem] theorem eqp_rptr (cs : List AV) : eq2 .ptr (.rptr cs) .nilp = some false := (rfl)
@[go_sem] theorem eqp_nil : eq2 .ptr .nilp .nilp = some true := (rfl)
@[go_sem] theorem eqp_ptrc (o : Option (List Cell)) : eq2 .ptr (ptrc o) .nilp = some o.isNone := by cases o <;> rfl
@[go_sem] theorem eqp_lineP (o : Option Line) : eq2 .ptr (lineP o) .nilp = some o.isNone := by cases o <;> rfl
@[go_sem] theorem eqp_itemP (o : Option Item) : eq2 .ptr (itemP o) .nilp = some o.isNone := by cases o <;> rfl
@[go_sem] theorem lineage_ofLine (n : Int) (r : AV) : Den prog 10 [.rptr [.int .i64 n, r]] [] = some (.int .i64 n, []) := by
  rw [Den_ofK [] pr_lineage_ofLine rfl]
  simp only [f_lineage_ofLine, go_sem]
@[go_sem] theorem lineage_ofItem (n : Int) (a b : AV) : Den prog 11 [.rptr [.int .i64 n, a, b]] [] = some (.int .i64 n, []) := by
  rw [Den_ofK [] pr_lineage_ofItem rfl]
  simp only [f_lineage_ofItem, go_sem]
theorem lineage_row (x : Option Line) : Den prog 3 [lineP x] [] = some (ptrc (x.map Line.r), []) := by
  rw [Den_ofK [] pr_lineage_row rfl]
  cases x <;> simp only [f_lineage_row, go_sem]
@[go_sem] theorem lineage_row_none : Den prog 3 [.nilp] [] = some (.nilp, []) := lineage_row none
@[go_sem] theorem lineage_row_some (n : Int) (r : List Cell) : Den prog 3 [.rptr [.int .i64 n, .sl (r.map Cell.cells)]] [] = some (.rptr [.sl (r.map Cell.cells)], []) := lineage_row (some ⟨n, r⟩)
def lenB (o : Option (List Cell)) : Prop := ∀ r, o = some r → r.length < 1000000000000000
theorem lineage_same (x y : Option (List Cell)) (hx : lenB x) : Den prog 4 [ptrc x, ptrc y] [] = some (.bool (decide (x = y)), []) := by
  rw [Den_ofK [] pr_lineage_same rfl]
  cases x with
  | none => cases y <;> simp only [f_lineage_same, reduceCtorEq, go_sem]
  | some r =>
    have := hx r rfl
    cases y with
    | none => simp only [f_lineage_same, reduceCtorEq, go_sem]
    | some s => simp only [f_lineage_same, this, Option.some.injEq, go_sem]
/-- The events that bring a number from one state to another. -/
def chg (n : Int) (b a : Option (List Cell)) : List Event := if b = a then [] else (match b with | some r => [⟨2, ⟨n, r⟩⟩] | none => []) ++ (match a with | some r => [⟨1, ⟨n, r⟩⟩] | none => [])
def eventsOf : List Item → List Event
  | [] => []
  | x :: r => chg x.n x.b x.a ++ eventsOf r
theorem mul40 {q : Nat} (h : q < 3000000000000) : q * 40 ≤ 140737488355328 := by omega
theorem mul24 {q : Nat} (h : q < 5000000000000) : q * 24 ≤ 140737488355328 := by omega
theorem mul32 {q : Nat} (h : q < 4000000000000) : q * 32 ≤ 140737488355328 := by omega
theorem chg_len (n : Int) (b a : Option (List Cell)) : (chg n b a).length ≤ 2 := by
  unfold chg; split
  · simp
  · cases b <;> cases a <;> simp
theorem lineage_events_l0 {β : Type} {K : Ex × Env × St → Option β} {Z : Option β} (L : List Item) (hL : L.length < 1000000000000) (hB : ∀ x ∈ L, lenB x.b)
    (h : K (.exit 0, [(3, .osl 0 0 (eventsOf L).length 0 (eventsOf L).length), (6, .sl (L.map Item.cells)), (7, .int .i64 L.length), (8, .int .i64 L.length), (9, .bool false)], [.arr 0 3 ((eventsOf L).map Event.cells)]) = Z) :
    (Run prog 0 (.loop 1 [3, 6, 7, 8] f_lineage_events_l0) [(3, .osl 0 0 0 0 0), (6, .sl (L.map Item.cells)), (7, .int .i64 L.length), (8, .int .i64 0)] [.arr 0 3 []]).bind K = Z := by
  have h0 := range_ind L (by omega) (fun i (out : List Event) => (Run prog 0 (.loop 1 [3, 6, 7, 8] f_lineage_events_l0) [(3, .osl 0 0 out.length 0 out.length), (6, .sl (L.map Item.cells)), (7, .int .i64 L.length), (8, .int .i64 i)] [.arr 0 3 (out.map Event.cells)]).bind K = Z)
    (fun i rest out => (out.length : Int) ≤ 2 * i ∧ K (.exit 0, [(3, .osl 0 0 (out ++ eventsOf rest).length 0 (out ++ eventsOf rest).length), (6, .sl (L.map Item.cells)), (7, .int .i64 L.length), (8, .int .i64 L.length), (9, .bool false)], [.arr 0 3 ((out ++ eventsOf rest).map Event.cells)]) = Z) ?_ ?_ [] ⟨by simp, h⟩
  · exact h0
  · intro out hg
    obtain ⟨_, hg⟩ := hg
    rw [eventsOf, List.append_nil] at hg
    rw [Run_loop]
    simp only [f_lineage_events_l0_eq, f_lineage_events_l0u, hg, go_sem]
  · intro i pre rest x out hp hi0 hi1 hi2 hx hc hw hg ih
    obtain ⟨hn, hg⟩ := hg
    have hxb := hB x (by rw [hp]; simp)
    have hsame := lineage_same x.b x.a hxb
    have ih := fun h1 => ih (out ++ chg x.n x.b x.a) ⟨h1, by rw [List.append_assoc]; exact hg⟩
    have ih := ih (by have h9 := chg_len x.n x.b x.a; clear hw hc hx hg ih hsame h hxb hB hp; rw [List.length_append]; generalize (chg x.n x.b x.a).length = q at *; omega)
    have hq : out.length < 2000000000000 := by clear hw hc hx hg ih hsame h hxb hB hp; omega
    have hb1 : (out.length + 1) * 40 ≤ 140737488355328 := mul40 (by clear hw hc hx hg ih hsame h hxb hB hp hi0 hi1 hi2 hn hL; omega)
    have hb2 : (out.length + 1 + 1) * 40 ≤ 140737488355328 := mul40 (by clear hw hc hx hg ih hsame h hxb hB hp hi0 hi1 hi2 hn hL; omega)
    have hne : decide (x.b = x.a) = decide (x.b = x.a) := rfl
    rw [Run_loop]
    obtain ⟨n, b, a⟩ := x
    simp only [] at hsame ih hxb
    cases b with
    | none => cases a with
      | none =>
        simp only [chg, reduceCtorEq, go_sem] at ih hsame
        simp only [f_lineage_events_l0_eq, f_lineage_events_l0u, hx, hc, hw, hsame, ih, go_sem]
      | some s =>
        simp only [chg, reduceCtorEq, go_sem] at ih hsame
        simp only [f_lineage_events_l0_eq, f_lineage_events_l0u, hx, hc, hw, hsame, hb1, ih, Option.isNone_some, Option.isNone_none, go_sem]
    | some r => cases a with
      | none =>
        simp only [chg, reduceCtorEq, go_sem] at ih hsame
        simp only [f_lineage_events_l0_eq, f_lineage_events_l0u, hx, hc, hw, hsame, hb1, ih, Option.isNone_some, Option.isNone_none, go_sem]
      | some s =>
        by_cases hrs : r = s
        · have hd : decide (some r = some s) = true := by simp [hrs]
          rw [hd] at hsame
          simp only [chg, hrs, go_sem] at ih hsame
          simp only [f_lineage_events_l0_eq, f_lineage_events_l0u, hx, hc, hw, hsame, hrs, ih, go_sem]
        · have hd : decide (some r = some s) = false := by simp [hrs]
          rw [hd] at hsame
          simp only [chg, hrs, Option.some.injEq, go_sem] at ih hsame
          simp only [f_lineage_events_l0_eq, f_lineage_events_l0u, hx, hc, hw, hsame, hb1, hb2, ih, Option.isNone_some, Option.isNone_none, go_sem]
@[go_sem] theorem lineage_events (L : List Item) (hL : L.length < 1000000000000) (hB : ∀ x ∈ L, lenB x.b) : Den prog 15 [.sl (L.map Item.cells)] [] = some (.sl ((eventsOf L).map Event.cells), []) := by
  rw [Den_ofK [] pr_lineage_events rfl]
  simp only [f_lineage_events, go_sem]
  refine lineage_events_l0 L hL hB ?_
  simp only [go_sem]
end Go.Den

/-! Ch. 29: merge. -/
namespace Go.Den
open Go
set_option linter.unusedSimpArgs false
set_option linter.unusedVariables false
set_option maxRecDepth 100000
set_option maxHeartbeats 1000000
/-- What merge passes to each, one after the other. -/
def mergeS {A B S : Type} (na : A → Int) (nb : B → Int) (step : S → Int → Option A → Option B → S) : S → List A → List B → S
  | s, [], [] => s
  | s, x :: a, [] => mergeS na nb step (step s (na x) (some x) none) a []
  | s, [], y :: b => mergeS na nb step (step s (nb y) none (some y)) [] b
  | s, x :: a, y :: b => if na x < nb y then mergeS na nb step (step s (na x) (some x) none) a (y :: b)
      else if nb y < na x then mergeS na nb step (step s (nb y) none (some y)) (x :: a) b
      else mergeS na nb step (step s (na x) (some x) (some y)) a b
termination_by _ a b => a.length + b.length

theorem merge_LL_l0 {S β : Type} {K : Ex × Env × St → Option β} {Z : Option β} (fid : Nat) (caps : List AV) (hcn : norms caps = caps) (hcr : norefs caps = false) (σ : S → St) (bs : Nat) (hbs : ∀ s, (σ s).length = bs) (cnt : S → Nat)
    (step : S → Int → Option Line → Option Line → S) (good : S → Prop) (okA : Line → Prop) (okB : Line → Prop)
    (hstep : ∀ s n x y, good s → cnt s < 1000000000000 → (∀ x', x = some x' → okA x' ∧ n = x'.n) → (∀ y', y = some y' → okB y' ∧ n = y'.n) → (x = none → y = none → False) →
      Den prog fid (.int .i64 n :: lineP x :: lineP y :: caps) (σ s) = some (.tup [], σ (step s n x y)) ∧ good (step s n x y) ∧ cnt (step s n x y) ≤ cnt s + 1) :
    ∀ (k : Nat) (a : List Line) (b : List Line) (s : S), a.length + b.length ≤ k → good s → cnt s + k < 1000000000000 → (∀ x ∈ a, okA x ∧ x.n < 4611686018427387904) → (∀ y ∈ b, okB y ∧ y.n < 4611686018427387904) →
      K (.exit 0, [(0, .sl []), (1, .sl []), (2, .fn 10 []), (3, .fn 10 []), (4, .fn fid caps), (20, .bool false)], σ (mergeS Line.n Line.n step s a b)) = Z →
      (Run prog bs (.loop 0 [0, 1, 2, 3, 4] f_lineage_merge_api_Line_api_Line_l0) [(0, .sl (a.map Line.cells)), (1, .sl (b.map Line.cells)), (2, .fn 10 []), (3, .fn 10 []), (4, .fn fid caps)] (σ s)).bind K = Z
  | 0, a, b, s, hk, hg, hc, ha, hb, h => by
    have ha0 : a = [] := by cases a with
      | nil => rfl
      | cons => simp at hk
    have hb0 : b = [] := by cases b with
      | nil => rfl
      | cons => simp at hk
    subst ha0; subst hb0
    rw [mergeS] at h
    have hz : decide ((0 : Int) < 0) = false := rfl
    rw [Run_loop]
    simp only [f_lineage_merge_api_Line_api_Line_l0_eq, f_lineage_merge_api_Line_api_Line_l0u, hz, hbs, hcn, hcr, Int.natCast_zero, h, go_sem]
  | k + 1, a, b, s, hk, hg, hc, ha, hb, h => by
    have IH := merge_LL_l0 (K := K) (Z := Z) fid caps hcn hcr σ bs hbs cnt step good okA okB hstep k
    have hz : decide ((0 : Int) < 0) = false := rfl
    have hp : ∀ q : Nat, decide ((0 : Int) < (q : Int) + 1) = true := by intro q; rw [decide_eq_true_eq]; omega
    cases a with
    | nil => cases b with
      | nil =>
        rw [mergeS] at h
        clear IH hstep
        rw [Run_loop]
        simp only [f_lineage_merge_api_Line_api_Line_l0_eq, f_lineage_merge_api_Line_api_Line_l0u, hz, hbs, hcn, hcr, Int.natCast_zero, h, go_sem]
      | cons y b =>
        obtain ⟨hy1, hy2⟩ := hb y (by simp)
        obtain ⟨e, g, c⟩ := hstep s y.n none (some y) hg (by omega) (by simp) (by simp; exact hy1) (by simp)
        have ih := IH [] b (step s y.n none (some y)) (by simp at hk ⊢; omega) g (by omega) (by simp) (fun z hz => hb z (by simp [hz])) (by rw [mergeS] at h; exact h)
        have hd : decide (y.n = y.n) = true := by simp
        clear IH hstep h
        rw [Run_loop]
        simp only [go_sem] at e ih
        simp only [f_lineage_merge_api_Line_api_Line_l0_eq, f_lineage_merge_api_Line_api_Line_l0u, hz, hp, hd, hy2, hbs, hcn, hcr, e, ih, Int.natCast_zero, go_sem]
    | cons x a =>
      obtain ⟨hx1, hx2⟩ := ha x (by simp)
      have hdx : decide (x.n = x.n) = true := by simp
      cases b with
      | nil =>
        obtain ⟨e, g, c⟩ := hstep s x.n (some x) none hg (by omega) (by simp; exact hx1) (by simp) (by simp)
        have ih := IH a [] (step s x.n (some x) none) (by simp at hk ⊢; omega) g (by omega) (fun z hz => ha z (by simp [hz])) (by simp) (by rw [mergeS] at h; exact h)
        clear IH hstep h
        rw [Run_loop]
        simp only [go_sem] at e ih
        simp only [f_lineage_merge_api_Line_api_Line_l0_eq, f_lineage_merge_api_Line_api_Line_l0u, hz, hp, hdx, hbs, hcn, hcr, e, ih, Int.natCast_zero, go_sem]
      | cons y b =>
        obtain ⟨hy1, hy2⟩ := hb y (by simp)
        have hdy : decide (y.n = y.n) = true := by simp
        by_cases h1 : x.n < y.n
        · obtain ⟨e, g, c⟩ := hstep s x.n (some x) none hg (by omega) (by simp; exact hx1) (by simp) (by simp)
          have ih := IH a (y :: b) (step s x.n (some x) none) (by simp at hk ⊢; omega) g (by omega) (fun z hz => ha z (by simp [hz])) hb (by rw [mergeS, if_pos h1] at h; exact h)
          have h2 : (y.n < x.n) = False := by simp; omega
          have h3 : decide (y.n = x.n) = false := by simp; omega
          clear IH hstep h
          rw [Run_loop]
          simp only [go_sem] at e ih
          simp only [f_lineage_merge_api_Line_api_Line_l0_eq, f_lineage_merge_api_Line_api_Line_l0u, hz, hp, hdx, hdy, h2, h3, hbs, hcn, hcr, e, ih, Int.natCast_zero, go_sem]
        · by_cases h2 : y.n < x.n
          · obtain ⟨e, g, c⟩ := hstep s y.n none (some y) hg (by omega) (by simp) (by simp; exact hy1) (by simp)
            have ih := IH (x :: a) b (step s y.n none (some y)) (by simp at hk ⊢; omega) g (by omega) ha (fun z hz => hb z (by simp [hz])) (by rw [mergeS, if_neg h1, if_pos h2] at h; exact h)
            have h3 : decide (x.n = y.n) = false := by simp; omega
            clear IH hstep h
            rw [Run_loop]
            simp only [go_sem] at e ih
            simp only [f_lineage_merge_api_Line_api_Line_l0_eq, f_lineage_merge_api_Line_api_Line_l0u, hz, hp, hdx, hdy, h2, h3, hbs, hcn, hcr, e, ih, Int.natCast_zero, go_sem]
          · have h3 : x.n = y.n := by omega
            obtain ⟨e, g, c⟩ := hstep s x.n (some x) (some y) hg (by omega) (by simp; exact hx1) (by simp; exact ⟨hy1, h3⟩) (by simp)
            have ih := IH a b (step s x.n (some x) (some y)) (by simp at hk ⊢; omega) g (by omega) (fun z hz => ha z (by simp [hz])) (fun z hz => hb z (by simp [hz])) (by rw [mergeS, if_neg h1, if_neg h2] at h; exact h)
            have h4 : (y.n < y.n) = False := by simp
            clear IH hstep h
            rw [Run_loop]
            simp only [h3, go_sem] at e ih
            simp only [f_lineage_merge_api_Line_api_Line_l0_eq, f_lineage_merge_api_Line_api_Line_l0u, hz, hp, hdx, hdy, h3, h4, hbs, hcn, hcr, e, ih, Int.natCast_zero, go_sem]
theorem merge_LL {S : Type} (fid : Nat) (caps : List AV) (hcn : norms caps = caps) (hcr : norefs caps = false) (σ : S → St) (bs : Nat) (hbs : ∀ s, (σ s).length = bs) (cnt : S → Nat)
    (step : S → Int → Option Line → Option Line → S) (good : S → Prop) (okA : Line → Prop) (okB : Line → Prop)
    (hstep : ∀ s n x y, good s → cnt s < 1000000000000 → (∀ x', x = some x' → okA x' ∧ n = x'.n) → (∀ y', y = some y' → okB y' ∧ n = y'.n) → (x = none → y = none → False) →
      Den prog fid (.int .i64 n :: lineP x :: lineP y :: caps) (σ s) = some (.tup [], σ (step s n x y)) ∧ good (step s n x y) ∧ cnt (step s n x y) ≤ cnt s + 1)
    (a : List Line) (b : List Line) (s : S) (hg : good s) (hc : cnt s + (a.length + b.length) < 1000000000000) (ha : ∀ x ∈ a, okA x ∧ x.n < 4611686018427387904) (hb : ∀ y ∈ b, okB y ∧ y.n < 4611686018427387904) :
    Den prog 14 [.sl (a.map Line.cells), .sl (b.map Line.cells), .fn 10 [], .fn 10 [], .fn fid caps] (σ s) = some (.tup [], σ (mergeS Line.n Line.n step s a b)) := by
  rw [Den_ofK (σ s) pr_lineage_merge_api_Line_api_Line rfl]
  simp only [f_lineage_merge_api_Line_api_Line, hbs, go_sem]
  refine merge_LL_l0 fid caps hcn hcr σ bs hbs cnt step good okA okB hstep _ a b s (Nat.le_refl _) hg hc ha hb ?_
  have hlen := hbs (mergeS Line.n Line.n step s a b)
  simp only [go_sem, frz_tup, finV, oneOf, fin]
  rw [← hlen, List.take_length]

theorem merge_LI_l0 {S β : Type} {K : Ex × Env × St → Option β} {Z : Option β} (fid : Nat) (caps : List AV) (hcn : norms caps = caps) (hcr : norefs caps = false) (σ : S → St) (bs : Nat) (hbs : ∀ s, (σ s).length = bs) (cnt : S → Nat)
    (step : S → Int → Option Line → Option Item → S) (good : S → Prop) (okA : Line → Prop) (okB : Item → Prop)
    (hstep : ∀ s n x y, good s → cnt s < 1000000000000 → (∀ x', x = some x' → okA x' ∧ n = x'.n) → (∀ y', y = some y' → okB y' ∧ n = y'.n) → (x = none → y = none → False) →
      Den prog fid (.int .i64 n :: lineP x :: itemP y :: caps) (σ s) = some (.tup [], σ (step s n x y)) ∧ good (step s n x y) ∧ cnt (step s n x y) ≤ cnt s + 1) :
    ∀ (k : Nat) (a : List Line) (b : List Item) (s : S), a.length + b.length ≤ k → good s → cnt s + k < 1000000000000 → (∀ x ∈ a, okA x ∧ x.n < 4611686018427387904) → (∀ y ∈ b, okB y ∧ y.n < 4611686018427387904) →
      K (.exit 0, [(0, .sl []), (1, .sl []), (2, .fn 10 []), (3, .fn 11 []), (4, .fn fid caps), (20, .bool false)], σ (mergeS Line.n Item.n step s a b)) = Z →
      (Run prog bs (.loop 0 [0, 1, 2, 3, 4] f_lineage_merge_api_Line_lineage_item_l0) [(0, .sl (a.map Line.cells)), (1, .sl (b.map Item.cells)), (2, .fn 10 []), (3, .fn 11 []), (4, .fn fid caps)] (σ s)).bind K = Z
  | 0, a, b, s, hk, hg, hc, ha, hb, h => by
    have ha0 : a = [] := by cases a with
      | nil => rfl
      | cons => simp at hk
    have hb0 : b = [] := by cases b with
      | nil => rfl
      | cons => simp at hk
    subst ha0; subst hb0
    rw [mergeS] at h
    have hz : decide ((0 : Int) < 0) = false := rfl
    rw [Run_loop]
    simp only [f_lineage_merge_api_Line_lineage_item_l0_eq, f_lineage_merge_api_Line_lineage_item_l0u, hz, hbs, hcn, hcr, Int.natCast_zero, h, go_sem]
  | k + 1, a, b, s, hk, hg, hc, ha, hb, h => by
    have IH := merge_LI_l0 (K := K) (Z := Z) fid caps hcn hcr σ bs hbs cnt step good okA okB hstep k
    have hz : decide ((0 : Int) < 0) = false := rfl
    have hp : ∀ q : Nat, decide ((0 : Int) < (q : Int) + 1) = true := by intro q; rw [decide_eq_true_eq]; omega
    cases a with
    | nil => cases b with
      | nil =>
        rw [mergeS] at h
        clear IH hstep
        rw [Run_loop]
        simp only [f_lineage_merge_api_Line_lineage_item_l0_eq, f_lineage_merge_api_Line_lineage_item_l0u, hz, hbs, hcn, hcr, Int.natCast_zero, h, go_sem]
      | cons y b =>
        obtain ⟨hy1, hy2⟩ := hb y (by simp)
        obtain ⟨e, g, c⟩ := hstep s y.n none (some y) hg (by omega) (by simp) (by simp; exact hy1) (by simp)
        have ih := IH [] b (step s y.n none (some y)) (by simp at hk ⊢; omega) g (by omega) (by simp) (fun z hz => hb z (by simp [hz])) (by rw [mergeS] at h; exact h)
        have hd : decide (y.n = y.n) = true := by simp
        clear IH hstep h
        rw [Run_loop]
        simp only [go_sem] at e ih
        simp only [f_lineage_merge_api_Line_lineage_item_l0_eq, f_lineage_merge_api_Line_lineage_item_l0u, hz, hp, hd, hy2, hbs, hcn, hcr, e, ih, Int.natCast_zero, go_sem]
    | cons x a =>
      obtain ⟨hx1, hx2⟩ := ha x (by simp)
      have hdx : decide (x.n = x.n) = true := by simp
      cases b with
      | nil =>
        obtain ⟨e, g, c⟩ := hstep s x.n (some x) none hg (by omega) (by simp; exact hx1) (by simp) (by simp)
        have ih := IH a [] (step s x.n (some x) none) (by simp at hk ⊢; omega) g (by omega) (fun z hz => ha z (by simp [hz])) (by simp) (by rw [mergeS] at h; exact h)
        clear IH hstep h
        rw [Run_loop]
        simp only [go_sem] at e ih
        simp only [f_lineage_merge_api_Line_lineage_item_l0_eq, f_lineage_merge_api_Line_lineage_item_l0u, hz, hp, hdx, hbs, hcn, hcr, e, ih, Int.natCast_zero, go_sem]
      | cons y b =>
        obtain ⟨hy1, hy2⟩ := hb y (by simp)
        have hdy : decide (y.n = y.n) = true := by simp
        by_cases h1 : x.n < y.n
        · obtain ⟨e, g, c⟩ := hstep s x.n (some x) none hg (by omega) (by simp; exact hx1) (by simp) (by simp)
          have ih := IH a (y :: b) (step s x.n (some x) none) (by simp at hk ⊢; omega) g (by omega) (fun z hz => ha z (by simp [hz])) hb (by rw [mergeS, if_pos h1] at h; exact h)
          have h2 : (y.n < x.n) = False := by simp; omega
          have h3 : decide (y.n = x.n) = false := by simp; omega
          clear IH hstep h
          rw [Run_loop]
          simp only [go_sem] at e ih
          simp only [f_lineage_merge_api_Line_lineage_item_l0_eq, f_lineage_merge_api_Line_lineage_item_l0u, hz, hp, hdx, hdy, h2, h3, hbs, hcn, hcr, e, ih, Int.natCast_zero, go_sem]
        · by_cases h2 : y.n < x.n
          · obtain ⟨e, g, c⟩ := hstep s y.n none (some y) hg (by omega) (by simp) (by simp; exact hy1) (by simp)
            have ih := IH (x :: a) b (step s y.n none (some y)) (by simp at hk ⊢; omega) g (by omega) ha (fun z hz => hb z (by simp [hz])) (by rw [mergeS, if_neg h1, if_pos h2] at h; exact h)
            have h3 : decide (x.n = y.n) = false := by simp; omega
            clear IH hstep h
            rw [Run_loop]
            simp only [go_sem] at e ih
            simp only [f_lineage_merge_api_Line_lineage_item_l0_eq, f_lineage_merge_api_Line_lineage_item_l0u, hz, hp, hdx, hdy, h2, h3, hbs, hcn, hcr, e, ih, Int.natCast_zero, go_sem]
          · have h3 : x.n = y.n := by omega
            obtain ⟨e, g, c⟩ := hstep s x.n (some x) (some y) hg (by omega) (by simp; exact hx1) (by simp; exact ⟨hy1, h3⟩) (by simp)
            have ih := IH a b (step s x.n (some x) (some y)) (by simp at hk ⊢; omega) g (by omega) (fun z hz => ha z (by simp [hz])) (fun z hz => hb z (by simp [hz])) (by rw [mergeS, if_neg h1, if_neg h2] at h; exact h)
            have h4 : (y.n < y.n) = False := by simp
            clear IH hstep h
            rw [Run_loop]
            simp only [h3, go_sem] at e ih
            simp only [f_lineage_merge_api_Line_lineage_item_l0_eq, f_lineage_merge_api_Line_lineage_item_l0u, hz, hp, hdx, hdy, h3, h4, hbs, hcn, hcr, e, ih, Int.natCast_zero, go_sem]
theorem merge_LI {S : Type} (fid : Nat) (caps : List AV) (hcn : norms caps = caps) (hcr : norefs caps = false) (σ : S → St) (bs : Nat) (hbs : ∀ s, (σ s).length = bs) (cnt : S → Nat)
    (step : S → Int → Option Line → Option Item → S) (good : S → Prop) (okA : Line → Prop) (okB : Item → Prop)
    (hstep : ∀ s n x y, good s → cnt s < 1000000000000 → (∀ x', x = some x' → okA x' ∧ n = x'.n) → (∀ y', y = some y' → okB y' ∧ n = y'.n) → (x = none → y = none → False) →
      Den prog fid (.int .i64 n :: lineP x :: itemP y :: caps) (σ s) = some (.tup [], σ (step s n x y)) ∧ good (step s n x y) ∧ cnt (step s n x y) ≤ cnt s + 1)
    (a : List Line) (b : List Item) (s : S) (hg : good s) (hc : cnt s + (a.length + b.length) < 1000000000000) (ha : ∀ x ∈ a, okA x ∧ x.n < 4611686018427387904) (hb : ∀ y ∈ b, okB y ∧ y.n < 4611686018427387904) :
    Den prog 9 [.sl (a.map Line.cells), .sl (b.map Item.cells), .fn 10 [], .fn 11 [], .fn fid caps] (σ s) = some (.tup [], σ (mergeS Line.n Item.n step s a b)) := by
  rw [Den_ofK (σ s) pr_lineage_merge_api_Line_lineage_item rfl]
  simp only [f_lineage_merge_api_Line_lineage_item, hbs, go_sem]
  refine merge_LI_l0 fid caps hcn hcr σ bs hbs cnt step good okA okB hstep _ a b s (Nat.le_refl _) hg hc ha hb ?_
  have hlen := hbs (mergeS Line.n Item.n step s a b)
  simp only [go_sem, frz_tup, finV, oneOf, fin]
  rw [← hlen, List.take_length]

theorem merge_II_l0 {S β : Type} {K : Ex × Env × St → Option β} {Z : Option β} (fid : Nat) (caps : List AV) (hcn : norms caps = caps) (hcr : norefs caps = false) (σ : S → St) (bs : Nat) (hbs : ∀ s, (σ s).length = bs) (cnt : S → Nat)
    (step : S → Int → Option Item → Option Item → S) (good : S → Prop) (okA : Item → Prop) (okB : Item → Prop)
    (hstep : ∀ s n x y, good s → cnt s < 1000000000000 → (∀ x', x = some x' → okA x' ∧ n = x'.n) → (∀ y', y = some y' → okB y' ∧ n = y'.n) → (x = none → y = none → False) →
      Den prog fid (.int .i64 n :: itemP x :: itemP y :: caps) (σ s) = some (.tup [], σ (step s n x y)) ∧ good (step s n x y) ∧ cnt (step s n x y) ≤ cnt s + 1) :
    ∀ (k : Nat) (a : List Item) (b : List Item) (s : S), a.length + b.length ≤ k → good s → cnt s + k < 1000000000000 → (∀ x ∈ a, okA x ∧ x.n < 4611686018427387904) → (∀ y ∈ b, okB y ∧ y.n < 4611686018427387904) →
      K (.exit 0, [(0, .sl []), (1, .sl []), (2, .fn 11 []), (3, .fn 11 []), (4, .fn fid caps), (20, .bool false)], σ (mergeS Item.n Item.n step s a b)) = Z →
      (Run prog bs (.loop 0 [0, 1, 2, 3, 4] f_lineage_merge_lineage_item_lineage_item_l0) [(0, .sl (a.map Item.cells)), (1, .sl (b.map Item.cells)), (2, .fn 11 []), (3, .fn 11 []), (4, .fn fid caps)] (σ s)).bind K = Z
  | 0, a, b, s, hk, hg, hc, ha, hb, h => by
    have ha0 : a = [] := by cases a with
      | nil => rfl
      | cons => simp at hk
    have hb0 : b = [] := by cases b with
      | nil => rfl
      | cons => simp at hk
    subst ha0; subst hb0
    rw [mergeS] at h
    have hz : decide ((0 : Int) < 0) = false := rfl
    rw [Run_loop]
    simp only [f_lineage_merge_lineage_item_lineage_item_l0_eq, f_lineage_merge_lineage_item_lineage_item_l0u, hz, hbs, hcn, hcr, Int.natCast_zero, h, go_sem]
  | k + 1, a, b, s, hk, hg, hc, ha, hb, h => by
    have IH := merge_II_l0 (K := K) (Z := Z) fid caps hcn hcr σ bs hbs cnt step good okA okB hstep k
    have hz : decide ((0 : Int) < 0) = false := rfl
    have hp : ∀ q : Nat, decide ((0 : Int) < (q : Int) + 1) = true := by intro q; rw [decide_eq_true_eq]; omega
    cases a with
    | nil => cases b with
      | nil =>
        rw [mergeS] at h
        clear IH hstep
        rw [Run_loop]
        simp only [f_lineage_merge_lineage_item_lineage_item_l0_eq, f_lineage_merge_lineage_item_lineage_item_l0u, hz, hbs, hcn, hcr, Int.natCast_zero, h, go_sem]
      | cons y b =>
        obtain ⟨hy1, hy2⟩ := hb y (by simp)
        obtain ⟨e, g, c⟩ := hstep s y.n none (some y) hg (by omega) (by simp) (by simp; exact hy1) (by simp)
        have ih := IH [] b (step s y.n none (some y)) (by simp at hk ⊢; omega) g (by omega) (by simp) (fun z hz => hb z (by simp [hz])) (by rw [mergeS] at h; exact h)
        have hd : decide (y.n = y.n) = true := by simp
        clear IH hstep h
        rw [Run_loop]
        simp only [go_sem] at e ih
        simp only [f_lineage_merge_lineage_item_lineage_item_l0_eq, f_lineage_merge_lineage_item_lineage_item_l0u, hz, hp, hd, hy2, hbs, hcn, hcr, e, ih, Int.natCast_zero, go_sem]
    | cons x a =>
      obtain ⟨hx1, hx2⟩ := ha x (by simp)
      have hdx : decide (x.n = x.n) = true := by simp
      cases b with
      | nil =>
        obtain ⟨e, g, c⟩ := hstep s x.n (some x) none hg (by omega) (by simp; exact hx1) (by simp) (by simp)
        have ih := IH a [] (step s x.n (some x) none) (by simp at hk ⊢; omega) g (by omega) (fun z hz => ha z (by simp [hz])) (by simp) (by rw [mergeS] at h; exact h)
        clear IH hstep h
        rw [Run_loop]
        simp only [go_sem] at e ih
        simp only [f_lineage_merge_lineage_item_lineage_item_l0_eq, f_lineage_merge_lineage_item_lineage_item_l0u, hz, hp, hdx, hbs, hcn, hcr, e, ih, Int.natCast_zero, go_sem]
      | cons y b =>
        obtain ⟨hy1, hy2⟩ := hb y (by simp)
        have hdy : decide (y.n = y.n) = true := by simp
        by_cases h1 : x.n < y.n
        · obtain ⟨e, g, c⟩ := hstep s x.n (some x) none hg (by omega) (by simp; exact hx1) (by simp) (by simp)
          have ih := IH a (y :: b) (step s x.n (some x) none) (by simp at hk ⊢; omega) g (by omega) (fun z hz => ha z (by simp [hz])) hb (by rw [mergeS, if_pos h1] at h; exact h)
          have h2 : (y.n < x.n) = False := by simp; omega
          have h3 : decide (y.n = x.n) = false := by simp; omega
          clear IH hstep h
          rw [Run_loop]
          simp only [go_sem] at e ih
          simp only [f_lineage_merge_lineage_item_lineage_item_l0_eq, f_lineage_merge_lineage_item_lineage_item_l0u, hz, hp, hdx, hdy, h2, h3, hbs, hcn, hcr, e, ih, Int.natCast_zero, go_sem]
        · by_cases h2 : y.n < x.n
          · obtain ⟨e, g, c⟩ := hstep s y.n none (some y) hg (by omega) (by simp) (by simp; exact hy1) (by simp)
            have ih := IH (x :: a) b (step s y.n none (some y)) (by simp at hk ⊢; omega) g (by omega) ha (fun z hz => hb z (by simp [hz])) (by rw [mergeS, if_neg h1, if_pos h2] at h; exact h)
            have h3 : decide (x.n = y.n) = false := by simp; omega
            clear IH hstep h
            rw [Run_loop]
            simp only [go_sem] at e ih
            simp only [f_lineage_merge_lineage_item_lineage_item_l0_eq, f_lineage_merge_lineage_item_lineage_item_l0u, hz, hp, hdx, hdy, h2, h3, hbs, hcn, hcr, e, ih, Int.natCast_zero, go_sem]
          · have h3 : x.n = y.n := by omega
            obtain ⟨e, g, c⟩ := hstep s x.n (some x) (some y) hg (by omega) (by simp; exact hx1) (by simp; exact ⟨hy1, h3⟩) (by simp)
            have ih := IH a b (step s x.n (some x) (some y)) (by simp at hk ⊢; omega) g (by omega) (fun z hz => ha z (by simp [hz])) (fun z hz => hb z (by simp [hz])) (by rw [mergeS, if_neg h1, if_neg h2] at h; exact h)
            have h4 : (y.n < y.n) = False := by simp
            clear IH hstep h
            rw [Run_loop]
            simp only [h3, go_sem] at e ih
            simp only [f_lineage_merge_lineage_item_lineage_item_l0_eq, f_lineage_merge_lineage_item_lineage_item_l0u, hz, hp, hdx, hdy, h3, h4, hbs, hcn, hcr, e, ih, Int.natCast_zero, go_sem]
theorem merge_II {S : Type} (fid : Nat) (caps : List AV) (hcn : norms caps = caps) (hcr : norefs caps = false) (σ : S → St) (bs : Nat) (hbs : ∀ s, (σ s).length = bs) (cnt : S → Nat)
    (step : S → Int → Option Item → Option Item → S) (good : S → Prop) (okA : Item → Prop) (okB : Item → Prop)
    (hstep : ∀ s n x y, good s → cnt s < 1000000000000 → (∀ x', x = some x' → okA x' ∧ n = x'.n) → (∀ y', y = some y' → okB y' ∧ n = y'.n) → (x = none → y = none → False) →
      Den prog fid (.int .i64 n :: itemP x :: itemP y :: caps) (σ s) = some (.tup [], σ (step s n x y)) ∧ good (step s n x y) ∧ cnt (step s n x y) ≤ cnt s + 1)
    (a : List Item) (b : List Item) (s : S) (hg : good s) (hc : cnt s + (a.length + b.length) < 1000000000000) (ha : ∀ x ∈ a, okA x ∧ x.n < 4611686018427387904) (hb : ∀ y ∈ b, okB y ∧ y.n < 4611686018427387904) :
    Den prog 19 [.sl (a.map Item.cells), .sl (b.map Item.cells), .fn 11 [], .fn 11 [], .fn fid caps] (σ s) = some (.tup [], σ (mergeS Item.n Item.n step s a b)) := by
  rw [Den_ofK (σ s) pr_lineage_merge_lineage_item_lineage_item rfl]
  simp only [f_lineage_merge_lineage_item_lineage_item, hbs, go_sem]
  refine merge_II_l0 fid caps hcn hcr σ bs hbs cnt step good okA okB hstep _ a b s (Nat.le_refl _) hg hc ha hb ?_
  have hlen := hbs (mergeS Item.n Item.n step s a b)
  simp only [go_sem, frz_tup, finV, oneOf, fin]
  rw [← hlen, List.take_length]
end Go.Den
