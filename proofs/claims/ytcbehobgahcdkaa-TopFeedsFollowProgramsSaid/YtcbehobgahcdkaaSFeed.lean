import Derived.Test.YtcbehobgahcdkaaS06
/-! Rows held against each other. -/
namespace Go.Den
open Go
set_option linter.unusedSimpArgs false
set_option linter.unusedVariables false
set_option maxRecDepth 100000
set_option maxHeartbeats 1000000
theorem bool_eq_iff {a b : Bool} (h : a = true ↔ b = true) : a = b := by cases a <;> cases b <;> simp_all
theorem eqcell (a b : Cell) : (decide (a.id = b.id) && ((a.v.null == b.v.null) && (decide (a.v.n = b.v.n) && decide (a.v.s = b.v.s)))) = decide (a = b) := by
  obtain ⟨i, ⟨n, k, s⟩⟩ := a
  obtain ⟨i', ⟨n', k', s'⟩⟩ := b
  apply bool_eq_iff
  simp
theorem slices_Equal_l0 (A B : List Cell) (hl : A.length = B.length) (hL : A.length < 1000000000000000) : ∀ (r s p q : List Cell), A = p ++ r → B = q ++ s → p.length = q.length → p = q →
    Run prog 0 (.loop 0 [0, 1, 12, 13] f_slices_Equal_api_Cell_api_Cell_l0) [(0, .sl (A.map Cell.cells)), (1, .sl (B.map Cell.cells)), (12, .int .i64 A.length), (13, .int .i64 p.length)] [] =
      brk (decide (A = B)) (some (.exit 0, [(0, .sl (A.map Cell.cells)), (1, .sl (B.map Cell.cells)), (12, .int .i64 A.length), (13, .int .i64 A.length), (14, .bool false)], [])) (some (.ret, [(4, .bool false)], []))
  | [], s, p, q, hp, hq, hpq, he => by
    have hlen : p.length = A.length := by simp [hp]
    have hs : s = [] := by
      have : s.length = 0 := by have := congrArg List.length hq; simp at this; omega
      simpa using this
    have hab : decide (A = B) = true := by simp [hp, hq, hs, he]
    rw [Run_loop]
    simp only [f_slices_Equal_api_Cell_api_Cell_l0_eq, f_slices_Equal_api_Cell_api_Cell_l0u, hlen, hab, go_sem]
  | x :: r, [], p, q, hp, hq, hpq, he => by
    exfalso
    have h1 := congrArg List.length hp
    have h2 := congrArg List.length hq
    simp at h1 h2; omega
  | x :: r, y :: s, p, q, hp, hq, hpq, he => by
    have hlen := congrArg List.length hp
    simp only [List.length_append, List.length_cons] at hlen
    have hw : IntKind.wrap .i64 ((p.length : Int) + 1) = p.length + 1 := wrap_i64 (by omega) (by omega)
    have hx := getE_at hp
    have hy : getE B (p.length : Int) = some y := by rw [hpq]; exact getE_at hq
    have hc : decide ((p.length : Int) < A.length) = true := by simp; omega
    have hcell := eqcell x y
    by_cases hxy : x = y
    · have ih := slices_Equal_l0 A B hl hL r s (p ++ [x]) (q ++ [y]) (by simpa using hp) (by simpa using hq) (by simpa using hpq) (by rw [he, hxy])
      simp only [List.length_append, List.length_cons, List.length_nil, Nat.zero_add, Int.natCast_add, Int.cast_ofNat_Int] at ih
      have hd : decide (x = y) = true := by simpa using hxy
      rw [Run_loop]
      simp only [f_slices_Equal_api_Cell_api_Cell_l0_eq, f_slices_Equal_api_Cell_api_Cell_l0u, hw, hx, hy, hc, hcell, hd, Bool.not_true, ih, go_sem]
    · have hd : decide (x = y) = false := by simpa using hxy
      have hab : decide (A = B) = false := by
        simp only [decide_eq_false_iff_not]
        intro h
        rw [hp, hq, he] at h
        simp at h
        exact hxy h.1
      rw [Run_loop]
      simp only [f_slices_Equal_api_Cell_api_Cell_l0_eq, f_slices_Equal_api_Cell_api_Cell_l0u, hw, hx, hy, hc, hcell, hd, hab, Bool.not_false, go_sem]
@[go_sem] theorem slices_Equal (A B : List Cell) (hL : A.length < 1000000000000000) : Den prog 1 [.sl (A.map Cell.cells), .sl (B.map Cell.cells)] [] = some (.bool (decide (A = B)), []) := by
  rw [Den_ofK [] pr_slices_Equal_api_Cell_api_Cell rfl]
  by_cases hl : A.length = B.length
  · have h := slices_Equal_l0 A B hl hL A B [] [] rfl rfl rfl rfl
    simp only [List.length_nil, Int.natCast_zero] at h
    have hd : decide ((A.length : Int) = B.length) = true := by rw [decide_eq_true_eq]; omega
    simp only [f_slices_Equal_api_Cell_api_Cell, h, hd, Bool.not_true, go_sem]
    repeat' (first
      | (refine grd_split (fun h => ?_) (fun h => ?_) <;> simp only [h, h, go_sem])
      | (refine condR_split (fun h => ?_) (fun h => ?_) <;> simp only [h, h, go_sem])
      | (refine grdD_split (fun h => ?_) (fun h => ?_) <;> simp only [h, h, go_sem])
      | (refine brk_split (fun h => ?_) (fun h => ?_) <;> simp only [h, h, go_sem])
      | (refine pickV_split (fun h => ?_) (fun h => ?_) <;> simp only [h, h, go_sem]))
  · have hd : decide ((A.length : Int) = B.length) = false := by simp; omega
    have hab : decide (A = B) = false := by simp only [decide_eq_false_iff_not]; intro h; exact hl (by rw [h])
    simp only [f_slices_Equal_api_Cell_api_Cell, hd, hab, Bool.not_false, go_sem]
@[go_sem] theorem lineage_equal (A B : List Cell) (hL : A.length < 1000000000000000) : Den prog 2 [.agg [.sl (A.map Cell.cells)], .agg [.sl (B.map Cell.cells)]] [] = some (.bool (decide (A = B)), []) := by
  rw [Den_ofK [] pr_lineage_equal rfl]
  simp only [f_lineage_equal, hL, go_sem]
theorem SameRow_l0 (A B : List Cell) (hl : A.length = B.length) (hL : A.length < 1000000000000000) : ∀ (r s p q : List Cell), A = p ++ r → B = q ++ s → p.length = q.length → p = q →
    Run prog 0 (.loop 0 [2, 3, 5] f_R06_SameRow_l0) [(2, .rptr [.sl (A.map Cell.cells)]), (3, .rptr [.sl (B.map Cell.cells)]), (5, .int .i64 p.length)] [] =
      brk (decide (A = B)) (some (.exit 0, [(2, .rptr [.sl (A.map Cell.cells)]), (3, .rptr [.sl (B.map Cell.cells)]), (5, .int .i64 A.length), (17, .bool false)], [])) (some (.ret, [(4, .bool false)], []))
  | [], s, p, q, hp, hq, hpq, he => by
    have hlen : p.length = A.length := by simp [hp]
    have hs : s = [] := by
      have : s.length = 0 := by have := congrArg List.length hq; simp at this; omega
      simpa using this
    have hab : decide (A = B) = true := by simp [hp, hq, hs, he]
    rw [Run_loop]
    simp only [f_R06_SameRow_l0_eq, f_R06_SameRow_l0u, hlen, hab, go_sem]
  | x :: r, [], p, q, hp, hq, hpq, he => by
    exfalso
    have h1 := congrArg List.length hp
    have h2 := congrArg List.length hq
    simp at h1 h2; omega
  | x :: r, y :: s, p, q, hp, hq, hpq, he => by
    have hlen := congrArg List.length hp
    simp only [List.length_append, List.length_cons] at hlen
    have hw : IntKind.wrap .i64 ((p.length : Int) + 1) = p.length + 1 := wrap_i64 (by omega) (by omega)
    have hx := getE_at hp
    have hy : getE B (p.length : Int) = some y := by rw [hpq]; exact getE_at hq
    have hc : decide ((p.length : Int) < A.length) = true := by simp; omega
    have hcell := eqcell x y
    by_cases hxy : x = y
    · have ih := SameRow_l0 A B hl hL r s (p ++ [x]) (q ++ [y]) (by simpa using hp) (by simpa using hq) (by simpa using hpq) (by rw [he, hxy])
      simp only [List.length_append, List.length_cons, List.length_nil, Nat.zero_add, Int.natCast_add, Int.cast_ofNat_Int] at ih
      have hd : decide (x = y) = true := by simpa using hxy
      rw [Run_loop]
      simp only [f_R06_SameRow_l0_eq, f_R06_SameRow_l0u, hw, hx, hy, hc, hcell, hd, ih, go_sem]
    · have hd : decide (x = y) = false := by simpa using hxy
      have hab : decide (A = B) = false := by
        simp only [decide_eq_false_iff_not]
        intro h
        rw [hp, hq, he] at h
        simp at h
        exact hxy h.1
      rw [Run_loop]
      simp only [f_R06_SameRow_l0_eq, f_R06_SameRow_l0u, hw, hx, hy, hc, hcell, hd, hab, go_sem]
@[go_sem] theorem R06_SameRow (A B : List Cell) (hL : A.length < 1000000000000000) : Den prog 12 [.agg [.sl (A.map Cell.cells)], .agg [.sl (B.map Cell.cells)]] [] = some (.bool (decide (A = B)), []) := by
  rw [Den_ofK [] pr_R06_SameRow rfl]
  by_cases hl : A.length = B.length
  · have h := SameRow_l0 A B hl hL A B [] [] rfl rfl rfl rfl
    simp only [List.length_nil, Int.natCast_zero] at h
    have hd : decide ((A.length : Int) = B.length) = true := by rw [decide_eq_true_eq]; omega
    simp only [f_R06_SameRow, h, hd, go_sem]
    repeat' (first
      | (refine grd_split (fun h => ?_) (fun h => ?_) <;> simp only [h, h, go_sem])
      | (refine condR_split (fun h => ?_) (fun h => ?_) <;> simp only [h, h, go_sem])
      | (refine grdD_split (fun h => ?_) (fun h => ?_) <;> simp only [h, h, go_sem])
      | (refine brk_split (fun h => ?_) (fun h => ?_) <;> simp only [h, h, go_sem])
      | (refine pickV_split (fun h => ?_) (fun h => ?_) <;> simp only [h, h, go_sem]))
  · have hd : decide ((A.length : Int) = B.length) = false := by simp; omega
    have hab : decide (A = B) = false := by simp only [decide_eq_false_iff_not]; intro h; exact hl (by rw [h])
    simp only [f_R06_SameRow, hd, hab, go_sem]
theorem zip_ind {α : Type} (A B : List α) (hl : A.length = B.length) (hL : A.length < 1000000000000000) (goal : Int → Prop) (hend : A = B → goal A.length)
    (hstep : ∀ (i : Int) (x y : α), getE A i = some x → getE B i = some y → decide (i < (A.length : Int)) = true → IntKind.wrap .i64 (i + 1) = i + 1 → x ∈ A → y ∈ B → (x = y → goal (i + 1)) → (x ≠ y → A ≠ B) → goal i) : goal 0 := by
  refine range_ind A hL (fun i (_ : Unit) => goal i) (fun i rest _ => ∃ pre s, A = pre ++ rest ∧ B = pre ++ s ∧ i = (pre.length : Int)) ?_ ?_ () ⟨[], B, rfl, rfl, rfl⟩
  · intro _ ⟨pre, s, h1, h2, h3⟩
    refine hend ?_
    have : s.length = 0 := by have q1 := congrArg List.length h1; have q2 := congrArg List.length h2; simp at q1 q2; omega
    have hs : s = [] := by simpa using this
    rw [h1, h2, hs]
  · intro i pre0 rest x _ _ _ _ _ hx hc hw ⟨pre, s, h1, h2, h3⟩ ih
    cases s with
    | nil =>
      exfalso
      have q1 := congrArg List.length h1; have q2 := congrArg List.length h2; simp at q1 q2; omega
    | cons y s =>
      have hy : getE B i = some y := by rw [h3]; exact getE_at h2
      refine hstep i x y hx hy hc hw (by rw [h1]; simp) (by rw [h2]; simp) (fun e => ?_) (fun e => ?_)
      · refine ih () ⟨pre ++ [x], s, by rw [h1]; simp, by rw [h2, e]; simp, by rw [h3]; simp⟩
      · intro hab
        rw [h1, h2] at hab
        have := List.append_cancel_left hab
        simp at this
        exact e this.1
end Go.Den

/-! The feed between two tables, as the program makes it. -/
namespace Go.Den
open Go
set_option linter.unusedSimpArgs false
set_option linter.unusedVariables false
set_option maxRecDepth 100000
set_option maxHeartbeats 1000000
/-- The numbers of lines rise from last on, below nx. -/
def rise (nx : Int) : Int → List Line → Bool
  | _, [] => true
  | last, x :: r => if x.n < 0 ∨ nx ≤ x.n ∨ x.n ≤ last then false else rise nx x.n r
/-- L1. -/
def valid (t : Table) : Bool := if t.next < 0 ∨ 4611686018427387904 < t.next ∨ 4096 < t.l.length then false else rise t.next (-1) t.l
theorem lineage_Valid_l0 {β : Type} {K : Ex × Env × St → Option β} {Z : Option β} (nx : Int) (L : List Line) (hL : L.length < 1000000000000000) : ∀ (rest pre : List Line) (last : Int), L = pre ++ rest → -1 ≤ last →
    (rise nx last rest = true → ∀ l, K (.exit 0, [(1, .rptr [.int .i64 nx, .sl (L.map Line.cells)]), (3, .int .i64 l), (21, .sl (L.map Line.cells)), (22, .int .i64 L.length), (23, .int .i64 L.length), (24, .bool false)], []) = Z) →
    (rise nx last rest = false → ∀ s, K (.ret, [(2, .bool false)], s) = Z) →
    (Run prog 0 (.loop 0 [1, 3, 21, 22, 23] f_lineage_Valid_l0) [(1, .rptr [.int .i64 nx, .sl (L.map Line.cells)]), (3, .int .i64 last), (21, .sl (L.map Line.cells)), (22, .int .i64 L.length), (23, .int .i64 pre.length)] []).bind K = Z
  | [], pre, last, hp, h1, k1, k0 => by
    have hlen : pre.length = L.length := by simp [hp]
    have k := k1 rfl last
    rw [Run_loop]
    simp only [f_lineage_Valid_l0_eq, f_lineage_Valid_l0u, hlen, k, go_sem]
  | x :: rest, pre, last, hp, h1, k1, k0 => by
    have hlen := congrArg List.length hp
    simp only [List.length_append, List.length_cons] at hlen
    have hw : IntKind.wrap .i64 ((pre.length : Int) + 1) = pre.length + 1 := wrap_i64 (by omega) (by omega)
    have hx := getE_at hp
    have hc : decide ((pre.length : Int) < L.length) = true := by simp; omega
    rw [Run_loop]
    simp only [f_lineage_Valid_l0_eq, f_lineage_Valid_l0u, hw, hx, hc, go_sem]
    repeat' (first
      | (refine grd_split (fun h => ?_) (fun h => ?_) <;> simp only [h, hw, hx, hc, go_sem])
      | (refine condR_split (fun h => ?_) (fun h => ?_) <;> simp only [h, hw, hx, hc, go_sem])
      | (refine grdD_split (fun h => ?_) (fun h => ?_) <;> simp only [h, hw, hx, hc, go_sem])
      | (refine brk_split (fun h => ?_) (fun h => ?_) <;> simp only [h, hw, hx, hc, go_sem])
      | (refine pickV_split (fun h => ?_) (fun h => ?_) <;> simp only [h, hw, hx, hc, go_sem]))
    all_goals simp only [decide_eq_true_eq, decide_eq_false_iff_not] at *
    · exact k0 (by rw [rise, if_pos (by omega)]) _
    · exact k0 (by rw [rise, if_pos (by omega)]) _
    · have e : rise nx last (x :: rest) = rise nx x.n rest := by rw [rise, if_neg (by omega)]
      rw [e] at k1 k0
      have ih := lineage_Valid_l0 nx L hL rest (pre ++ [x]) x.n (by simpa using hp) (by omega) k1 k0
      simpa only [List.length_append, List.length_cons, List.length_nil, Nat.zero_add, Int.natCast_add, Int.cast_ofNat_Int] using ih
@[go_sem] theorem lineage_Valid (t : Table) (hL : t.l.length < 1000000000000000) : Den prog 5 [.agg [.int .i64 t.next, .sl (t.l.map Line.cells)]] [] = some (.bool (valid t), []) := by
  rw [Den_ofK [] pr_lineage_Valid rfl]
  simp only [f_lineage_Valid, go_sem]
  repeat' (first
    | (refine grd_split (fun h => ?_) (fun h => ?_) <;> simp only [h, go_sem])
    | (refine condR_split (fun h => ?_) (fun h => ?_) <;> simp only [h, go_sem])
    | (refine grdD_split (fun h => ?_) (fun h => ?_) <;> simp only [h, go_sem])
    | (refine brk_split (fun h => ?_) (fun h => ?_) <;> simp only [h, go_sem])
    | (refine pickV_split (fun h => ?_) (fun h => ?_) <;> simp only [h, go_sem]))
  all_goals simp only [decide_eq_true_eq, decide_eq_false_iff_not] at *
  · rw [valid, if_pos (by omega)]
  · rw [valid, if_pos (by omega)]
  · rw [valid, if_pos (by omega)]
  · refine lineage_Valid_l0 t.next t.l hL t.l [] (-1) rfl (by omega) (fun h l => ?_) (fun h s => ?_)
    · rw [valid, if_neg (by omega), h]
      simp only [go_sem]
    · rw [valid, if_neg (by omega), h]
      simp only [go_sem]
theorem not_dec {p : Prop} [Decidable p] : (!decide p) = true ↔ ¬ p := by simp
theorem not_decf {p : Prop} [Decidable p] : (!decide p) = false ↔ p := by simp
/-- What a feed does to a number: the rows before and after; none: absent. -/
structure Item where
  n : Int
  b : Option (List Cell)
  a : Option (List Cell)
deriving DecidableEq
def ptrc : Option (List Cell) → AV
  | none => .nilp
  | some r => .rptr [.sl (r.map Cell.cells)]
def Item.cells (i : Item) : List AV := [.int .i64 i.n, ptrc i.b, ptrc i.a]
attribute [go_sem] Item.cells
@[go_sem] theorem ptrc_none : ptrc none = .nilp := (rfl)
@[go_sem] theorem ptrc_some (r : List Cell) : ptrc (some r) = .rptr [.sl (r.map Cell.cells)] := (rfl)
@[go_sem] theorem ptrc_noref (o : Option (List Cell)) : (ptrc o).noref = true := by cases o <;> rfl
@[go_sem] theorem ptrc_norm (o : Option (List Cell)) : (ptrc o).norm = ptrc o := by cases o <;> rfl
@[go_sem] theorem ptrc_scalar (o : Option (List Cell)) : (ptrc o).scalar = true := by cases o <;> rfl
@[go_sem] theorem ptrc_cellsOf (o : Option (List Cell)) : (ptrc o).cellsOf = [ptrc o] := by cases o <;> rfl
@[go_sem] theorem ptrc_under (m : Nat) (o : Option (List Cell)) : (ptrc o).under m = true := by cases o <;> rfl
def lineP : Option Line → AV
  | none => .nilp
  | some l => .rptr [.int .i64 l.n, .sl (l.r.map Cell.cells)]
@[go_sem] theorem lineP_none : lineP none = .nilp := (rfl)
@[go_sem] theorem lineP_some (l : Line) : lineP (some l) = .rptr [.int .i64 l.n, .sl (l.r.map Cell.cells)] := (rfl)
@[go_sem] theorem lineP_noref (o : Option Line) : (lineP o).noref = true := by cases o <;> rfl
@[go_sem] theorem lineP_norm (o : Option Line) : (lineP o).norm = lineP o := by cases o <;> rfl
@[go_sem] theorem eqp_none (v : AV) (h : (match v with | .rptr _ => true | _ => false) = true) : eq2 .ptr v .nilp = some false := by
  cases v <;> first | rfl | (exact absurd h (by simp))
@[go_sem] theorem eqp_rptr (cs : List AV) : eq2 .ptr (.rptr cs) .nilp = some false := (rfl)
@[go_sem] theorem eqp_nil : eq2 .ptr .nilp .nilp = some true := (rfl)
@[go_sem] theorem eqp_ptrc (o : Option (List Cell)) : eq2 .ptr (ptrc o) .nilp = some o.isNone := by cases o <;> rfl
@[go_sem] theorem eqp_lineP (o : Option Line) : eq2 .ptr (lineP o) .nilp = some o.isNone := by cases o <;> rfl
@[go_sem] theorem lineage_ofLine (n : Int) (r : AV) : Den prog 10 [.rptr [.int .i64 n, r]] [] = some (.int .i64 n, []) := by
  rw [Den_ofK [] pr_lineage_ofLine rfl]
  simp only [f_lineage_ofLine, go_sem]
theorem lineage_row (x : Option Line) : Den prog 3 [lineP x] [] = some (ptrc (x.map Line.r), []) := by
  rw [Den_ofK [] pr_lineage_row rfl]
  cases x <;> simp only [f_lineage_row, go_sem]
@[go_sem] theorem lineage_row_none : Den prog 3 [.nilp] [] = some (.nilp, []) := lineage_row none
@[go_sem] theorem lineage_row_some (n : Int) (r : List Cell) : Den prog 3 [.rptr [.int .i64 n, .sl (r.map Cell.cells)]] [] = some (.rptr [.sl (r.map Cell.cells)], []) := lineage_row (some ⟨n, r⟩)
def lenB (o : Option (List Cell)) : Prop := ∀ r, o = some r → r.length < 1000000000000000
theorem lineage_same (x y : Option (List Cell)) (hx : lenB x) : Den prog 4 [ptrc x, ptrc y] [] = some (.bool (decide (x = y)), []) := by
  rw [Den_ofK [] pr_lineage_same rfl]
  cases x with
  | none => cases y <;> simp only [f_lineage_same, reduceCtorEq, go_sem]
  | some r =>
    have := hx r rfl
    cases y with
    | none => simp only [f_lineage_same, reduceCtorEq, go_sem]
    | some s => simp only [f_lineage_same, this, Option.some.injEq, go_sem]
/-- The events that bring a number from one state to another. -/
def chg (n : Int) (b a : Option (List Cell)) : List Event := if b = a then [] else (match b with | some r => [⟨2, ⟨n, r⟩⟩] | none => []) ++ (match a with | some r => [⟨1, ⟨n, r⟩⟩] | none => [])
def eventsOf : List Item → List Event
  | [] => []
  | x :: r => chg x.n x.b x.a ++ eventsOf r
theorem mul40 {q : Nat} (h : q < 3000000000000) : q * 40 ≤ 140737488355328 := by omega
theorem mul24 {q : Nat} (h : q < 5000000000000) : q * 24 ≤ 140737488355328 := by omega
theorem mul32 {q : Nat} (h : q < 4000000000000) : q * 32 ≤ 140737488355328 := by omega
theorem chg_len (n : Int) (b a : Option (List Cell)) : (chg n b a).length ≤ 2 := by
  unfold chg; split
  · simp
  · cases b <;> cases a <;> simp
theorem lineage_events_l0 {β : Type} {K : Ex × Env × St → Option β} {Z : Option β} (L : List Item) (hL : L.length < 1000000000000) (hB : ∀ x ∈ L, lenB x.b)
    (h : K (.exit 0, [(3, .osl 0 0 (eventsOf L).length 0 (eventsOf L).length), (6, .sl (L.map Item.cells)), (7, .int .i64 L.length), (8, .int .i64 L.length), (9, .bool false)], [.arr 0 3 ((eventsOf L).map Event.cells)]) = Z) :
    (Run prog 0 (.loop 1 [3, 6, 7, 8] f_lineage_events_l0) [(3, .osl 0 0 0 0 0), (6, .sl (L.map Item.cells)), (7, .int .i64 L.length), (8, .int .i64 0)] [.arr 0 3 []]).bind K = Z := by
  have h0 := range_ind L (by omega) (fun i (out : List Event) => (Run prog 0 (.loop 1 [3, 6, 7, 8] f_lineage_events_l0) [(3, .osl 0 0 out.length 0 out.length), (6, .sl (L.map Item.cells)), (7, .int .i64 L.length), (8, .int .i64 i)] [.arr 0 3 (out.map Event.cells)]).bind K = Z)
    (fun i rest out => (out.length : Int) ≤ 2 * i ∧ K (.exit 0, [(3, .osl 0 0 (out ++ eventsOf rest).length 0 (out ++ eventsOf rest).length), (6, .sl (L.map Item.cells)), (7, .int .i64 L.length), (8, .int .i64 L.length), (9, .bool false)], [.arr 0 3 ((out ++ eventsOf rest).map Event.cells)]) = Z) ?_ ?_ [] ⟨by simp, h⟩
  · exact h0
  · intro out hg
    obtain ⟨_, hg⟩ := hg
    rw [eventsOf, List.append_nil] at hg
    rw [Run_loop]
    simp only [f_lineage_events_l0_eq, f_lineage_events_l0u, hg, go_sem]
  · intro i pre rest x out hp hi0 hi1 hi2 hx hc hw hg ih
    obtain ⟨hn, hg⟩ := hg
    have hxb := hB x (by rw [hp]; simp)
    have hsame := lineage_same x.b x.a hxb
    have ih := fun h1 => ih (out ++ chg x.n x.b x.a) ⟨h1, by rw [List.append_assoc]; exact hg⟩
    have ih := ih (by have h9 := chg_len x.n x.b x.a; clear hw hc hx hg ih hsame h hxb hB hp; rw [List.length_append]; generalize (chg x.n x.b x.a).length = q at *; omega)
    have hq : out.length < 2000000000000 := by clear hw hc hx hg ih hsame h hxb hB hp; omega
    have hb1 : (out.length + 1) * 40 ≤ 140737488355328 := mul40 (by clear hw hc hx hg ih hsame h hxb hB hp hi0 hi1 hi2 hn hL; omega)
    have hb2 : (out.length + 1 + 1) * 40 ≤ 140737488355328 := mul40 (by clear hw hc hx hg ih hsame h hxb hB hp hi0 hi1 hi2 hn hL; omega)
    have hne : decide (x.b = x.a) = decide (x.b = x.a) := rfl
    rw [Run_loop]
    obtain ⟨n, b, a⟩ := x
    simp only [] at hsame ih hxb
    cases b with
    | none => cases a with
      | none =>
        simp only [chg, reduceCtorEq, go_sem] at ih hsame
        simp only [f_lineage_events_l0_eq, f_lineage_events_l0u, hx, hc, hw, hsame, ih, go_sem]
      | some s =>
        simp only [chg, reduceCtorEq, go_sem] at ih hsame
        simp only [f_lineage_events_l0_eq, f_lineage_events_l0u, hx, hc, hw, hsame, hb1, ih, Option.isNone_some, Option.isNone_none, go_sem]
    | some r => cases a with
      | none =>
        simp only [chg, reduceCtorEq, go_sem] at ih hsame
        simp only [f_lineage_events_l0_eq, f_lineage_events_l0u, hx, hc, hw, hsame, hb1, ih, Option.isNone_some, Option.isNone_none, go_sem]
      | some s =>
        by_cases hrs : r = s
        · have hd : decide (some r = some s) = true := by simp [hrs]
          rw [hd] at hsame
          simp only [chg, hrs, go_sem] at ih hsame
          simp only [f_lineage_events_l0_eq, f_lineage_events_l0u, hx, hc, hw, hsame, hrs, ih, go_sem]
        · have hd : decide (some r = some s) = false := by simp [hrs]
          rw [hd] at hsame
          simp only [chg, hrs, Option.some.injEq, go_sem] at ih hsame
          simp only [f_lineage_events_l0_eq, f_lineage_events_l0u, hx, hc, hw, hsame, hb1, hb2, ih, Option.isNone_some, Option.isNone_none, go_sem]
@[go_sem] theorem lineage_events (L : List Item) (hL : L.length < 1000000000000) (hB : ∀ x ∈ L, lenB x.b) : Den prog 15 [.sl (L.map Item.cells)] [] = some (.sl ((eventsOf L).map Event.cells), []) := by
  rw [Den_ofK [] pr_lineage_events rfl]
  simp only [f_lineage_events, go_sem]
  refine lineage_events_l0 L hL hB ?_
  simp only [go_sem]
/-- What merge passes to each, one after the other. -/
def mergeS {A B S : Type} (na : A → Int) (nb : B → Int) (step : S → Int → Option A → Option B → S) : S → List A → List B → S
  | s, [], [] => s
  | s, x :: a, [] => mergeS na nb step (step s (na x) (some x) none) a []
  | s, [], y :: b => mergeS na nb step (step s (nb y) none (some y)) [] b
  | s, x :: a, y :: b => if na x < nb y then mergeS na nb step (step s (na x) (some x) none) a (y :: b)
      else if nb y < na x then mergeS na nb step (step s (nb y) none (some y)) (x :: a) b
      else mergeS na nb step (step s (na x) (some x) (some y)) a b
termination_by _ a b => a.length + b.length
theorem merge_LL_l0 {S β : Type} {K : Ex × Env × St → Option β} {Z : Option β} (fid : Nat) (caps : List AV) (hcn : norms caps = caps) (hcr : norefs caps = false) (σ : S → St) (bs : Nat) (hbs : ∀ s, (σ s).length = bs) (cnt : S → Nat)
    (step : S → Int → Option Line → Option Line → S) (good : S → Prop) (okA : Line → Prop) (okB : Line → Prop)
    (hstep : ∀ s n x y, good s → cnt s < 1000000000000 → (∀ x', x = some x' → okA x' ∧ n = x'.n) → (∀ y', y = some y' → okB y' ∧ n = y'.n) → (x = none → y = none → False) →
      Den prog fid (.int .i64 n :: lineP x :: lineP y :: caps) (σ s) = some (.tup [], σ (step s n x y)) ∧ good (step s n x y) ∧ cnt (step s n x y) ≤ cnt s + 1) :
    ∀ (k : Nat) (a : List Line) (b : List Line) (s : S), a.length + b.length ≤ k → good s → cnt s + k < 1000000000000 → (∀ x ∈ a, okA x ∧ x.n < 4611686018427387904) → (∀ y ∈ b, okB y ∧ y.n < 4611686018427387904) →
      K (.exit 0, [(0, .sl []), (1, .sl []), (2, .fn 10 []), (3, .fn 10 []), (4, .fn fid caps), (20, .bool false)], σ (mergeS Line.n Line.n step s a b)) = Z →
      (Run prog bs (.loop 0 [0, 1, 2, 3, 4] f_lineage_merge_api_Line_api_Line_l0) [(0, .sl (a.map Line.cells)), (1, .sl (b.map Line.cells)), (2, .fn 10 []), (3, .fn 10 []), (4, .fn fid caps)] (σ s)).bind K = Z
  | 0, a, b, s, hk, hg, hc, ha, hb, h => by
    have ha0 : a = [] := by cases a with
      | nil => rfl
      | cons => simp at hk
    have hb0 : b = [] := by cases b with
      | nil => rfl
      | cons => simp at hk
    subst ha0; subst hb0
    rw [mergeS] at h
    have hz : decide ((0 : Int) < 0) = false := rfl
    rw [Run_loop]
    simp only [f_lineage_merge_api_Line_api_Line_l0_eq, f_lineage_merge_api_Line_api_Line_l0u, hz, hbs, hcn, hcr, Int.natCast_zero, h, go_sem]
  | k + 1, a, b, s, hk, hg, hc, ha, hb, h => by
    have IH := merge_LL_l0 (K := K) (Z := Z) fid caps hcn hcr σ bs hbs cnt step good okA okB hstep k
    have hz : decide ((0 : Int) < 0) = false := rfl
    have hp : ∀ q : Nat, decide ((0 : Int) < (q : Int) + 1) = true := by intro q; rw [decide_eq_true_eq]; omega
    cases a with
    | nil => cases b with
      | nil =>
        rw [mergeS] at h
        clear IH hstep
        rw [Run_loop]
        simp only [f_lineage_merge_api_Line_api_Line_l0_eq, f_lineage_merge_api_Line_api_Line_l0u, hz, hbs, hcn, hcr, Int.natCast_zero, h, go_sem]
      | cons y b =>
        obtain ⟨hy1, hy2⟩ := hb y (by simp)
        obtain ⟨e, g, c⟩ := hstep s y.n none (some y) hg (by omega) (by simp) (by simp; exact hy1) (by simp)
        have ih := IH [] b (step s y.n none (some y)) (by simp at hk ⊢; omega) g (by omega) (by simp) (fun z hz => hb z (by simp [hz])) (by rw [mergeS] at h; exact h)
        have hd : decide (y.n = y.n) = true := by simp
        clear IH hstep h
        rw [Run_loop]
        simp only [go_sem] at e ih
        simp only [f_lineage_merge_api_Line_api_Line_l0_eq, f_lineage_merge_api_Line_api_Line_l0u, hz, hp, hd, hy2, hbs, hcn, hcr, e, ih, Int.natCast_zero, go_sem]
    | cons x a =>
      obtain ⟨hx1, hx2⟩ := ha x (by simp)
      have hdx : decide (x.n = x.n) = true := by simp
      cases b with
      | nil =>
        obtain ⟨e, g, c⟩ := hstep s x.n (some x) none hg (by omega) (by simp; exact hx1) (by simp) (by simp)
        have ih := IH a [] (step s x.n (some x) none) (by simp at hk ⊢; omega) g (by omega) (fun z hz => ha z (by simp [hz])) (by simp) (by rw [mergeS] at h; exact h)
        clear IH hstep h
        rw [Run_loop]
        simp only [go_sem] at e ih
        simp only [f_lineage_merge_api_Line_api_Line_l0_eq, f_lineage_merge_api_Line_api_Line_l0u, hz, hp, hdx, hbs, hcn, hcr, e, ih, Int.natCast_zero, go_sem]
      | cons y b =>
        obtain ⟨hy1, hy2⟩ := hb y (by simp)
        have hdy : decide (y.n = y.n) = true := by simp
        by_cases h1 : x.n < y.n
        · obtain ⟨e, g, c⟩ := hstep s x.n (some x) none hg (by omega) (by simp; exact hx1) (by simp) (by simp)
          have ih := IH a (y :: b) (step s x.n (some x) none) (by simp at hk ⊢; omega) g (by omega) (fun z hz => ha z (by simp [hz])) hb (by rw [mergeS, if_pos h1] at h; exact h)
          have h2 : (y.n < x.n) = False := by simp; omega
          have h3 : decide (y.n = x.n) = false := by simp; omega
          clear IH hstep h
          rw [Run_loop]
          simp only [go_sem] at e ih
          simp only [f_lineage_merge_api_Line_api_Line_l0_eq, f_lineage_merge_api_Line_api_Line_l0u, hz, hp, hdx, hdy, h2, h3, hbs, hcn, hcr, e, ih, Int.natCast_zero, go_sem]
        · by_cases h2 : y.n < x.n
          · obtain ⟨e, g, c⟩ := hstep s y.n none (some y) hg (by omega) (by simp) (by simp; exact hy1) (by simp)
            have ih := IH (x :: a) b (step s y.n none (some y)) (by simp at hk ⊢; omega) g (by omega) ha (fun z hz => hb z (by simp [hz])) (by rw [mergeS, if_neg h1, if_pos h2] at h; exact h)
            have h3 : decide (x.n = y.n) = false := by simp; omega
            clear IH hstep h
            rw [Run_loop]
            simp only [go_sem] at e ih
            simp only [f_lineage_merge_api_Line_api_Line_l0_eq, f_lineage_merge_api_Line_api_Line_l0u, hz, hp, hdx, hdy, h2, h3, hbs, hcn, hcr, e, ih, Int.natCast_zero, go_sem]
          · have h3 : x.n = y.n := by omega
            obtain ⟨e, g, c⟩ := hstep s x.n (some x) (some y) hg (by omega) (by simp; exact hx1) (by simp; exact ⟨hy1, h3⟩) (by simp)
            have ih := IH a b (step s x.n (some x) (some y)) (by simp at hk ⊢; omega) g (by omega) (fun z hz => ha z (by simp [hz])) (fun z hz => hb z (by simp [hz])) (by rw [mergeS, if_neg h1, if_neg h2] at h; exact h)
            have h4 : (y.n < y.n) = False := by simp
            clear IH hstep h
            rw [Run_loop]
            simp only [h3, go_sem] at e ih
            simp only [f_lineage_merge_api_Line_api_Line_l0_eq, f_lineage_merge_api_Line_api_Line_l0u, hz, hp, hdx, hdy, h3, h4, hbs, hcn, hcr, e, ih, Int.natCast_zero, go_sem]
theorem merge_LL {S : Type} (fid : Nat) (caps : List AV) (hcn : norms caps = caps) (hcr : norefs caps = false) (σ : S → St) (bs : Nat) (hbs : ∀ s, (σ s).length = bs) (cnt : S → Nat)
    (step : S → Int → Option Line → Option Line → S) (good : S → Prop) (okA : Line → Prop) (okB : Line → Prop)
    (hstep : ∀ s n x y, good s → cnt s < 1000000000000 → (∀ x', x = some x' → okA x' ∧ n = x'.n) → (∀ y', y = some y' → okB y' ∧ n = y'.n) → (x = none → y = none → False) →
      Den prog fid (.int .i64 n :: lineP x :: lineP y :: caps) (σ s) = some (.tup [], σ (step s n x y)) ∧ good (step s n x y) ∧ cnt (step s n x y) ≤ cnt s + 1)
    (a : List Line) (b : List Line) (s : S) (hg : good s) (hc : cnt s + (a.length + b.length) < 1000000000000) (ha : ∀ x ∈ a, okA x ∧ x.n < 4611686018427387904) (hb : ∀ y ∈ b, okB y ∧ y.n < 4611686018427387904) :
    Den prog 14 [.sl (a.map Line.cells), .sl (b.map Line.cells), .fn 10 [], .fn 10 [], .fn fid caps] (σ s) = some (.tup [], σ (mergeS Line.n Line.n step s a b)) := by
  rw [Den_ofK (σ s) pr_lineage_merge_api_Line_api_Line rfl]
  simp only [f_lineage_merge_api_Line_api_Line, hbs, go_sem]
  refine merge_LL_l0 fid caps hcn hcr σ bs hbs cnt step good okA okB hstep _ a b s (Nat.le_refl _) hg hc ha hb ?_
  have hlen := hbs (mergeS Line.n Line.n step s a b)
  simp only [go_sem, frz_tup, finV, oneOf, fin]
  rw [← hlen, List.take_length]
def σF (out : List Item) : St := [.arr 0 3 (out.map Item.cells), .cells [.osl 0 0 out.length 0 out.length]]
theorem Feed_1 (out : List Item) (n : Int) (x y : Option Line) (h : out.length < 1000000000000) : Den prog 13 (.int .i64 n :: lineP x :: lineP y :: [.ref 1 0]) (σF out) = some (.tup [], σF (out ++ [⟨n, x.map Line.r, y.map Line.r⟩])) := by
  have hb : (out.length + 1) * 24 ≤ 140737488355328 := mul24 (by omega)
  rw [Den_ofK (σF out) pr_lineage_Feed_1 rfl]
  cases x <;> cases y <;> simp only [f_lineage_Feed_1, σF, hb, finV, oneOf, go_sem]
theorem rise_all : ∀ {L : List Line} {last nx : Int}, rise nx last L = true → ∀ x ∈ L, 0 ≤ x.n ∧ x.n < nx
  | [], _, _, _ => by simp
  | x :: r, last, nx, h => by
    rw [rise] at h
    split at h
    · exact absurd h (by simp)
    · intro y hy
      simp at hy
      rcases hy with rfl | hy
      · omega
      · exact rise_all h y hy
theorem valid_all {t : Table} (h : valid t = true) : t.next ≤ 4611686018427387904 ∧ t.l.length ≤ 4096 ∧ ∀ x ∈ t.l, 0 ≤ x.n ∧ x.n < 4611686018427387904 := by
  unfold valid at h
  split at h
  · exact absurd h (by simp)
  · have := rise_all h
    refine ⟨by omega, by omega, fun x hx => ?_⟩
    have := this x hx
    omega
/-- All rows are of a size that memory holds. -/
def okL (L : List Line) : Prop := ∀ x ∈ L, x.r.length < 1000000000000000
def feedItems (a b : List Line) : List Item := mergeS Line.n Line.n (fun out n x y => out ++ [⟨n, x.map Line.r, y.map Line.r⟩]) [] a b
def feed (a b : Table) : List Event := if valid a = true ∧ valid b = true then eventsOf (feedItems a.l b.l) else []
theorem mergeS_inv {A B S : Type} {na : A → Int} {nb : B → Int} {step : S → Int → Option A → Option B → S} (P : S → Prop) :
    ∀ (a : List A) (b : List B) (s : S), P s → (∀ s n x y, P s → (∀ x', x = some x' → x' ∈ a) → (∀ y', y = some y' → y' ∈ b) → P (step s n x y)) → P (mergeS na nb step s a b)
  | [], [], s, h, _ => by rw [mergeS]; exact h
  | x :: a, [], s, h, hs => by
    rw [mergeS]
    exact mergeS_inv P a [] _ (hs _ _ _ _ h (by simp) (by simp)) fun s n u v hp hu hv => hs s n u v hp (fun z hz => by simp [hu z hz]) hv
  | [], y :: b, s, h, hs => by
    rw [mergeS]
    exact mergeS_inv P [] b _ (hs _ _ _ _ h (by simp) (by simp)) fun s n u v hp hu hv => hs s n u v hp hu (fun z hz => by simp [hv z hz])
  | x :: a, y :: b, s, h, hs => by
    rw [mergeS]
    split
    · exact mergeS_inv P a (y :: b) _ (hs _ _ _ _ h (by simp) (by simp)) fun s n u v hp hu hv => hs s n u v hp (fun z hz => by simp [hu z hz]) hv
    · split
      · exact mergeS_inv P (x :: a) b _ (hs _ _ _ _ h (by simp) (by simp)) fun s n u v hp hu hv => hs s n u v hp hu (fun z hz => by simp [hv z hz])
      · exact mergeS_inv P a b _ (hs _ _ _ _ h (by simp) (by simp)) fun s n u v hp hu hv => hs s n u v hp (fun z hz => by simp [hu z hz]) (fun z hz => by simp [hv z hz])
termination_by a b => a.length + b.length
theorem mergeS_len {A B S : Type} {na : A → Int} {nb : B → Int} {step : S → Int → Option A → Option B → S} (cnt : S → Nat) (k : Nat) (hs : ∀ s n x y, cnt (step s n x y) ≤ cnt s + k) :
    ∀ (a : List A) (b : List B) (s : S), cnt (mergeS na nb step s a b) ≤ cnt s + k * (a.length + b.length)
  | [], [], s => by rw [mergeS]; omega
  | x :: a, [], s => by
    rw [mergeS]
    have h1 := mergeS_len cnt k hs (na := na) (nb := nb) a [] (step s (na x) (some x) none)
    have h2 := hs s (na x) (some x) none
    simp only [List.length_cons, Nat.mul_add, Nat.mul_one] at h1 ⊢; omega
  | [], y :: b, s => by
    rw [mergeS]
    have h1 := mergeS_len cnt k hs (na := na) (nb := nb) [] b (step s (nb y) none (some y))
    have h2 := hs s (nb y) none (some y)
    simp only [List.length_cons, Nat.mul_add, Nat.mul_one] at h1 ⊢; omega
  | x :: a, y :: b, s => by
    rw [mergeS]
    split
    · have h1 := mergeS_len cnt k hs (na := na) (nb := nb) a (y :: b) (step s (na x) (some x) none)
      have h2 := hs s (na x) (some x) none
      simp only [List.length_cons, Nat.mul_add, Nat.mul_one] at h1 ⊢; omega
    · split
      · have h1 := mergeS_len cnt k hs (na := na) (nb := nb) (x :: a) b (step s (nb y) none (some y))
        have h2 := hs s (nb y) none (some y)
        simp only [List.length_cons, Nat.mul_add, Nat.mul_one] at h1 ⊢; omega
      · have h1 := mergeS_len cnt k hs (na := na) (nb := nb) a b (step s (na x) (some x) (some y))
        have h2 := hs s (na x) (some x) (some y)
        simp only [List.length_cons, Nat.mul_add, Nat.mul_one] at h1 ⊢; omega
termination_by a b => a.length + b.length
theorem lineage_Feed (a b : Table) (hLa : a.l.length < 1000000000000000) (hLb : b.l.length < 1000000000000000) (ha : okL a.l) (hb : okL b.l) : Den prog 21 [.agg [.int .i64 a.next, .sl (a.l.map Line.cells)], .agg [.int .i64 b.next, .sl (b.l.map Line.cells)]] [] = some (.sl ((feed a b).map Event.cells), []) := by
  rw [Den_ofK [] pr_lineage_Feed rfl]
  by_cases va : valid a = true
  · by_cases vb : valid b = true
    · have hm := merge_LL 13 [.ref 1 0] rfl rfl σF 2 (fun _ => rfl) List.length (fun out n x y => out ++ [⟨n, x.map Line.r, y.map Line.r⟩]) (fun out => ∀ i ∈ out, lenB i.b) (fun l => l.r.length < 1000000000000000) (fun l => l.r.length < 1000000000000000)
        (fun s n x y hg hc hx hy _ => ⟨Feed_1 s n x y hc, by
          intro i hi
          simp at hi
          rcases hi with hi | rfl
          · exact hg i hi
          · intro r hr
            cases x with
            | none => simp at hr
            | some x => simp at hr; subst hr; exact (hx x rfl).1, by simp⟩) a.l b.l []
        (by simp) (by obtain ⟨_, h1, _⟩ := valid_all va; obtain ⟨_, h2, _⟩ := valid_all vb; clear ha hb hLa hLb; simp; omega)
        (fun x hx => ⟨ha x hx, ((valid_all va).2.2 x hx).2⟩) (fun x hx => ⟨hb x hx, ((valid_all vb).2.2 x hx).2⟩)
      change Den prog 14 _ _ = some (_, σF (feedItems a.l b.l)) at hm
      have hlen : (feedItems a.l b.l).length < 1000000000000 := by
        have := mergeS_len (na := Line.n) (nb := Line.n) (step := fun out n x y => out ++ [(⟨n, x.map Line.r, y.map Line.r⟩ : Item)]) List.length 1 (fun s n x y => by simp) a.l b.l []
        obtain ⟨_, h1, _⟩ := valid_all va; obtain ⟨_, h2, _⟩ := valid_all vb
        change (feedItems a.l b.l).length ≤ _ at this
        clear ha hb hLa hLb hm
        simp at this; omega
      have hbb : ∀ i ∈ feedItems a.l b.l, lenB i.b := mergeS_inv (fun (out : List Item) => ∀ i ∈ out, lenB i.b) a.l b.l [] (by simp) fun s n x y hp hx _ i hi => by
        simp at hi
        rcases hi with hi | rfl
        · exact hp i hi
        · intro r hr
          cases x with
          | none => simp at hr
          | some x => simp at hr; subst hr; exact ha x (hx x rfl)
      have he := lineage_events _ hlen hbb
      have hf : feed a b = eventsOf (feedItems a.l b.l) := by rw [feed, if_pos ⟨va, vb⟩]
      simp only [σF, go_sem] at hm
      rw [hf]
      simp only [f_lineage_Feed, hLa, hLb, va, vb, hm, he, go_sem]
    · have vb' : valid b = false := by simpa using vb
      have hf : feed a b = [] := by rw [feed, if_neg (by simp [vb])]
      rw [hf]
      simp only [f_lineage_Feed, hLa, hLb, va, vb', go_sem]
  · have va' : valid a = false := by simpa using va
    have hf : feed a b = [] := by rw [feed, if_neg (by simp [va])]
    rw [hf]
    simp only [f_lineage_Feed, hLa, hLb, va', go_sem]
end Go.Den
