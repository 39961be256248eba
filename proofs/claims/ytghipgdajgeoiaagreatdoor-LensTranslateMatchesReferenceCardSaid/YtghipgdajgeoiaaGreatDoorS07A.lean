/- Package lens: rows, texts. -/
import Derived.Test.YtghipgdajgeoiaaGreatDoorS06W
namespace Go.Den
open Go
set_option linter.unusedSimpArgs false
set_option linter.unusedVariables false
set_option maxRecDepth 100000
set_option maxHeartbeats 1000000
/-- A row in which a field is set. -/
def putL : List Cell → Int → Val → List Cell
  | [], id, v => bif v.null then [] else [⟨id, v⟩]
  | c :: r, id, v => if c.id < id then c :: putL r id v else (bif v.null then [] else [⟨id, v⟩]) ++ (if c.id = id then r else c :: r)
theorem putL_pre {pre post : List Cell} {id : Int} (v : Val) (h : ∀ c ∈ pre, c.id < id) : putL (pre ++ post) id v = pre ++ putL post id v := by
  induction pre with
  | nil => rfl
  | cons c r ih =>
    rw [List.cons_append, putL, if_pos (h c (by simp)), ih fun x hx => h x (by simp [hx])]
    rfl
theorem take_map {α β : Type} {f : α → β} {L p q : List α} {i : Int} (h : L = p ++ q) (hi : i = p.length) : (L.map f).take i.toNat = p.map f := by
  subst h; subst hi; rw [List.map_append, Int.toNat_natCast]; exact List.take_left' (by simp)
theorem drop_map {α β : Type} {f : α → β} {L p q : List α} {i : Int} (h : L = p ++ q) (hi : i = p.length) : (L.map f).drop i.toNat = q.map f := by
  subst h; subst hi; rw [List.map_append, Int.toNat_natCast]; exact List.drop_left' (by simp)
theorem lens_set (r : List Cell) (id : Int) (b : Bool) (n : Int) (s : ByteArray) (hL : r.length < 1000000000000) :
    Den prog 224 [.agg [.sl (r.map Cell.cells)], .int .i64 id, .agg [.bool b, .int .i64 n, .str s]] [] = some (.agg [.sl ((putL r id ⟨b, n, s⟩).map Cell.cells)], []) := by
  obtain ⟨m, hw0, hm, hm1⟩ : ∃ m : Int, IntKind.wrap .i64 ((r.length : Int) + 1) = m ∧ m * 40 ≤ 140737488355328 ∧ 0 ≤ m := ⟨_, wrap_i64 (by omega) (by omega), by omega, by omega⟩
  have hz4 := szOK_map 4 Cell.cells r (fun x => rfl)
  rw [Den_ofK [] pr_lens_set rfl]
  simp only [f_lens_set, hw0, hm, hm1, go_sem]
  refine range_ind r (by omega) (fun i (_ : Unit) => (Run prog 0 (.loop 2 [1, 3, 5, 6, 7, 8, 21, 22, 23] f_lens_set_l0) [(1, .int .i64 id), (3, .rptr [.sl (r.map Cell.cells)]), (5, .rptr [.bool b, .int .i64 n, .str s]), (6, .ref 0 0), (7, .osl 1 0 0 0 0), (8, .int .i64 r.length), (21, .sl (r.map Cell.cells)), (22, .int .i64 r.length), (23, .int .i64 i)] [.cells [.nils], .arr 0 4 []]).bind _ = _)
    (fun i rest _ => ∃ pre, r = pre ++ rest ∧ i = pre.length ∧ ∀ c ∈ pre, c.id < id) ?_ ?_ () ⟨[], rfl, rfl, by simp⟩
  · intro _ ⟨pre, hr, hi, hp⟩
    have hr' : r = pre := by simpa using hr
    have ht := take_map (f := Cell.cells) (i := r.length) hr hi
    have hd := drop_map (f := Cell.cells) (i := r.length) hr hi
    have hq : putL r id ⟨b, n, s⟩ = r ++ (bif b then [] else [⟨id, ⟨b, n, s⟩⟩]) := by
      rw [hr', ← List.append_nil pre, putL_pre _ hp, putL, List.append_nil]
    rw [← hr'] at ht
    rw [hq]
    have hil : (r.length : Int) ≤ (r.length : Int) := Int.le_refl _
    have hi0 : (0 : Int) ≤ (r.length : Int) := by omega
    clear hr hr' hp hi hq
    have dz : decide ((0 : Int) < 0) = false := rfl
    simp only [Int.toNat_natCast, List.map_nil] at ht hd
    have hb1 : r.length * 40 ≤ 140737488355328 := by omega
    have hb2 : (r.length + 1) * 40 ≤ 140737488355328 := by omega
    rw [Run_loop]
    cases b <;> simp only [f_lens_set_l0_eq, f_lens_set_l0u, ht, hd, hb1, hb2, hil, hi0, hz4, dz, cond_true, cond_false, go_sem]
  · intro i pre0 rest x _ _ _ hi0 hi1 hx hc hw ⟨pre, hr, hi, hp⟩ ih
    rw [Run_loop]
    by_cases hlt : x.id < id
    · have d : decide (id ≤ x.id) = false := by simp; omega
      have ih := ih () ⟨pre ++ [x], by rw [hr]; simp, by rw [List.length_append]; simp; omega, fun c hc => by
        rcases List.mem_append.1 hc with h | h
        · exact hp c h
        · simp at h; subst h; exact hlt⟩
      clear hr hp
      simp only [f_lens_set_l0_eq, f_lens_set_l0u, hx, hc, hw, d, ih, go_sem]
    · have d : decide (id ≤ x.id) = true := by simp; omega
      have ht := take_map (f := Cell.cells) hr hi
      have hd := drop_map (f := Cell.cells) hr hi
      have hq : putL r id ⟨b, n, s⟩ = pre ++ ((bif b then [] else [⟨id, ⟨b, n, s⟩⟩]) ++ (if x.id = id then rest else x :: rest)) := by
        rw [hr, putL_pre _ hp, putL, if_neg hlt]
      have hlen := congrArg List.length hr
      simp only [List.length_append, List.length_cons] at hlen
      have hb0 : pre.length * 40 ≤ 140737488355328 := by omega
      have hb1 : (pre.length + 1) * 40 ≤ 140737488355328 := by omega
      have hb2 : (pre.length + rest.length) * 40 ≤ 140737488355328 := by omega
      have hb3 : (pre.length + (rest.length + 1)) * 40 ≤ 140737488355328 := by omega
      have hb4 : (pre.length + 1 + rest.length) * 40 ≤ 140737488355328 := by omega
      have hb5 : (pre.length + 1 + (rest.length + 1)) * 40 ≤ 140737488355328 := by omega
      have hn1 : pre.length + (rest.length + 1) = pre.length + 1 + rest.length := by omega
      have hn2 : pre.length + (rest.length + 1 + 1) = pre.length + 1 + (rest.length + 1) := by omega
      have hpz := szOKb_map 4 Cell.cells pre (fun x => rfl)
      have hrz := szOKb_map 4 Cell.cells rest (fun x => rfl)
      have hil : i ≤ (r.length : Int) := by omega
      have dp : decide (0 < (rest.length : Int) + 1) = true := by rw [decide_eq_true_eq]; omega
      rw [List.map_cons] at hd
      rw [hq]
      clear hr hp hq ih hlen
      cases e : decide (x.id = id) with
      | true =>
        have e' : x.id = id := by simpa using e
        rw [if_pos e']
        cases b
        · simp only [f_lens_set_l0_eq, f_lens_set_l0u, hx, hc, d, dp, e, ht, hd, hi0, hil, hb0, hb1, hb4, hpz, hrz, hz4, hn1, cond_true, cond_false, go_sem]
        · simp only [f_lens_set_l0_eq, f_lens_set_l0u, hx, hc, d, dp, e, ht, hd, hi0, hil, hb0, hb2, hpz, hrz, hz4, cond_true, cond_false, go_sem]
      | false =>
        have e' : ¬ x.id = id := by simpa using e
        rw [if_neg e']
        cases b
        · simp only [f_lens_set_l0_eq, f_lens_set_l0u, hx, hc, d, dp, e, ht, hd, hi0, hil, hb0, hb1, hb5, hpz, hrz, hz4, hn2, cond_true, cond_false, go_sem]
        · simp only [f_lens_set_l0_eq, f_lens_set_l0u, hx, hc, d, dp, e, ht, hd, hi0, hil, hb0, hb3, hpz, hrz, hz4, cond_true, cond_false, go_sem]
end Go.Den
