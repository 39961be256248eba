/- Ch. 07: the cases of the laws; numbers stay in their range. -/
import Derived.Test.YtghipgdajgeoiaaGreatDoorS07D
import Derived.Test.YtghipgdajgeoiaaGreatDoorSan07
namespace Go.Den
open Go
set_option linter.unusedSimpArgs false
set_option linter.unusedVariables false
set_option maxRecDepth 100000
set_option maxHeartbeats 1000000
/-! Numbers in range. -/
def RB (r : List Cell) : Prop := ∀ c ∈ r, i64B c.v.n
theorem b0 : i64B 0 := ⟨by decide, by decide⟩
theorem getC_b {r : List Cell} (h : RB r) (id : Int) : i64B (getC r id).n := by
  induction r with
  | nil => exact b0
  | cons c r ih =>
    rw [getC]
    split
    · exact h c (by simp)
    · exact ih fun x hx => h x (by simp [hx])
theorem putL_or {r : List Cell} {id : Int} {v : Val} : ∀ {c : Cell}, c ∈ putL r id v → c = ⟨id, v⟩ ∨ c ∈ r := by
  have one : ∀ {c : Cell}, c ∈ (bif v.null then [] else [(⟨id, v⟩ : Cell)]) → c = ⟨id, v⟩ := by
    intro c h
    cases hv : v.null with
    | true => rw [hv] at h; simp at h
    | false => rw [hv] at h; simpa using h
  induction r with
  | nil => intro c h; exact .inl (one h)
  | cons x r ih =>
    intro c h
    rw [putL] at h
    split at h
    · rcases List.mem_cons.1 h with rfl | h
      · exact .inr (by simp)
      · rcases ih h with h | h
        · exact .inl h
        · exact .inr (by simp [h])
    · rcases List.mem_append.1 h with h | h
      · exact .inl (one h)
      · split at h
        · exact .inr (by simp [h])
        · exact .inr h
theorem putL_b {r : List Cell} (h : RB r) (id : Int) {v : Val} (hv : i64B v.n) : RB (putL r id v) := fun c hc => by
  rcases putL_or hc with rfl | h1
  · exact hv
  · exact h c h1
theorem divV_b (s t : ByteArray) : i64B (divV s t).1.n ∧ i64B (divV s t).2.n := by
  unfold divV
  cases decide (0 ≤ ixS s t) <;> exact ⟨b0, b0⟩
theorem conV_b (a b : Val) (t : ByteArray) : i64B (conV a b t).n := by
  unfold conV
  cases a.null && b.null <;> exact b0
theorem apart_b {r : List Cell} (h : RB r) (a x y : Int) (t : ByteArray) : RB (apartL r a x y t) := by
  unfold apartL
  have h0 := putL_b h a (v := nullV) b0
  cases (getC r a).null with
  | true => exact h0
  | false => exact putL_b (putL_b h0 x (divV_b _ t).1) y (divV_b _ t).2
theorem fwd_b {r : List Cell} (h : RB r) (c : Chg) (n : Int) : RB (fwdL c n r) := by
  unfold fwdL
  cases decide (c.kind = 2) with
  | true => exact putL_b h _ b0
  | false => cases decide (c.kind = 6) with
    | true => exact apart_b h _ _ _ _
    | false => cases decide (c.kind = 7) with
      | true => exact putL_b (putL_b (putL_b h _ b0) _ b0) _ (conV_b _ _ _)
      | false => exact h
theorem bak_b {r : List Cell} (h : RB r) (c : Chg) (n : Int) : RB (bakL c n r) := by
  unfold bakL
  cases decide (c.kind = 1) with
  | true => exact putL_b h _ b0
  | false => cases decide (c.kind = 4) with
    | true =>
      simp only [cond_false, cond_true]
      unfold narrowL
      cases decide ((getC r c.id).n < -2147483648) || decide (2147483647 < (getC r c.id).n) with
      | true => exact putL_b h _ b0
      | false => exact h
    | false => cases decide (c.kind = 6) with
      | true =>
        refine putL_b (putL_b (putL_b h _ b0) _ b0) _ ?_
        unfold conL
        cases (getC r (n + 1)).null with
        | true => exact getC_b h _
        | false => exact conV_b _ _ _
      | false => cases decide (c.kind = 7) with
        | true => exact apart_b h _ _ _ _
        | false => exact h
/-! The cases. -/
def caseC (L : List Chg) (c : Chg) (V : List Val) : AV := .agg [.sl (L.map Chg.cells), .int .i64 c.kind, .int .i64 c.id, .int .i64 c.wi, .str c.name, .str c.other, .int .i64 c.type, .int .i64 c.par, .str c.sep, .sl (V.map Val.cells)]
def smallB (L : List Chg) (c : Chg) (V : List Val) : Bool := (V.all fun v => !decide (1000 < (v.s.size : Int))) && (decide ((L.length : Int) ≤ 200) && (decide ((V.length : Int) ≤ 200) && decide ((c.sep.size : Int) ≤ 1000)))
theorem small07 (L : List Chg) (c : Chg) (V : List Val) (hV : V.length < 1000000000000000) : Den prog 252 [caseC L c V] [] = some (.bool (smallB L c V), []) := by
  rw [Den_ofK [] pr_L07_small rfl]
  simp only [caseC, f_L07_small, go_sem]
  refine range_ind V hV (fun i (_ : Unit) => (Run prog 0 (.loop 0 [1, 3] f_L07_small_l0) [(1, .rptr [.sl (L.map Chg.cells), .int .i64 c.kind, .int .i64 c.id, .int .i64 c.wi, .str c.name, .str c.other, .int .i64 c.type, .int .i64 c.par, .str c.sep, .sl (V.map Val.cells)]), (3, .int .i64 i)] []).bind _ = _)
    (fun i rest _ => (rest.all fun v => !decide (1000 < (v.s.size : Int))) = V.all fun v => !decide (1000 < (v.s.size : Int))) ?_ ?_ () rfl
  · intro _ h
    have h : (V.all fun v => !decide (1000 < (v.s.size : Int))) = true := h.symm
    rw [Run_loop]
    simp only [smallB, h]
    cases d1 : decide ((L.length : Int) ≤ 200) <;> cases d2 : decide ((V.length : Int) ≤ 200) <;> simp only [f_L07_small_l0_eq, f_L07_small_l0u, d1, d2, go_sem]
  · intro i pre rest x _ hp _ _ _ hx hc hw h ih
    rw [List.all_cons] at h
    rw [Run_loop]
    cases d : decide (1000 < (x.s.size : Int)) with
    | true =>
      rw [d] at h
      have hz : smallB L c V = false := by unfold smallB; rw [← h]; rfl
      simp only [f_L07_small_l0_eq, f_L07_small_l0u, hx, hc, d, hz, go_sem]
    | false =>
      have ih := ih () (by rw [← h, d]; rfl)
      clear h hp
      simp only [f_L07_small_l0_eq, f_L07_small_l0u, hx, hc, hw, d, ih, go_sem]
theorem made07 (L : List Chg) (c : Chg) (V : List Val) (hL : L.length < 1000000000000000) (hc : ∀ c ∈ L, COK2 c) (hcc : COK2 c) (fs : List Fld) (next ta te : Int) (h : afterS [] 1 0 (madeC [] 1 (L.take 20)) = ⟨fs, next, ta, te⟩) :
    Den prog 253 [caseC L c V] [] = some (.tup [.agg [.sl (fs.map Fld.cells), .int .i64 next], .agg (chgS fs next c).cells], []) := by
  have hm := R06_Made L 20 hL hc (by omega) (by omega)
  rw [show (20 : Int).toNat = 20 from rfl] at hm
  have hml := madeC_len (L.take 20) [] 1
  rw [List.length_take] at hml
  have hmo := madeC_ok (L.take 20) [] 1
  generalize madeC [] 1 (L.take 20) = M at *
  have hA := R06_After M (by omega) hmo
  have sv := afterS_sv M (i := 0) hmo SV.nil
  rw [h] at hA sv
  have hch := R06_Change fs next c sv.i hcc
  rw [Den_ofK [] pr_L07_made rfl]
  clear h sv hml hmo hc hcc hL
  simp only [AR.av, cells_chg] at hA hch ⊢
  simp only [caseC, f_L07_made, hm, hA, hch, go_sem]
/-- What the laws start from. -/
theorem start07 (L : List Chg) (k : Nat) : ∃ fs next ta, afterS [] 1 0 (madeC [] 1 (L.take k)) = ⟨fs, next, ta, 0⟩ ∧ SV fs next := by
  have hmo := madeC_ok (L.take k) [] 1
  have hme := after_made (L.take k) [] 1 0
  have sv := afterS_sv (madeC [] 1 (L.take k)) (i := 0) hmo SV.nil
  generalize afterS [] 1 0 (madeC [] 1 (L.take k)) = T at *
  obtain ⟨fs, next, ta, te⟩ := T
  simp only [] at hme sv
  subst hme
  exact ⟨fs, next, ta, rfl, sv⟩
end Go.Den
