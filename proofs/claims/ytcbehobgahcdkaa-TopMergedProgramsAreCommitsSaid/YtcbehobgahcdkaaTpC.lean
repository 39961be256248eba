/- Tables: SameTable, SameLines, order (picked). -/
import Derived.Test.YtcbehobgahcdkaaSProg
import Derived.Test.YtcbehobgahcdkaaSFeedL
namespace Go.Den
open Go
set_option linter.unusedSimpArgs false
set_option linter.unusedVariables false
set_option maxRecDepth 100000
set_option maxHeartbeats 1000000
/-- The numbers differ. -/
def nodup (L : List Line) : Prop := (L.map Line.n).Nodup
def findL (L : List Line) (n : Int) : Option Line := L.find? fun x => decide (x.n = n)
def sameS (A B : List Line) (n : Int) : Bool := decide ((findL A n).map Line.r = (findL B n).map Line.r)
theorem R27_SameTable (m n : Int) (A B : List Line) (hL : A.length < 1000000000000000) (hA : rowsOk A) : Den prog 109 [.agg [.int .i64 m, .sl (A.map Line.cells)], .agg [.int .i64 n, .sl (B.map Line.cells)]] [] = some (.bool (decide (m = n) && decide (A = B)), []) := by
  rw [Den_ofK [] pr_R27_SameTable rfl]
  cases dn : decide (m = n) with
  | false => simp only [f_R27_SameTable, dn, Bool.false_and, go_sem]
  | true =>
  by_cases hl : A.length = B.length
  · have hd : decide ((A.length : Int) = B.length) = true := by rw [decide_eq_true_eq]; omega
    simp only [f_R27_SameTable, dn, hd, Bool.true_and, go_sem]
    refine zip_ind A B hl hL (fun i => (Run prog 0 (.loop 0 [2, 3, 5] f_R27_SameTable_l0) [(2, .rptr [.int .i64 m, .sl (A.map Line.cells)]), (3, .rptr [.int .i64 n, .sl (B.map Line.cells)]), (5, .int .i64 i)] []).bind _ = _) ?_ ?_
    · intro h
      have hab : decide (A = B) = true := by simp [h]
      rw [Run_loop]
      simp only [f_R27_SameTable_l0_eq, f_R27_SameTable_l0u, hab, go_sem]
    · intro i x y hx hy hc hw hxA hyB h1 h0
      have hxr : x.r.length < 1000000000000000 := by have := hA x hxA; omega
      rw [Run_loop]
      by_cases c2 : x.r = y.r
      · have d2 : decide (x.r = y.r) = true := by simpa using c2
        by_cases c1 : x.n = y.n
        · have d1 : decide (x.n = y.n) = true := by simpa using c1
          have h1 := h1 (by cases x; cases y; simp_all)
          simp only [f_R27_SameTable_l0_eq, f_R27_SameTable_l0u, hx, hy, hc, hw, d1, d2, hxr, h1, go_sem]
        · have d1 : decide (x.n = y.n) = false := by simpa using c1
          have hab : decide (A = B) = false := by simpa using h0 (by intro e; exact c1 (by rw [e]))
          simp only [f_R27_SameTable_l0_eq, f_R27_SameTable_l0u, hx, hy, hc, hw, d1, d2, hxr, hab, go_sem]
      · have d2 : decide (x.r = y.r) = false := by simpa using c2
        have hab : decide (A = B) = false := by simpa using h0 (by intro e; exact c2 (by rw [e]))
        simp only [f_R27_SameTable_l0_eq, f_R27_SameTable_l0u, hx, hy, hc, hw, d2, hxr, hab, go_sem]
  · have hd : decide ((A.length : Int) = B.length) = false := by simp; omega
    have hab : decide (A = B) = false := by simp only [decide_eq_false_iff_not]; intro h; exact hl (by rw [h])
    simp only [f_R27_SameTable, dn, hd, hab, Bool.and_false, go_sem]
theorem R30_SameLines (A B : List Line) (hL : A.length < 1000000000000000) (hA : rowsOk A) : Den prog 134 [.sl (A.map Line.cells), .sl (B.map Line.cells)] [] = some (.bool (decide (A = B)), []) := by
  have h := R27_SameTable 0 0 A B hL hA
  have e : decide ((0 : Int) = 0) = true := rfl
  rw [e, Bool.true_and] at h
  rw [Den_ofK [] pr_R30_SameLines rfl]
  simp only [f_R30_SameLines, h, go_sem]
def schS (cs : List Chg) (n : Nat) : List Fld := (afterS [] 1 0 (madeC [] 1 (cs.take n))).fs
theorem schS_inv (cs : List Chg) (n : Nat) : SInv (schS cs n) (afterS [] 1 0 (madeC [] 1 (cs.take n))).next := afterS_inv (madeC_ok _ _ _) .nil
theorem tabS_facts (fs : List Fld) (raw : List (List Val)) (n : Int) (hF : fs.length ≤ 64) : (tabS fs raw n).l.length ≤ n.toNat ∧ 0 ≤ (tabS fs raw n).next ∧ (tabS fs raw n).next ≤ 2 * (n.toNat : Int) ∧ (∀ x ∈ (tabS fs raw n).l, 0 ≤ x.n ∧ x.n < (tabS fs raw n).next ∧ x.r.length ≤ 64) ∧ (tabS fs raw n).l.Pairwise fun x y => x.n < y.n := by
  have key : ∀ (L : List (List Cell)) (s : List Line × Int), (∀ r ∈ L, r.length ≤ 64) → 0 ≤ s.2 → (∀ x ∈ s.1, 0 ≤ x.n ∧ x.n < s.2 ∧ x.r.length ≤ 64) → s.1.Pairwise (fun x y => x.n < y.n) →
      (L.foldl tabStep s).1.length = s.1.length + L.length ∧ s.2 ≤ (L.foldl tabStep s).2 ∧ (L.foldl tabStep s).2 ≤ s.2 + 2 * (L.length : Int) ∧ (∀ x ∈ (L.foldl tabStep s).1, 0 ≤ x.n ∧ x.n < (L.foldl tabStep s).2 ∧ x.r.length ≤ 64) ∧ (L.foldl tabStep s).1.Pairwise fun x y => x.n < y.n := by
    intro L
    induction L with
    | nil => intro s _ h0 h1 h2; exact ⟨by simp, by simp, by simp, h1, h2⟩
    | cons r q ih =>
      intro s hr h0 h1 h2
      rw [List.foldl_cons]
      obtain ⟨out, k⟩ := s
      have hk : k ≤ (bif decide (k.tmod 3 = 2) then k + 1 else k) ∧ (bif decide (k.tmod 3 = 2) then k + 1 else k) ≤ k + 1 := by
        cases decide (k.tmod 3 = 2) <;> simp only [cond_true, cond_false] <;> omega
      simp only [] at h0 h1
      have hs : tabStep (out, k) r = (out ++ [⟨bif decide (k.tmod 3 = 2) then k + 1 else k, r⟩], (bif decide (k.tmod 3 = 2) then k + 1 else k) + 1) := rfl
      rw [hs]
      generalize (bif decide (k.tmod 3 = 2) then k + 1 else k) = k' at *
      obtain ⟨q1, q2, q3, q4, q5⟩ := ih (out ++ [⟨k', r⟩], k' + 1) (fun z hz => hr z (by simp [hz])) (by simp only []; omega)
        (by
          intro x hx
          simp only [List.mem_append, List.mem_singleton] at hx
          rcases hx with hx | rfl
          · have := h1 x hx; simp only []; omega
          · have := hr r (by simp); simp only []; omega)
        (by
          rw [List.pairwise_append]
          refine ⟨h2, by simp, fun x hx y hy => ?_⟩
          simp at hy; subst hy
          have := h1 x hx; simp only []; omega)
      simp only [] at q2 q3
      refine ⟨by rw [q1]; simp; omega, by simp only []; omega, by simp only [List.length_cons]; omega, q4, q5⟩
  obtain ⟨q1, q2, q3, q4, q5⟩ := key ((raw.take n.toNat).map (rowS fs)) ([], 0) (by
    intro r hr
    obtain ⟨v, _, rfl⟩ := List.mem_map.1 hr
    have := rowS_len fs v; omega) (by simp) (by simp) (by simp)
  have hl : ((raw.take n.toNat).map (rowS fs)).length ≤ n.toNat := by rw [List.length_map, List.length_take]; omega
  refine ⟨by simp only [tabS]; rw [q1]; simp only [List.length_nil]; omega, by simp only [tabS]; simp only [] at q2; omega, by simp only [tabS]; simp only [] at q3; omega, q4, q5⟩
/-- A table as they are made here. -/
structure TOK (t : Table) : Prop where
  len : t.l.length ≤ 100000
  n0 : 0 ≤ t.next
  n1 : t.next ≤ 1000000
  rng : ∀ x ∈ t.l, 0 ≤ x.n ∧ x.n < t.next
  row : ∀ x ∈ t.l, x.r.length ≤ 1000
  srt : t.l.Pairwise fun x y => x.n < y.n
theorem TOK.rows {t : Table} (h : TOK t) : rowsOk t.l := fun x hx => by have := h.row x hx; omega
theorem addL_mem {n : Int} : ∀ {q : List (List Cell)} {n : Int} {x : Line}, x ∈ addL n q → n ≤ x.n ∧ x.n < n + q.length ∧ x.r ∈ q
  | [], n, x, h => by simp [addL] at h
  | r :: q, n, x, h => by
    simp only [addL, List.mem_cons] at h
    rcases h with rfl | h
    · simp; omega
    · obtain ⟨h1, h2, h3⟩ := addL_mem (n := n) h
      refine ⟨by omega, by simp only [List.length_cons]; omega, by simp [h3]⟩
theorem addL_srt : ∀ (q : List (List Cell)) (n : Int), (addL n q).Pairwise fun x y => x.n < y.n
  | [], n => by simp [addL]
  | r :: q, n => by
    rw [addL, List.pairwise_cons]
    refine ⟨fun y hy => ?_, addL_srt q (n + 1)⟩
    have := addL_mem (n := n) hy; simp only []; omega
theorem find_n {L : List Line} {n : Int} {x : Line} (h : findL L n = some x) : x.n = n ∧ x ∈ L := by
  unfold findL at h
  exact ⟨by simpa using List.find?_some h, List.mem_of_find?_eq_some h⟩
theorem find_some {L : List Line} (hd : nodup L) {x : Line} (hx : x ∈ L) : findL L x.n = some x := by
  induction L with
  | nil => simp at hx
  | cons y r ih =>
    unfold findL
    rw [List.find?_cons]
    unfold nodup at hd
    rw [List.map_cons, List.nodup_cons] at hd
    rcases List.mem_cons.1 hx with rfl | hx
    · simp
    · have : ¬ y.n = x.n := fun e => hd.1 (by rw [e]; exact List.mem_map_of_mem hx)
      simp only [this, decide_false]
      exact ih hd.2 hx
theorem SameTable_refl {n : Int} {L : List Line} (h : L.length < 1000000000000000) (hr : rowsOk L) : Den prog 109 [.agg [.int .i64 n, .sl (L.map Line.cells)], .agg [.int .i64 n, .sl (L.map Line.cells)]] [] = some (.bool true, []) := by
  have := R27_SameTable n n L L h hr
  simpa using this
end Go.Den
