/- Ch. 30, in plain Lean: what merging does with branches. -/
import Derived.Test.YtljecilfdpgdbaaS30G
namespace Go.Den
open Go
set_option linter.unusedSimpArgs false
set_option linter.unusedVariables false
set_option maxRecDepth 100000
set_option maxHeartbeats 1000000
/-- A branch: lines of the base, by their numbers, and new ones behind. -/
structure IsBr (base a : Table) (old new : List Line) : Prop where
  eq : a.l = old ++ new
  sub : (old.map Line.n).Sublist (base.l.map Line.n)
  new : ∀ x ∈ new, base.next ≤ x.n
  nx : base.next ≤ a.next
theorem branch_is (x : Case) (e : Edit) (h0 : 0 ≤ e.skip) : IsBr (baseS x) (branchS (schS x.cs 8) (baseS x) e) (oldS (rowsN (schS x.cs 8) e.rows 6) e.gone e.chg 0 (baseS x).l) (addL ((baseS x).next + e.skip.tmod 3) (rowsN (schS x.cs 8) e.rows 6)) := by
  have hsk : 0 ≤ e.skip.tmod 3 := Int.tmod_nonneg _ h0
  refine ⟨rfl, oldS_sub _ _ _ _ _, fun y hy => ?_, by unfold branchS; simp only []; omega⟩
  have := addL_mem (n := 0) hy; omega
theorem IsBr.old {base a : Table} {old new : List Line} (h : IsBr base a old new) (tb : TOK base) : ∀ x ∈ old, 0 ≤ x.n ∧ x.n < base.next := by
  intro x hx
  obtain ⟨z, hz, e⟩ := List.mem_map.1 (h.sub.subset (List.mem_map_of_mem hx))
  rw [← e]; exact tb.rng z hz
theorem look_app (A B : List Line) (n : Int) : lookL (A ++ B) n = (lookL A n).or (lookL B n) := by
  rw [look_find, look_find, look_find]
  unfold findL
  rw [List.find?_append]
  cases A.find? fun x => decide (x.n = n) <;> rfl
theorem look_out {L : List Line} {n : Int} (h : ∀ x ∈ L, x.n ≠ n) : lookL L n = none := look_none.2 h
theorem IsBr.look {base a : Table} {old new : List Line} (h : IsBr base a old new) {n : Int} (hn : n < base.next) : lookL a.l n = lookL old n := by
  rw [h.eq, look_app, look_out (L := new) fun x hx => by have := h.new x hx; omega]
  simp
theorem kept_old : ∀ {L old : List Line}, (old.map Line.n).Sublist (L.map Line.n) → nodup L → (L.filterMap fun x => (lookL old x.n).map fun r => (⟨x.n, r⟩ : Line)) = old
  | [], old, h, _ => by
    have : old = [] := by simpa using h
    subst this; rfl
  | x :: L, old, h, hd => by
    unfold nodup at hd
    rw [List.map_cons, List.nodup_cons] at hd
    rw [List.filterMap_cons]
    cases old with
    | nil =>
      have e : lookL [] x.n = none := rfl
      rw [e]
      exact kept_old (by simp) hd.2
    | cons y old =>
      rw [List.map_cons, List.map_cons] at h
      by_cases hxy : y.n = x.n
      · have hs : (old.map Line.n).Sublist (L.map Line.n) := by
          rw [hxy] at h
          exact List.cons_sublist_cons.1 h
        have e : lookL (y :: old) x.n = some y.r := by simp [lookL, hxy]
        rw [e]
        simp only [Option.map_some]
        have e2 : (⟨x.n, y.r⟩ : Line) = y := by rw [← hxy]
        rw [e2]
        congr 1
        refine Eq.trans ?_ (kept_old hs hd.2)
        refine filterMap_eq fun z hz => ?_
        have hne : ¬ z.n = y.n := fun e => hd.1 (by rw [← hxy, ← e]; exact List.mem_map_of_mem hz)
        have e3 : lookL (y :: old) z.n = lookL old z.n := by simp [lookL, hne]
        rw [e3]
      · have hs : ((y :: old).map Line.n).Sublist (L.map Line.n) := by
          rcases List.sublist_cons_iff.1 h with h | ⟨r, hr, _⟩
          · simpa using h
          · simp at hr; exact (hxy hr.1).elim
        have e : lookL (y :: old) x.n = none := look_out fun z hz e => hd.1 (by rw [← e]; exact hs.subset (List.mem_map_of_mem hz))
        rw [e]
        exact kept_old hs hd.2
theorem IsBr.kept {base a : Table} {old new : List Line} (h : IsBr base a old new) (tb : TOK base) : (base.l.filterMap fun x => (lookL a.l x.n).map fun r => (⟨x.n, r⟩ : Line)) = old := by
  refine Eq.trans ?_ (kept_old h.sub tb.nd)
  refine filterMap_eq fun x hx => ?_
  rw [h.look (tb.rng x hx).2]
theorem IsBr.fits {base a : Table} {old new : List Line} (h : IsBr base a old new) (tb : TOK base) : fitsS base a = true := by
  unfold fitsS
  have h1 : (a.l.any fun x => decide (x.n < base.next) && decide (lookL base.l x.n = none)) = false := by
    rw [List.any_eq_false]
    intro x hx
    rw [h.eq, List.mem_append] at hx
    rcases hx with hx | hx
    · have : lookL base.l x.n ≠ none := by
        intro e
        obtain ⟨z, hz, e2⟩ := List.mem_map.1 (h.sub.subset (List.mem_map_of_mem hx))
        exact look_none.1 e z hz e2
      simp [this]
    · have := h.new x hx
      simp; omega
  rw [h1]
  simp [h.nx]
theorem fits_self {base : Table} (tb : TOK base) : fitsS base base = true := by
  have : IsBr base base base.l [] := ⟨by simp, List.Sublist.refl _, by simp, by omega⟩
  exact this.fits tb
theorem fresh_none {b : Int} {L : List Line} (h : ∀ x ∈ L, x.n < b) (hs : L.Pairwise fun x y => x.n < y.n) : freshS b L = [] := by
  rw [fresh_eq b L hs]
  unfold freshR
  rw [List.filter_eq_nil_iff]
  intro x hx
  have := h x hx
  simp; omega
theorem IsBr.fresh {base a : Table} {old new : List Line} (h : IsBr base a old new) (tb : TOK base) (ta : TOK a) : freshS base.next a.l = new := by
  rw [fresh_eq _ _ ta.srt]
  unfold freshR
  rw [h.eq, List.filter_append, List.filter_eq_nil_iff.2 fun x hx => by have := h.old tb x hx; simp; omega, List.filter_eq_self.2 fun x hx => by have := h.new x hx; simp; omega]
  rfl
theorem keptM_left (A base : Table) (tb : TOK base) : keptM A.l base.l base.l = base.l.filterMap fun x => (lookL A.l x.n).map fun r => (⟨x.n, r⟩ : Line) := by
  unfold keptM
  refine filterMap_eq fun x hx => ?_
  unfold pickM
  rw [look_some tb.nd hx]
  cases hd : decide (lookL A.l x.n = some x.r) with
  | true => rw [cond_true, of_decide_eq_true hd]
  | false => rw [cond_false]
theorem keptM_right (A base : Table) (tb : TOK base) : keptM base.l A.l base.l = base.l.filterMap fun x => (lookL A.l x.n).map fun r => (⟨x.n, r⟩ : Line) := by
  unfold keptM
  refine filterMap_eq fun x hx => ?_
  unfold pickM
  rw [look_some tb.nd hx]
  simp
theorem keptM_same (A : List Line) (L : List Line) : keptM A A L = L.filterMap fun x => (lookL A x.n).map fun r => (⟨x.n, r⟩ : Line) := by
  unfold keptM
  refine filterMap_eq fun x hx => ?_
  unfold pickM
  cases decide (lookL A x.n = some x.r) <;> rfl
theorem clash_none {A B : List Line} {base : List Line} (h : ∀ x ∈ base, clash A B x = false) : base.filter (clash A B) = [] := by
  rw [List.filter_eq_nil_iff]
  intro x hx
  simp [h x hx]
theorem mergeM_of {base a b : Table} (h1 : fitsS base a = true) (h2 : fitsS base b = true) (h3 : ∀ x ∈ base.l, clash a.l b.l x = false) (h4 : (keptM a.l b.l base.l).length + (freshS base.next a.l).length + (freshS base.next b.l).length ≤ 4096) (h5 : a.next + (freshS base.next b.l).length ≤ 4611686018427387904) :
    mergeM base a b = ⟨a.next + (freshS base.next b.l).length, keptM a.l b.l base.l ++ freshS base.next a.l ++ numL a.next (freshS base.next b.l), [], 0⟩ := by
  have e1 : decide (4096 < ((keptM a.l b.l base.l ++ freshS base.next a.l ++ numL a.next (freshS base.next b.l)).length : Int)) = false := by
    simp only [List.length_append, numL_len]; simp; omega
  have e2 : decide (4611686018427387904 < a.next + ((freshS base.next b.l).length : Int)) = false := by simp; omega
  have e3 : decide (0 < (([] : List Line).length : Int)) = false := rfl
  unfold mergeM
  rw [h1, h2, clash_none h3, e1, e2, e3]
  rfl
theorem old_len {base a : Table} {old new : List Line} (h : IsBr base a old new) : old.length ≤ base.l.length := by
  have := h.sub.length_le
  simpa using this
theorem merge_a_base {base a : Table} {old new : List Line} (h : IsBr base a old new) (tb : TOK base) (ta : TOK a) (hl : base.l.length ≤ 1000) (hla : a.l.length ≤ 1000) : mergeM base a base = ⟨a.next, a.l, [], 0⟩ := by
  have hf : freshS base.next base.l = [] := fresh_none (fun x hx => (tb.rng x hx).2) tb.srt
  have hn := h.fresh tb ta
  have hk : keptM a.l base.l base.l = old := by rw [keptM_left a base tb, h.kept tb]
  have ho := old_len h
  have hl2 : new.length ≤ a.l.length := by rw [h.eq]; simp
  have hn1 := ta.n1
  rw [mergeM_of (h.fits tb) (fits_self tb) (fun x hx => by unfold clash; rw [look_some tb.nd hx]; simp) (by rw [hf, hn, hk]; simp; omega) (by rw [hf]; simp; omega), hf, hn, hk]
  simp [numL, h.eq]
theorem merge_base_a {base a : Table} {old new : List Line} (h : IsBr base a old new) (tb : TOK base) (ta : TOK a) (hl : base.l.length ≤ 1000) (hla : a.l.length ≤ 1000) : mergeM base base a = ⟨base.next + new.length, old ++ numL base.next new, [], 0⟩ := by
  have hf : freshS base.next base.l = [] := fresh_none (fun x hx => (tb.rng x hx).2) tb.srt
  have hn := h.fresh tb ta
  have hk : keptM base.l a.l base.l = old := by rw [keptM_right a base tb, h.kept tb]
  have ho := old_len h
  have hl2 : new.length ≤ a.l.length := by rw [h.eq]; simp
  have hn1 := tb.n1
  rw [mergeM_of (fits_self tb) (h.fits tb) (fun x hx => by unfold clash; rw [look_some tb.nd hx]; simp) (by rw [hf, hn, hk]; simp; omega) (by rw [hn]; omega), hf, hn, hk]
  simp
/-- The branch without its new lines. -/
theorem IsBr.cut {base a : Table} {old new : List Line} (h : IsBr base a old new) : IsBr base ⟨a.next, old⟩ old [] := ⟨by simp, h.sub, by simp, h.nx⟩
theorem TOK.cut {a : Table} {old new : List Line} (ta : TOK a) (h : a.l = old ++ new) : TOK ⟨a.next, old⟩ := by
  have h1 := ta.len
  have h2 := ta.rng
  have h3 := ta.row
  have h4 := ta.srt
  rw [h] at h1 h2 h3 h4
  refine ⟨by simp only []; simp at h1; omega, ta.n0, ta.n1, fun x hx => h2 x (by simp [hx]), fun x hx => h3 x (by simp [hx]), ?_⟩
  rw [List.pairwise_append] at h4
  exact h4.1
theorem merge_cut {base a : Table} {old new : List Line} (h : IsBr base a old new) (tb : TOK base) (ta : TOK a) (hl : base.l.length ≤ 1000) (hla : a.l.length ≤ 1000) : mergeM base ⟨a.next, old⟩ ⟨a.next, old⟩ = ⟨a.next, old, [], 0⟩ := by
  have tc := ta.cut h.eq
  have hc := h.cut
  have hn := hc.fresh tb tc
  simp only [] at hn
  have hk : keptM old old base.l = old := by
    rw [keptM_same]
    have := hc.kept tb
    simpa using this
  have ho := old_len h
  have hn1 := ta.n1
  rw [mergeM_of (hc.fits tb) (hc.fits tb) (fun x hx => by unfold clash; simp) (by simp only []; rw [hn, hk]; simp; omega) (by simp only []; rw [hn]; simp; omega)]
  simp only []
  rw [hn, hk]
  simp [numL]
end Go.Den
