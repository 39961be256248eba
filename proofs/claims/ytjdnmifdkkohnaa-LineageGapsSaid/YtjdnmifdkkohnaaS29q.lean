/- Ch. 29: LineageGaps; the rows' laws. -/
import Derived.Test.YtjdnmifdkkohnaaS29o
namespace Go.Den
open Go Go.Proofs
set_option linter.unusedSimpArgs false
set_option linter.unusedVariables false
set_option maxRecDepth 100000
set_option maxHeartbeats 1000000
theorem chg_mem {n : Int} {b a : Option (List Cell)} {e : Event} (h : e ∈ chg n b a) : e.l.n = n := by
  unfold chg at h
  split at h
  · simp at h
  · cases b <;> cases a <;> simp at h
    · rw [h]
    · rw [h]
    · rcases h with h | h <;> rw [h]
theorem ev_mem : ∀ {I : List Item} {e : Event}, e ∈ eventsOf I → ∃ i ∈ I, e.l.n = i.n
  | [], e, h => by simp [eventsOf] at h
  | i :: r, e, h => by
    rw [eventsOf, List.mem_append] at h
    rcases h with h | h
    · exact ⟨i, by simp, chg_mem h⟩
    · obtain ⟨j, hj, he⟩ := ev_mem h
      exact ⟨j, by simp [hj], he⟩
theorem mem_ev : ∀ {I : List Item} {i : Item}, i ∈ I → i.b ≠ i.a → ∃ e ∈ eventsOf I, e.l.n = i.n
  | [], i, h, _ => by simp at h
  | j :: r, i, h, hne => by
    rw [eventsOf]
    rcases List.mem_cons.1 h with rfl | h
    · have : chg i.n i.b i.a ≠ [] := by
        unfold chg
        rw [if_neg hne]
        cases hb : i.b <;> cases ha : i.a <;> simp
        rw [hb, ha] at hne; exact hne rfl
      obtain ⟨e, L, he⟩ := List.exists_cons_of_ne_nil this
      have hm : e ∈ chg i.n i.b i.a := by rw [he]; simp
      exact ⟨e, by simp [hm], chg_mem hm⟩
    · obtain ⟨e, he, hn⟩ := mem_ev h hne
      exact ⟨e, by simp [he], hn⟩
def agree (a c : Table) (f : List Event) : Bool := f.all fun e => decide (fnd a.l e.l.n = fnd c.l e.l.n)
theorem agree_fits {a b c : Table} (ha : Small a) (hb : Small b) (hc : Small c) (h : agree a c (feed a b) = true) : ∃ x : Table, apply c (feed a b) = (x, 0) ∧ VT x ∧ x.l.length ≤ 4096 := by
  obtain ⟨f1, f2⟩ := feed_back ha.vt hb.vt
  have s := (feedItems_lk ha.vt.srt hb.vt.srt).1
  obtain ⟨s1, _⟩ := clean_lk s
  have hcl := feedItems_clean ha.vt.srt hb.vt.srt
  have hl : (clean (feedItems a.l b.l)).length ≤ a.l.length + b.l.length := by
    have h1 : (clean (feedItems a.l b.l)).length ≤ (feedItems a.l b.l).length := List.length_filterMap_le _ _
    have := feedItems_len a.l b.l
    omega
  obtain ⟨x, e, hx, _, _⟩ := apply_fits hc.vt f1 f2 s1 (fun i hi => feedItems_inR ha.vt hb.vt i (clean_mem hi).1) (by have := ha.len; have := hb.len; have := hc.len; omega) (fun i hi => by
    have h1 := lk_mem s1 hi
    rw [hcl] at h1
    split at h1
    · simp at h1
    · have h3 := Option.some.inj h1
      obtain ⟨ev, he, hn⟩ := mem_ev hi (clean_mem hi).2
      rw [eventsOf_clean, ← feed_def ha.vt hb.vt] at he
      have := List.all_eq_true.1 h ev he
      rw [decide_eq_true_eq, hn] at this
      rw [← this]
      exact congrArg Item.b h3)
  exact ⟨x, e, hx, hx.len⟩
theorem disagree_gap {a b c : Table} (ha : Small a) (hb : Small b) (hc : Small c) (h : agree a c (feed a b) = false) : apply c (feed a b) = (⟨0, []⟩, 300) := by
  have s := (feedItems_lk ha.vt.srt hb.vt.srt).1
  obtain ⟨s1, _⟩ := clean_lk s
  have hcl := feedItems_clean ha.vt.srt hb.vt.srt
  unfold agree at h
  rw [List.all_eq_false] at h
  obtain ⟨e, he, hne⟩ := h
  have he2 := he
  rw [feed_def ha.vt hb.vt, ← eventsOf_clean] at he2
  obtain ⟨i, hi, hn⟩ := ev_mem he2
  have h1 := lk_mem s1 hi
  rw [hcl] at h1
  split at h1
  · simp at h1
  · rename_i hab
    refine feed_gap ha.vt hb.vt hc.vt (n := i.n) hab ?_
    rw [← hn]
    intro h2
    exact hne (by rw [decide_eq_true_eq]; exact h2.symm)
theorem fnd_ok {L : List Line} (h : okL L) (n : Int) : lenB (fnd L n) := by
  intro r hr
  unfold fnd at hr
  cases hl : lk Line.n L n with
  | none => rw [hl] at hr; simp at hr
  | some x => rw [hl] at hr; simp at hr; subst hr; exact h x (lk_some hl).1
theorem Gaps_l0 {β : Type} {K : Ex × Env × St → Option β} {Z : Option β} (a b c : Table) (ha : Small a) (hc : Small c) (L : List Event) (hL : L.length < 1000000000000000)
    (h : K (.exit 0, [(3, .bool true), (4, .ref 0 0), (5, .sl (L.map Event.cells)), (6, .bool (agree a c L)), (7, .int .i64 L.length), (29, .bool false)], [.cells [.int .i64 a.next, .sl (a.l.map Line.cells), .int .i64 b.next, .sl (b.l.map Line.cells), .int .i64 c.next, .sl (c.l.map Line.cells)]]) = Z) :
    (Run prog 0 (.loop 1 [3, 4, 5, 6, 7] f_L29_LineageGaps_l0) [(3, .bool true), (4, .ref 0 0), (5, .sl (L.map Event.cells)), (6, .bool true), (7, .int .i64 0)] [.cells [.int .i64 a.next, .sl (a.l.map Line.cells), .int .i64 b.next, .sl (b.l.map Line.cells), .int .i64 c.next, .sl (c.l.map Line.cells)]]).bind K = Z := by
  refine range_ind L hL (fun i (g : Bool) => (Run prog 0 (.loop 1 [3, 4, 5, 6, 7] f_L29_LineageGaps_l0) [(3, .bool true), (4, .ref 0 0), (5, .sl (L.map Event.cells)), (6, .bool g), (7, .int .i64 i)] [.cells [.int .i64 a.next, .sl (a.l.map Line.cells), .int .i64 b.next, .sl (b.l.map Line.cells), .int .i64 c.next, .sl (c.l.map Line.cells)]]).bind K = Z)
    (fun i rest g => (g && agree a c rest) = agree a c L) ?_ ?_ true (by simp)
  · intro g hg
    have hg : agree a c L = g := by rw [← hg]; simp [agree]
    rw [hg] at h
    rw [Run_loop]
    simp only [f_L29_LineageGaps_l0_eq, f_L29_LineageGaps_l0u, h, go_sem, Nat.reduceEqDiff, ↓reduceIte, Nat.reduceAdd, Nat.reduceLeDiff, Nat.reduceLT, reduceCtorEq, Nat.reduceBEq, Nat.reduceMul, Nat.reduceSub, ne_eq, not_false_eq_true, Int.reduceSub, Int.reduceAdd, Int.reduceLE, Int.reduceLT, Int.reduceToNat, Int.toNat_zero, implies_true]
  · intro i pre rest x g hp _ _ _ hx hcc hw hg ih
    have h1 := L29_has a x.l.n (by have := ha.len; clear hw hx hcc; omega)
    have h2 := L29_has c x.l.n (by have := hc.len; clear hw hx hcc; omega)
    have hok := fnd_ok ha.ok x.l.n
    have ih1 := ih (g && decide (fnd a.l x.l.n = fnd c.l x.l.n)) (by rw [← hg]; simp [agree, Bool.and_assoc])
    clear hg ih hp h
    rw [Run_loop]
    have e1 : (true == false) = false := rfl
    have e2 : (false == true) = false := rfl
    cases f1 : fnd a.l x.l.n with
    | none => cases f2 : fnd c.l x.l.n with
      | none =>
        simp only [f1, f2, go_sem, Nat.reduceEqDiff, ↓reduceIte, Nat.reduceAdd, Nat.reduceLeDiff, Nat.reduceLT, reduceCtorEq, Nat.reduceBEq, Nat.reduceMul, Nat.reduceSub, ne_eq, not_false_eq_true, Int.reduceSub, Int.reduceAdd, Int.reduceLE, Int.reduceLT, Int.reduceToNat, Int.toNat_zero, implies_true] at h1 h2 ih1
        simp only [f_L29_LineageGaps_l0_eq, f_L29_LineageGaps_l0u, hx, hcc, hw, h1, h2, ih1, e1, e2, BEq.rfl, Nat.reduceMul, go_sem, Nat.reduceEqDiff, ↓reduceIte, Nat.reduceAdd, Nat.reduceLeDiff, Nat.reduceLT, reduceCtorEq, Nat.reduceBEq, Nat.reduceMul, Nat.reduceSub, ne_eq, not_false_eq_true, Int.reduceSub, Int.reduceAdd, Int.reduceLE, Int.reduceLT, Int.reduceToNat, Int.toNat_zero, implies_true]
      | some s =>
        simp only [f1, f2, reduceCtorEq, go_sem, Nat.reduceEqDiff, ↓reduceIte, Nat.reduceAdd, Nat.reduceLeDiff, Nat.reduceLT, reduceCtorEq, Nat.reduceBEq, Nat.reduceMul, Nat.reduceSub, ne_eq, not_false_eq_true, Int.reduceSub, Int.reduceAdd, Int.reduceLE, Int.reduceLT, Int.reduceToNat, Int.toNat_zero, implies_true] at h1 h2 ih1
        simp only [f_L29_LineageGaps_l0_eq, f_L29_LineageGaps_l0u, hx, hcc, hw, h1, h2, ih1, e1, e2, BEq.rfl, Nat.reduceMul, go_sem, Nat.reduceEqDiff, ↓reduceIte, Nat.reduceAdd, Nat.reduceLeDiff, Nat.reduceLT, reduceCtorEq, Nat.reduceBEq, Nat.reduceMul, Nat.reduceSub, ne_eq, not_false_eq_true, Int.reduceSub, Int.reduceAdd, Int.reduceLE, Int.reduceLT, Int.reduceToNat, Int.toNat_zero, implies_true]
    | some r => cases f2 : fnd c.l x.l.n with
      | none =>
        simp only [f1, f2, reduceCtorEq, go_sem, Nat.reduceEqDiff, ↓reduceIte, Nat.reduceAdd, Nat.reduceLeDiff, Nat.reduceLT, reduceCtorEq, Nat.reduceBEq, Nat.reduceMul, Nat.reduceSub, ne_eq, not_false_eq_true, Int.reduceSub, Int.reduceAdd, Int.reduceLE, Int.reduceLT, Int.reduceToNat, Int.toNat_zero, implies_true] at h1 h2 ih1
        simp only [f_L29_LineageGaps_l0_eq, f_L29_LineageGaps_l0u, hx, hcc, hw, h1, h2, ih1, e1, e2, BEq.rfl, Nat.reduceMul, go_sem, Nat.reduceEqDiff, ↓reduceIte, Nat.reduceAdd, Nat.reduceLeDiff, Nat.reduceLT, reduceCtorEq, Nat.reduceBEq, Nat.reduceMul, Nat.reduceSub, ne_eq, not_false_eq_true, Int.reduceSub, Int.reduceAdd, Int.reduceLE, Int.reduceLT, Int.reduceToNat, Int.toNat_zero, implies_true]
      | some s =>
        have hr := hok r f1
        by_cases hrs : r = s
        · simp only [f1, f2, hrs, go_sem, Nat.reduceEqDiff, ↓reduceIte, Nat.reduceAdd, Nat.reduceLeDiff, Nat.reduceLT, reduceCtorEq, Nat.reduceBEq, Nat.reduceMul, Nat.reduceSub, ne_eq, not_false_eq_true, Int.reduceSub, Int.reduceAdd, Int.reduceLE, Int.reduceLT, Int.reduceToNat, Int.toNat_zero, implies_true] at h1 h2 ih1
          rw [hrs] at hr
          simp only [f_L29_LineageGaps_l0_eq, f_L29_LineageGaps_l0u, hx, hcc, hw, h1, h2, ih1, hr, e1, e2, BEq.rfl, Nat.reduceMul, go_sem, Nat.reduceEqDiff, ↓reduceIte, Nat.reduceAdd, Nat.reduceLeDiff, Nat.reduceLT, reduceCtorEq, Nat.reduceBEq, Nat.reduceMul, Nat.reduceSub, ne_eq, not_false_eq_true, Int.reduceSub, Int.reduceAdd, Int.reduceLE, Int.reduceLT, Int.reduceToNat, Int.toNat_zero, implies_true]
        · have hd : decide (r = s) = false := by simpa using hrs
          simp only [f1, f2, hd, Option.some.injEq, go_sem, Nat.reduceEqDiff, ↓reduceIte, Nat.reduceAdd, Nat.reduceLeDiff, Nat.reduceLT, reduceCtorEq, Nat.reduceBEq, Nat.reduceMul, Nat.reduceSub, ne_eq, not_false_eq_true, Int.reduceSub, Int.reduceAdd, Int.reduceLE, Int.reduceLT, Int.reduceToNat, Int.toNat_zero, implies_true] at h1 h2 ih1
          simp only [f_L29_LineageGaps_l0_eq, f_L29_LineageGaps_l0u, hx, hcc, hw, h1, h2, ih1, hr, hd, e1, e2, BEq.rfl, Nat.reduceMul, go_sem, Nat.reduceEqDiff, ↓reduceIte, Nat.reduceAdd, Nat.reduceLeDiff, Nat.reduceLT, reduceCtorEq, Nat.reduceBEq, Nat.reduceMul, Nat.reduceSub, ne_eq, not_false_eq_true, Int.reduceSub, Int.reduceAdd, Int.reduceLE, Int.reduceLT, Int.reduceToNat, Int.toNat_zero, implies_true]
theorem law_Gaps (l0 l1 l2 : List Line) (g : Int) (h0 : 0 ≤ g) (h1 : g < 256) (b0 : l0.length < 1000000000000000) (b1 : l1.length < 1000000000000000) (b2 : l2.length < 1000000000000000) :
    Den prog 98 [.agg [.sl (l0.map Line.cells), .sl (l1.map Line.cells), .sl (l2.map Line.cells), .int .u8 g]] [] = some (.bool true, []) := by
  have hl := L29_light l0 l1 l2 g b0 b1 b2
  have ht := L29_tables l0 l1 l2 g b0 b1 b2 h0 h1
  rw [Den_ofK [] pr_L29_LineageGaps rfl]
  cases c0 : lightL l0 && (lightL l1 && lightL l2) with
  | false => simp only [f_L29_LineageGaps, hl, c0, go_sem, Nat.reduceEqDiff, ↓reduceIte, Nat.reduceAdd, Nat.reduceLeDiff, Nat.reduceLT, reduceCtorEq, Nat.reduceBEq, Nat.reduceMul, Nat.reduceSub, ne_eq, not_false_eq_true, Int.reduceSub, Int.reduceAdd, Int.reduceLE, Int.reduceLT, Int.reduceToNat, Int.toNat_zero, implies_true]
  | true =>
    simp at c0
    have ha := small_made h0 h1 c0.1
    have hb := small_made h0 h1 c0.2.1
    have hc := small_made h0 h1 c0.2.2
    rw [show (lightL l0 && (lightL l1 && lightL l2)) = true by simp [c0]] at hl
    generalize made l0 g = a at *
    generalize made l1 g = b at *
    generalize made l2 g = c at *
    have f1 := feed_small ha hb
    have p1 := Feed_small ha.big hb.big
    simp only [f_L29_LineageGaps, hl, ht, p1, Nat.reduceMul, go_sem, Nat.reduceEqDiff, ↓reduceIte, Nat.reduceAdd, Nat.reduceLeDiff, Nat.reduceLT, reduceCtorEq, Nat.reduceBEq, Nat.reduceMul, Nat.reduceSub, ne_eq, not_false_eq_true, Int.reduceSub, Int.reduceAdd, Int.reduceLE, Int.reduceLT, Int.reduceToNat, Int.toNat_zero, implies_true]
    refine Gaps_l0 a b c ha hc (feed a b) (by omega) ?_
    cases hag : agree a c (feed a b) with
    | false =>
      have e := disagree_gap ha hb hc hag
      have p2 := Apply_small hc.big ⟨by omega, f1.2⟩ e
      have p3 := Fits_small hc.big ⟨by omega, f1.2⟩ e
      simp only [(by decide : decide ((300 : Int) = 0) = false), go_sem, Nat.reduceEqDiff, ↓reduceIte, Nat.reduceAdd, Nat.reduceLeDiff, Nat.reduceLT, reduceCtorEq, Nat.reduceBEq, Nat.reduceMul, Nat.reduceSub, ne_eq, not_false_eq_true, Int.reduceSub, Int.reduceAdd, Int.reduceLE, Int.reduceLT, Int.reduceToNat, Int.toNat_zero, implies_true] at p2 p3
      clear ha hb hc f1 e
      simp only [p2, p3, Nat.reduceMul, Int.natCast_zero, go_sem, Nat.reduceEqDiff, ↓reduceIte, Nat.reduceAdd, Nat.reduceLeDiff, Nat.reduceLT, reduceCtorEq, Nat.reduceBEq, Nat.reduceMul, Nat.reduceSub, ne_eq, not_false_eq_true, Int.reduceSub, Int.reduceAdd, Int.reduceLE, Int.reduceLT, Int.reduceToNat, Int.toNat_zero, implies_true]
    | true =>
      obtain ⟨x, e, vx, hxl⟩ := agree_fits ha hb hc hag
      have p2 := Apply_small hc.big ⟨by omega, f1.2⟩ e
      have p3 := Fits_small hc.big ⟨by omega, f1.2⟩ e
      have p4 := lineage_Valid x (by omega)
      rw [valid_iff.2 vx] at p4
      simp only [go_sem, Nat.reduceEqDiff, ↓reduceIte, Nat.reduceAdd, Nat.reduceLeDiff, Nat.reduceLT, reduceCtorEq, Nat.reduceBEq, Nat.reduceMul, Nat.reduceSub, ne_eq, not_false_eq_true, Int.reduceSub, Int.reduceAdd, Int.reduceLE, Int.reduceLT, Int.reduceToNat, Int.toNat_zero, implies_true] at p3
      clear ha hb hc f1 e vx
      simp only [p2, p3, p4, Nat.reduceMul, Int.natCast_zero, go_sem, Nat.reduceEqDiff, ↓reduceIte, Nat.reduceAdd, Nat.reduceLeDiff, Nat.reduceLT, reduceCtorEq, Nat.reduceBEq, Nat.reduceMul, Nat.reduceSub, ne_eq, not_false_eq_true, Int.reduceSub, Int.reduceAdd, Int.reduceLE, Int.reduceLT, Int.reduceToNat, Int.toNat_zero, implies_true]
theorem sh_tables {n : Nat} {xs : List AV} (h : Sh Try.prog n 42 xs) : ∃ (a b c : List Line) (g : Int), xs = [.sl (a.map Line.cells), .sl (b.map Line.cells), .sl (c.map Line.cells), .int .u8 g] ∧ 0 ≤ g ∧ g < 256 ∧ a.length < 1000000000000000 ∧ b.length < 1000000000000000 ∧ c.length < 1000000000000000 := by
  obtain ⟨ps, m, rfl, hp⟩ := h.struct Try.underlying42
  obtain ⟨p, q, rfl, h1, h2⟩ := hp.p2
  obtain ⟨g, rfl, hg⟩ := h2.int Try.underlying5
  obtain ⟨parts, k, hk, rfl, he⟩ := h1.array Try.underlying40
  match parts, hk, he with
  | [x, y, z], _, he =>
    obtain ⟨a, rfl, ha, _⟩ := sh_lines (he x (by simp))
    obtain ⟨b, rfl, hb, _⟩ := sh_lines (he y (by simp))
    obtain ⟨c, rfl, hc, _⟩ := sh_lines (he z (by simp))
    have h8 : (0 : Int) ≤ g ∧ g ≤ 255 := by
      simp only [Lit.wf, Bool.and_eq_true, decide_eq_true_eq] at hg
      exact hg
    exact ⟨a, b, c, g, rfl, h8.1, by omega, by omega, by omega, by omega⟩
theorem row_of (f : Nat) (law : ∀ (l0 l1 l2 : List Line) (g : Int), 0 ≤ g → g < 256 → l0.length < 1000000000000000 → l1.length < 1000000000000000 → l2.length < 1000000000000000 →
    Den prog f [.agg [.sl (l0.map Line.cells), .sl (l1.map Line.cells), .sl (l2.map Line.cells), .int .u8 g]] [] = some (.bool true, [])) (xs : List AV) (h : Args Try.prog [42] xs) : Den prog f xs [] = some (.bool true, []) := by
  obtain ⟨n, x, ys, rfl, h1, h⟩ := h.one
  cases h.none
  obtain ⟨a, b, c, g, rfl, h0, hg, ha, hb, hc⟩ := sh_tables h1
  simp only [avOf, Try.underlying42]
  exact law a b c g h0 hg ha hb hc
theorem row_Follows (xs : List AV) (h : Args Try.prog [42] xs) : Den prog 95 xs [] = some (.bool true, []) := row_of 95 law_Follows xs h
theorem row_Composes (xs : List AV) (h : Args Try.prog [42] xs) : Den prog 96 xs [] = some (.bool true, []) := row_of 96 law_Composes xs h
theorem row_Inverts (xs : List AV) (h : Args Try.prog [42] xs) : Den prog 97 xs [] = some (.bool true, []) := row_of 97 law_Inverts xs h
theorem row_Gaps (xs : List AV) (h : Args Try.prog [42] xs) : Den prog 98 xs [] = some (.bool true, []) := row_of 98 law_Gaps xs h
end Go.Den
