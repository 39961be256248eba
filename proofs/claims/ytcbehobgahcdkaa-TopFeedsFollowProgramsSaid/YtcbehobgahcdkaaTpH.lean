/- TopFeedsFollowPrograms. -/
import Derived.Test.YtcbehobgahcdkaaTpG
namespace Go.Den
open Go Go.Proofs
set_option linter.unusedSimpArgs false
set_option linter.unusedVariables false
set_option maxRecDepth 100000
set_option maxHeartbeats 1000000
theorem run_after {p : Pro} {t : Table} (he : (runS p t).e = 0) : runS p t = ⟨(afterT t (matchP p.rem) p.add).next, (afterT t (matchP p.rem) p.add).l, 0⟩ := by
  unfold runS at *
  cases d : !decide ((checkS t.l 0 p.gs).2 = 0) with
  | true =>
    rw [d, cond_true] at he
    simp only [Bool.not_eq_true', decide_eq_false_iff_not] at d
    exact (d he).elim
  | false =>
    rw [d, cond_false] at he
    simp only [cond_false]
    cases d2 : decide (4096 < (((t.l.filter (fun x => !matchP p.rem x.r)) ++ addL t.next p.add).length : Int)) || decide (4611686018427387904 < t.next + p.add.length) with
    | true => rw [d2, cond_true] at he; simp at he
    | false => rfl
/-- A table on the way: j times 4 lines may have been added. -/
structure TW (j : Int) (t : Table) : Prop where
  vt : VT t
  row : ∀ x ∈ t.l, x.r.length ≤ 1000
  len : (t.l.length : Int) ≤ 20 + 4 * j
  nx : t.next ≤ 40 + 4 * j
theorem TW.up {j : Int} {t : Table} (h : TW j t) : TW (j + 1) t := ⟨h.vt, h.row, by have := h.len; omega, by have := h.nx; omega⟩
theorem TW.run {j : Int} {p : Pro} {t : Table} (hp : PrOK p) (h : TW j t) (he : (runS p t).e = 0) : TW (j + 1) ⟨(runS p t).next, (runS p t).l⟩ := by
  refine ⟨runS_vt h.vt he, ?_, ?_, ?_⟩
  all_goals rw [run_after he]
  · intro x hx
    simp only [afterT] at hx
    rcases List.mem_append.1 hx with hx | hx
    · exact h.row x (List.mem_filter.1 hx).1
    · exact hp.row _ (addL_mem (n := 0) hx).2.2
  · simp only [afterT, List.length_append, addL_len]
    have h1 := List.length_filter_le (fun x : Line => !matchP p.rem x.r) t.l
    have := h.len
    have := hp.add
    omega
  · simp only [afterT]
    have := h.nx
    have := hp.add
    omega
theorem apply_after {t : Table} {p : Pro} (ht : VT t) (hx : VT (afterT t (matchP p.rem) p.add)) (l1 : t.l.length ≤ 1000) (l2 : (afterT t (matchP p.rem) p.add).l.length ≤ 1000) :
    apply t (feed t (afterT t (matchP p.rem) p.add)) = (afterT t (matchP p.rem) p.add, 0) := by
  have hnx : (afterT t (matchP p.rem) p.add).next = t.next + p.add.length := rfl
  have hmx : ∀ n : Int, t.next ≤ n → n < t.next + p.add.length → ∃ y ∈ (afterT t (matchP p.rem) p.add).l, y.n = n := by
    have key : ∀ (q : List (List Cell)) (b n : Int), b ≤ n → n < b + q.length → ∃ y ∈ addL b q, y.n = n := by
      intro q
      induction q with
      | nil => intro b n h1 h2; simp at h2; omega
      | cons r q ih =>
        intro b n h1 h2
        by_cases h : n = b
        · exact ⟨⟨b, r⟩, by simp [addL], h.symm⟩
        · simp only [List.length_cons] at h2
          obtain ⟨y, hy, e⟩ := ih (b + 1) n (by omega) (by omega)
          exact ⟨y, by simp [addL, hy], e⟩
    intro n h1 h2
    obtain ⟨y, hy, e⟩ := key p.add t.next n h1 h2
    exact ⟨y, by simp [afterT, hy], e⟩
  generalize afterT t (matchP p.rem) p.add = x at *
  obtain ⟨⟨yn, yl⟩, e1, vy, ny, ly⟩ := apply_feed ht hx ht rfl ⟨l1, l2⟩
  simp only [] at ly ny
  subst ly
  have yeq : yn = x.next := by
    have h1 := apply_next e1
    simp only [] at h1
    have hxr := hx.rng
    have hyr := vy.rng
    simp only [] at hyr
    rcases h1 with h1 | ⟨y, hy, h1⟩
    · by_cases hz : p.add.length = 0
      · omega
      · obtain ⟨z, hz1, hz2⟩ := hmx t.next (by omega) (by omega)
        have := (hyr z hz1).2
        omega
    · have := (hxr y hy).2
      by_cases hz : p.add.length = 0
      · omega
      · obtain ⟨z, hz1, hz2⟩ := hmx (t.next + p.add.length - 1) (by omega) (by omega)
        have := (hyr z hz1).2
        omega
  subst yeq
  exact e1
/-- What one round computes. -/
theorem round {t : Table} {p : Pro} {j : Int} (hj : j ≤ 10) (hp : PrOK p) (h : TW j t) (he : (runS p t).e = 0) {u : Table} (hu : u = ⟨(runS p t).next, (runS p t).l⟩) :
    Den prog 125 [.agg p.cells, .agg [.int .i64 t.next, .sl (t.l.map Line.cells)]] [] = some (.tup [.agg [.int .i64 u.next, .sl (u.l.map Line.cells)], .int .i64 0], []) ∧
    ∃ (F G : List Event) (zn : Int), Den prog 21 [.agg [.int .i64 t.next, .sl (t.l.map Line.cells)], .agg [.int .i64 u.next, .sl (u.l.map Line.cells)]] [] = some (.sl (F.map Event.cells), []) ∧
      Den prog 17 [.agg [.int .i64 t.next, .sl (t.l.map Line.cells)], .sl (F.map Event.cells)] [] = some (.tup [.agg [.int .i64 u.next, .sl (u.l.map Line.cells)], .int .i64 0], []) ∧
      Den prog 24 [.sl (F.map Event.cells)] [] = some (.sl (G.map Event.cells), []) ∧
      Den prog 17 [.agg [.int .i64 u.next, .sl (u.l.map Line.cells)], .sl (G.map Event.cells)] [] = some (.tup [.agg [.int .i64 zn, .sl (t.l.map Line.cells)], .int .i64 0], []) ∧
      Den prog 168 [.agg p.cells, .agg [.int .i64 t.next, .sl (t.l.map Line.cells)]] [] = some (.sl (F.map Event.cells), []) ∧
      Den prog 169 [.sl (F.map Event.cells), .sl (F.map Event.cells)] [] = some (.bool true, []) ∧
      Den prog 109 [.agg [.int .i64 u.next, .sl (u.l.map Line.cells)], .agg [.int .i64 u.next, .sl (u.l.map Line.cells)]] [] = some (.bool true, []) ∧
      Den prog 134 [.sl (t.l.map Line.cells), .sl (t.l.map Line.cells)] [] = some (.bool true, []) := by
  have hw := TW.run hp h he
  rw [← hu] at hw
  have hlen := h.len
  have hnx := h.nx
  have hn0 := h.vt.n0
  have hlu := hw.len
  have rt : rowsOk t.l := fun x hx => by have := h.row x hx; omega
  have ru : rowsOk u.l := fun x hx => by have := hw.row x hx; omega
  have ot : okL t.l := fun x hx => by have := h.row x hx; omega
  have ou : okL u.l := fun x hx => by have := hw.row x hx; omega
  have ti : TI 4 t := ⟨by omega, rt, hn0, by omega⟩
  have hr := Run_ti hp ti
  have hra := run_after he
  have hua : u = afterT t (matchP p.rem) p.add := by rw [hu, hra]
  have e0 : runS p t = ⟨u.next, u.l, 0⟩ := by rw [hra, hua]
  rw [e0] at hr
  have vt := h.vt
  have vu := hw.vt
  have ap : apply t (feed t u) = (u, 0) := by
    have hl2 : u.l.length ≤ 1000 := by omega
    rw [hua] at vu hl2 ⊢
    exact apply_after vt vu (by omega) hl2
  have tf : feed t u = touchS p t := by
    have := touch_feed vt (matchP p.rem) p.add (by rw [← hua]; exact vu)
    rw [hua, this]; rfl
  obtain ⟨⟨zn, zl⟩, e2, vz, nz, lz⟩ := apply_feed vu vt vu rfl ⟨by omega, by omega⟩
  simp only [] at lz
  subst lz
  have lf := feed_len t u
  have lg := feed_len u t
  have of := feed_ok ot ou
  have og := feed_ok ou ot
  refine ⟨hr, feed t u, feed u t, zn, Feed_small ⟨by omega, ot⟩ ⟨by omega, ou⟩, ?_, Invert_small ⟨by omega, of⟩ (feed_invert vt vu), ?_, ?_, ?_, ?_, ?_⟩
  · have := Apply_small (l := feed t u) ⟨by omega, ot⟩ ⟨by omega, of⟩ ap
    simpa using this
  · have := Apply_small (t := u) (l := feed u t) ⟨by omega, ou⟩ ⟨by omega, og⟩ e2
    simpa using this
  · obtain ⟨⟨r1, r2, r3, r4, r5, r6, r7⟩, ⟨p1, p2, p3, p4, p5, p6, p7⟩, add, gs⟩ := p
    have := program_Touched r1 r2 r3 r4 r5 r6 r7 p1 p2 p3 p4 p5 p6 p7 add gs t.next t.l (by omega) rt hp.rem (by have := hp.add; simp only [] at this; omega) hn0 (by omega)
    rw [tf]
    simpa [Pro.cells, Prd.cells_mk] using this
  · have := R27_SameEvents (feed t u) (feed t u) (by omega) of
    simpa using this
  · exact SameTable_refl (by omega) ru
  · have := R30_SameLines t.l t.l (by omega) rt
    simpa using this
theorem progsC_ok {x : Cmt} : (∀ p ∈ progsC x, PrOK p) ∧ (progsC x).length ≤ 6 := by
  have hF := (schS_inv x.cs 8).len
  have pa := madeP_ok (fs := schS x.cs 8) (by omega) x.done 4
  have la := madeP_len (schS x.cs 8) x.done 4
  unfold progsC
  refine ⟨fun p hp => ?_, by simp; omega⟩
  rcases List.mem_append.1 hp with hp | hp
  · exact pa p hp
  · simp only [List.mem_cons, List.not_mem_nil, or_false] at hp
    rcases hp with rfl | rfl
    · exact proS_ok (by omega) _
    · exact proS_ok (by omega) _
theorem law_Feeds (x : Cmt) (h : CmtOk x) : Den prog 170 [.agg x.cells] [] = some (.bool true, []) := by
  obtain ⟨v, hc⟩ := T_commits x h
  obtain ⟨pk, pl⟩ := progsC_ok (x := x)
  have hF := (schS_inv x.cs 8).len
  obtain ⟨tb, tl, tn⟩ := tab_ok (fs := schS x.cs 8) (by omega) x.rows
  generalize tabS (schS x.cs 8) x.rows 20 = T at *
  generalize progsC x = L at *
  have hw : TW 0 T := ⟨tb.vt (by omega), tb.row, by omega, by omega⟩
  clear tb tl tn
  obtain ⟨cs, rows, done, ⟨⟨r1, r2, r3, r4, r5, r6, r7⟩, ⟨p1, p2, p3, p4, p5, p6, p7⟩, add, gs⟩, ⟨⟨r'1, r'2, r'3, r'4, r'5, r'6, r'7⟩, ⟨p'1, p'2, p'3, p'4, p'5, p'6, p'7⟩, add', gs'⟩⟩ := x
  rw [Den_ofK [] pr_T_TopFeedsFollowPrograms rfl]
  simp only [Cmt.cells, Raw.cells, Prd.cells_mk, List.cons_append, List.nil_append, go_sem] at hc ⊢
  simp only [f_T_TopFeedsFollowPrograms, hc, go_sem]
  generalize schS cs 8 = fs at *
  clear hc h
  refine range_ind L (by omega) (fun i (t : Table) => (Run prog 0 (.loop 2 [3, 5, 6, 7] f_T_TopFeedsFollowPrograms_l0) [(3, .bool true), (5, .ref 1 0), (6, .sl (L.map Pro.cells)), (7, .int .i64 i)] [.cells [.sl (fs.map Fld.cells), .int .i64 v], .cells [.int .i64 t.next, .sl (t.l.map Line.cells)]]).bind _ = _)
    (fun i rest t => TW i t ∧ i ≤ 6) ?_ ?_ T ⟨hw, by omega⟩
  · intro t _
    rw [Run_loop]
    simp only [f_T_TopFeedsFollowPrograms_l0_eq, f_T_TopFeedsFollowPrograms_l0u, go_sem]
  · intro i pre rest p t hq _ hi0 hi1 hx hc hwr ⟨ht, hi⟩ ih
    have hp := pk p (by rw [hq]; simp)
    have hi6 : i + 1 ≤ 6 := by clear hx hc hwr ih; omega
    have pl16 := pro_len p
    have ptk := pro_take p
    by_cases he : (runS p t).e = 0
    · obtain ⟨u, hu⟩ : ∃ u : Table, u = ⟨(runS p t).next, (runS p t).l⟩ := ⟨_, rfl⟩
      obtain ⟨g1, F, G, zn, g2, g3, g4, g5, g6, g7, g8, g9⟩ := round (by clear hx hc hwr ih; omega) hp ht he hu
      have ih := ih u ⟨by rw [hu]; exact ht.run hp he, hi6⟩
      have d0 : decide ((0 : Int) = 0) = true := rfl
      clear hu he
      obtain ⟨⟨r1, r2, r3, r4, r5, r6, r7⟩, ⟨p1, p2, p3, p4, p5, p6, p7⟩, add, gs⟩ := p
      simp only [Pro.cells, Prd.cells_mk, List.cons_append, List.nil_append, go_sem] at g1 g2 g3 g4 g5 g6 g7 g8 g9 ih hx
      rw [Run_loop]
      simp only [f_T_TopFeedsFollowPrograms_l0_eq, f_T_TopFeedsFollowPrograms_l0u, hx, hc, hwr, g1, g2, g3, g4, g5, g6, g7, g8, g9, d0, ih, Pro.cells, Prd.cells_mk, List.cons_append, List.nil_append, go_sem]
    · have ih := ih t ⟨ht.up, hi6⟩
      have d0 : decide ((runS p t).e = 0) = false := by simpa using he
      have ti : TI 4 t := ⟨by have := ht.len; clear hx hc hwr ih; omega, fun x hx => by have := ht.row x hx; omega, ht.vt.n0, by have := ht.nx; clear hx hc hwr ih; omega⟩
      have g1 := Run_ti hp ti
      generalize runS p t = R at *
      obtain ⟨rn, rl, re⟩ := R
      obtain ⟨⟨r1, r2, r3, r4, r5, r6, r7⟩, ⟨p1, p2, p3, p4, p5, p6, p7⟩, add, gs⟩ := p
      simp only [Pro.cells, Prd.cells_mk, List.cons_append, List.nil_append, go_sem] at g1 ih hx d0
      rw [Run_loop]
      simp only [f_T_TopFeedsFollowPrograms_l0_eq, f_T_TopFeedsFollowPrograms_l0u, hx, hc, hwr, g1, d0, ih, Pro.cells, Prd.cells_mk, List.cons_append, List.nil_append, go_sem]
end Go.Den
