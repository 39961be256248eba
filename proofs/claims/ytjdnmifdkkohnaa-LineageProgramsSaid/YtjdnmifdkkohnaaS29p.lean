/- Ch. 29: LineagePrograms. -/
import Derived.Test.YtjdnmifdkkohnaaL29c
import Derived.Test.YtjdnmifdkkohnaaSan29
import Derived.Test.YtjdnmifdkkohnaaShP
namespace Go.Den
open Go
set_option linter.unusedSimpArgs false
set_option linter.unusedVariables false
set_option maxRecDepth 100000
set_option maxHeartbeats 1000000
theorem touch_small {t : Table} {m : List Cell → Bool} {rows : List (List Cell)} (ht : t.l.length ≤ 40 ∧ okL t.l) (hr : rows.length ≤ 4 ∧ ∀ r ∈ rows, r.length < 1000000000000000) : (touchT t m rows).length ≤ 44 ∧ okE (touchT t m rows) := by
  have h1 := List.length_filter_le (fun x : Line => m x.r) t.l
  refine ⟨by unfold touchT; rw [List.length_append, List.length_map, addE_len]; omega, fun e he => ?_⟩
  unfold touchT at he
  rw [List.mem_append, List.mem_map] at he
  rcases he with ⟨x, hx, rfl⟩ | he
  · exact ht.2 x (List.mem_filter.1 hx).1
  · have key : ∀ (q : List (List Cell)) (n : Int), (∀ r ∈ q, r.length < 1000000000000000) → ∀ e ∈ addE n q, e.l.r.length < 1000000000000000 := by
      intro q
      induction q with
      | nil => intro n _ e he; simp [addE] at he
      | cons r q ih =>
        intro n h e he
        simp only [addE, List.mem_cons] at he
        rcases he with rfl | he
        · exact h r (by simp)
        · exact ih (n + 1) (fun x hx => h x (by simp [hx])) e he
    exact key rows t.next hr.2 e he
theorem after_small {t : Table} {m : List Cell → Bool} {rows : List (List Cell)} (ht : t.l.length ≤ 40 ∧ okL t.l) (hr : rows.length ≤ 4 ∧ ∀ r ∈ rows, r.length < 1000000000000000) : (afterT t m rows).l.length ≤ 44 ∧ okL (afterT t m rows).l := by
  have h1 := List.length_filter_le (fun x : Line => !m x.r) t.l
  refine ⟨by simp only [afterT]; rw [List.length_append, addL_len]; omega, fun x hx => ?_⟩
  simp only [afterT, List.mem_append] at hx
  rcases hx with hx | hx
  · exact ht.2 x (List.mem_filter.1 hx).1
  · have key : ∀ (q : List (List Cell)) (n : Int), (∀ r ∈ q, r.length < 1000000000000000) → ∀ e ∈ addL n q, e.r.length < 1000000000000000 := by
      intro q
      induction q with
      | nil => intro n _ e he; simp [addL] at he
      | cons r q ih =>
        intro n h e he
        simp only [addL, List.mem_cons] at he
        rcases he with rfl | he
        · exact h r (by simp)
        · exact ih (n + 1) (fun x hx => h x (by simp [hx])) e he
    exact key rows t.next hr.2 x hx
theorem proS_add (fs : List Fld) (x : Raw) : (proS fs x).add.length ≤ 4 ∧ ∀ r ∈ (proS fs x).add, r.length ≤ fs.length := by
  refine ⟨by simp only [proS]; rw [List.length_map, List.length_take]; exact Nat.min_le_left .., fun r hr => ?_⟩
  simp only [proS, List.mem_map] at hr
  obtain ⟨q, _, rfl⟩ := hr
  exact rowS_len fs q
theorem law_Programs (L : List Chg) (V : List (List Val)) (r1 r2 r3 r4 : Int) (r5 : List Val) (r6 : ByteArray) (r7 : List Prd) (p1 p2 p3 p4 : Int) (p5 : List Val) (p6 : ByteArray) (p7 : List Prd) (add : List (List Val)) (gs : List Grd)
    (hL : L.length < 1000000000000000) (hc : ∀ c ∈ L, COK2 c) (hV : V.length < 1000000000000000) (hr : POK (.mk r1 r2 r3 r4 r5 r6 r7)) (hp : POK (.mk p1 p2 p3 p4 p5 p6 p7)) (ha : add.length < 1000000000000000) (hg : gs.length < 1000000000000000) (hgp : ∀ g ∈ gs, POK g.w) :
    Den prog 99 [.agg [.sl (L.map Chg.cells), .sl (V.map vals), .int .i64 r1, .int .i64 r2, .int .i64 r3, .int .i64 r4, .sl (r5.map Val.cells), .str r6, .sl (r7.map Prd.cells), .int .i64 p1, .int .i64 p2, .int .i64 p3, .int .i64 p4, .sl (p5.map Val.cells), .str p6, .sl (p7.map Prd.cells), .sl (add.map vals), .sl (gs.map Grd.cells)]] [] = some (.bool true, []) := by
  have a1 := R06_Made L 20 hL hc (by decide) (by decide)
  rw [show (20 : Int).toNat = 20 from rfl] at a1
  have hmo := madeC_ok (L.take 20) [] 1
  have hml : (madeC [] 1 (L.take 20)).length < 1000000000000000 := by
    have h1 := madeC_len (L.take 20) [] 1
    have h2 : (L.take 20).length ≤ 20 := by rw [List.length_take]; exact Nat.min_le_left ..
    omega
  have a2 := R06_After (madeC [] 1 (L.take 20)) hml hmo
  have hinv := afterS_inv hmo SInv.nil (i := 0)
  generalize madeC [] 1 (L.take 20) = chs at *
  generalize afterS [] 1 0 chs = s at *
  obtain ⟨fs, next, at_, e⟩ := s
  simp only [] at hinv
  have hF := hinv.len
  have a3 := R27_Made fs next r1 r2 r3 r4 r5 r6 r7 p1 p2 p3 p4 p5 p6 p7 add gs (by omega) hg hgp ha hr hp
  have a4 := R27_Table fs next V 40 (by omega) hV (by decide) (by decide)
  have ht := tabS_ok fs V 40 (by decide) (by decide)
  have hpa := proS_add fs ⟨.mk r1 r2 r3 r4 r5 r6 r7, .mk p1 p2 p3 p4 p5 p6 p7, add, gs⟩
  have hprem : POK (proS fs ⟨.mk r1 r2 r3 r4 r5 r6 r7, .mk p1 p2 p3 p4 p5 p6 p7, add, gs⟩).rem := predS_ok fs 2 _
  generalize proS fs ⟨.mk r1 r2 r3 r4 r5 r6 r7, .mk p1 p2 p3 p4 p5 p6 p7, add, gs⟩ = pro at *
  generalize tabS fs V 40 = t at *
  obtain ⟨vt, tl, tn, tr⟩ := ht
  have tl : t.l.length ≤ 40 := tl
  obtain ⟨⟨q1, q2, q3, q4, q5, q6, q7⟩, ⟨m1, m2, m3, m4, m5, m6, m7⟩, rows, gs'⟩ := pro
  simp only [] at hpa hprem
  obtain ⟨hr4, hrr⟩ := hpa
  have hrok : ∀ r ∈ rows, r.length < 1000000000000000 := fun r h => by have := hrr r h; omega
  have tok : okL t.l := fun x hx => by have := tr x hx; omega
  have tro : rowsOk t.l := fun x hx => by have := tr x hx; omega
  have tn0 := vt.n0
  have a5 := R27_Touched q1 q2 q3 q4 q5 q6 q7 m1 m2 m3 m4 m5 m6 m7 rows [] t.next t.l (by omega) tro hprem (by omega) tn0 (by omega)
  have a6 := R27_Run q1 q2 q3 q4 q5 q6 q7 m1 m2 m3 m4 m5 m6 m7 rows [] t.next t.l (by omega) tro hprem (by omega) tn0 (by omega) (by simp) (by simp)
  have et : touchS ⟨.mk q1 q2 q3 q4 q5 q6 q7, .mk m1 m2 m3 m4 m5 m6 m7, rows, []⟩ ⟨t.next, t.l⟩ = touchT t (matchP (.mk m1 m2 m3 m4 m5 m6 m7)) rows := rfl
  have sa := after_small (m := matchP (.mk m1 m2 m3 m4 m5 m6 m7)) ⟨tl, tok⟩ ⟨hr4, hrok⟩
  have st := touch_small (m := matchP (.mk m1 m2 m3 m4 m5 m6 m7)) ⟨tl, tok⟩ ⟨hr4, hrok⟩
  have vx := after_vt vt (matchP (.mk m1 m2 m3 m4 m5 m6 m7)) rows (by omega) (by omega)
  have ef := touch_feed vt (matchP (.mk m1 m2 m3 m4 m5 m6 m7)) rows vx
  have er : runS ⟨.mk q1 q2 q3 q4 q5 q6 q7, .mk m1 m2 m3 m4 m5 m6 m7, rows, []⟩ ⟨t.next, t.l⟩ = ⟨(afterT t (matchP (.mk m1 m2 m3 m4 m5 m6 m7)) rows).next, (afterT t (matchP (.mk m1 m2 m3 m4 m5 m6 m7)) rows).l, 0⟩ := by
    have d1 : decide (4096 < (((afterT t (matchP (.mk m1 m2 m3 m4 m5 m6 m7)) rows).l).length : Int)) = false := by rw [decide_eq_false_iff_not]; omega
    have d2 : decide (4611686018427387904 < t.next + (rows.length : Int)) = false := by rw [decide_eq_false_iff_not]; omega
    have d3 : decide ((0 : Int) = 0) = true := rfl
    unfold runS checkS
    show (bif !decide ((0 : Int) = 0) then _ else bif decide (4096 < (((afterT t (matchP (.mk m1 m2 m3 m4 m5 m6 m7)) rows).l).length : Int)) || decide (4611686018427387904 < t.next + (rows.length : Int)) then _ else _) = _
    rw [d1, d2, d3]
    rfl
  rw [et] at a5
  rw [er] at a6
  have hnx : (afterT t (matchP (.mk m1 m2 m3 m4 m5 m6 m7)) rows).next = t.next + rows.length := rfl
  have hmx : ∀ n : Int, t.next ≤ n → n < t.next + rows.length → ∃ y ∈ (afterT t (matchP (.mk m1 m2 m3 m4 m5 m6 m7)) rows).l, y.n = n := by
    have key : ∀ (q : List (List Cell)) (b n : Int), b ≤ n → n < b + q.length → ∃ y ∈ addL b q, y.n = n := by
      intro q
      induction q with
      | nil => intro b n h1 h2; simp at h2; omega
      | cons r q ih =>
        intro b n h1 h2
        by_cases h : n = b
        · exact ⟨⟨b, r⟩, by simp [addL], h.symm⟩
        · simp only [List.length_cons] at h2
          obtain ⟨y, hy, e⟩ := ih (b + 1) n (by omega) (by omega)
          exact ⟨y, by simp [addL, hy], e⟩
    intro n h1 h2
    obtain ⟨y, hy, e⟩ := key rows t.next n h1 h2
    exact ⟨y, by simp [afterT, hy], e⟩
  generalize afterT t (matchP (.mk m1 m2 m3 m4 m5 m6 m7)) rows = x at *
  generalize touchT t (matchP (.mk m1 m2 m3 m4 m5 m6 m7)) rows = f at *
  obtain ⟨⟨yn, yl⟩, e1, vy, ny, ly⟩ := apply_feed vt vx vt rfl ⟨by omega, by omega⟩
  simp only [] at ly ny
  subst ly
  have yeq : yn = x.next := by
    have h1 := apply_next e1
    simp only [] at h1
    have hxr := vx.rng
    have hyr := vy.rng
    simp only [] at hyr
    rcases h1 with h1 | ⟨y, hy, h1⟩
    · by_cases hz : rows.length = 0
      · omega
      · obtain ⟨z, hz1, hz2⟩ := hmx t.next (by omega) (by omega)
        have := (hyr z hz1).2
        omega
    · have := (hxr y hy).2
      by_cases hz : rows.length = 0
      · omega
      · obtain ⟨z, hz1, hz2⟩ := hmx (t.next + rows.length - 1) (by omega) (by omega)
        have := (hyr z hz1).2
        omega
  subst yeq
  have xe : (⟨x.next, x.l⟩ : Table) = x := rfl
  rw [xe] at e1 vy
  obtain ⟨⟨zn, zl⟩, e2, vz, nz, lz⟩ := apply_feed vx vt vx rfl ⟨by omega, by omega⟩
  simp only [] at lz
  subst lz
  have sf := st
  rw [← ef] at st
  have b1 := Apply_small (l := feed t x) ⟨by omega, tok⟩ ⟨by omega, st.2⟩ e1
  have hinv2 := feed_invert vt vx
  have b2 := Invert_small (a := feed t x) ⟨by omega, st.2⟩ hinv2
  have lf := feed_len x t
  have b3 := Apply_small (l := feed x t) ⟨by omega, sa.2⟩ ⟨by omega, feed_ok sa.2 tok⟩ e2
  have b4 := R29_Same x x (by omega) sa.2
  have b5 := Lines_refl (L := t.l) ⟨by omega, tok⟩
  have b6 := Feed_small (a := t) (b := x) ⟨by omega, tok⟩ ⟨by omega, sa.2⟩
  have b7 := Events_refl (L := feed t x) ⟨by omega, st.2⟩
  rw [ef] at b1 b2 b6 b7
  simp only [decide_true, Bool.and_true] at b4
  clear ef sf st sa lf hinv2 e1 e2 vy vz nz ny hnx hmx vx et er tn0 tro tok hrok hrr hr4 hprem tr tn tl vt hF hinv hgp hg ha hp hr hV hc hL hmo hml
  rw [Den_ofK [] pr_L29_LineagePrograms rfl]
  simp only [go_sem] at a1 a2 a3 a4 a5 a6 b1 b2 b3 b4 b5 b6 b7
  simp only [f_L29_LineagePrograms, a1, a2, a3, a4, a5, a6, b1, b2, b3, b4, b5, b6, b7, go_sem]
open Go.Proofs in
theorem row_Programs (xs : List AV) (h : Args Try.prog [67] xs) : Den prog 99 xs [] = some (.bool true, []) := by
  obtain ⟨n, x, ys, rfl, h1, h⟩ := h.one
  cases h.none
  obtain ⟨ps, m, rfl, hp⟩ := h1.struct Try.underlying67
  obtain ⟨p, q, r, rfl, a1, a2, a3⟩ := hp.p3
  obtain ⟨L, rfl, hL, hc⟩ := sh_chgs a1
  obtain ⟨V, rfl, hV⟩ := sh_valss a2
  obtain ⟨⟨⟨r1, r2, r3, r4, r5, r6, r7⟩, ⟨p1, p2, p3, p4, p5, p6, p7⟩, add, gs⟩, rfl, b1, b2, b3, b4, b5⟩ := sh_raw a3
  simp only [avOf, Try.underlying67]
  simp only [] at b1 b2 b3 b4 b5
  have := law_Programs L V r1 r2 r3 r4 r5 r6 r7 p1 p2 p3 p4 p5 p6 p7 add gs (by omega) hc (by omega) b1 b2 (by omega) (by omega) b5
  simpa [Raw.cells, Prd.cells_mk] using this
end Go.Den
