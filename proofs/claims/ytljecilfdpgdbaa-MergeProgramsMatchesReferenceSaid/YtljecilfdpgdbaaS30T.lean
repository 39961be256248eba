/- Ch. 30: Programs, the reference's way. -/
import Derived.Test.YtljecilfdpgdbaaS30R
namespace Go.Den
open Go
set_option linter.unusedSimpArgs false
set_option linter.unusedVariables false
set_option maxRecDepth 100000
set_option maxHeartbeats 1000000
def diffA (A B : List Line) : List Line := A.filter fun x => !sameS A B x.n
def diffB (A B : List Line) : List Line := B.filter fun x => !sameS A B x.n
theorem R30_Events (A B : List Line) (na nb : Int) (hA : A.length < 1000000000) (hB : B.length < 1000000000) (rA : rowsOk A) :
    Den prog 149 [.agg [.int .i64 na, .sl (A.map Line.cells)], .agg [.int .i64 nb, .sl (B.map Line.cells)]] [] = some (.sl ((diffA A B ++ diffB A B).map Line.cells), []) := by
  rw [Den_ofK [] pr_R30_Events rfl]
  obtain ⟨R, hR⟩ : ∃ R, R = diffA A B ++ diffB A B := ⟨_, rfl⟩
  rw [← hR]
  simp only [f_R30_Events, go_sem]
  refine range_ind A (by omega) (fun i (out : List Line) => (Run prog 0 (.loop 1 [2, 3, 5, 6] f_R30_Events_l0) [(2, .rptr [.int .i64 na, .sl (A.map Line.cells)]), (3, .rptr [.int .i64 nb, .sl (B.map Line.cells)]), (5, .osl 0 0 out.length 0 out.length), (6, .int .i64 i)] [.arr 0 2 (out.map Line.cells)]).bind _ = _)
    (fun i rest out => out ++ (rest.filter fun x => !sameS A B x.n) = diffA A B ∧ (out.length : Int) ≤ i) ?_ ?_ [] ⟨rfl, by simp⟩
  · intro out ⟨h, hl⟩
    have h : diffA A B = out := by rw [← h]; simp
    rw [h] at hR
    rw [Run_loop]
    simp only [f_R30_Events_l0_eq, f_R30_Events_l0u, go_sem]
    refine range_ind B (by omega) (fun i (o2 : List Line) => (Run prog 0 (.loop 1 [2, 3, 5, 7] f_R30_Events_l1) [(2, .rptr [.int .i64 na, .sl (A.map Line.cells)]), (3, .rptr [.int .i64 nb, .sl (B.map Line.cells)]), (5, .osl 0 0 o2.length 0 o2.length), (7, .int .i64 i)] [.arr 0 2 (o2.map Line.cells)]).bind _ = _)
      (fun i rest o2 => o2 ++ (rest.filter fun x => !sameS A B x.n) = out ++ diffB A B ∧ (o2.length : Int) ≤ out.length + i) ?_ ?_ out ⟨rfl, by simp⟩
    · intro o2 ⟨h, _⟩
      have h : out ++ diffB A B = o2 := by rw [← h]; simp
      rw [h] at hR
      rw [hR, Run_loop]
      simp only [f_R30_Events_l1_eq, f_R30_Events_l1u, go_sem]
    · intro i pre rest x o2 hq _ hi0 hi1 hx hc hw ⟨h, hl2⟩ ih
      have hb : (o2.length + 1) * 32 ≤ 140737488355328 := by clear hw hx hc ih h hq; omega
      have hs := R30_same A B na nb x.n (by omega) (by omega) rA
      rw [List.filter_cons] at h
      rw [Run_loop]
      cases d : sameS A B x.n with
      | true =>
        rw [d] at h hs
        simp only [Bool.not_true, Bool.false_eq_true, if_false] at h
        have ih := ih o2 ⟨h, by omega⟩
        clear h hq
        simp only [f_R30_Events_l1_eq, f_R30_Events_l1u, hx, hc, hw, hs, ih, go_sem]
      | false =>
        rw [d] at h hs
        simp only [Bool.not_false, if_true] at h
        have ih := ih (o2 ++ [x]) ⟨by rw [← h]; simp, by simp; omega⟩
        clear h hq
        simp only [go_sem] at ih
        simp only [f_R30_Events_l1_eq, f_R30_Events_l1u, hx, hc, hw, hs, hb, ih, go_sem]
  · intro i pre rest x out hq _ hi0 hi1 hx hc hw ⟨h, hl⟩ ih
    have hb : (out.length + 1) * 32 ≤ 140737488355328 := by clear hw hx hc ih h hq; omega
    have hs := R30_same A B na nb x.n (by omega) (by omega) rA
    rw [List.filter_cons] at h
    rw [Run_loop]
    cases d : sameS A B x.n with
    | true =>
      rw [d] at h hs
      simp only [Bool.not_true, Bool.false_eq_true, if_false] at h
      have ih := ih out ⟨h, by omega⟩
      clear h hq
      simp only [f_R30_Events_l0_eq, f_R30_Events_l0u, hx, hc, hw, hs, ih, go_sem]
    | false =>
      rw [d] at h hs
      simp only [Bool.not_false, if_true] at h
      have ih := ih (out ++ [x]) ⟨by rw [← h]; simp, by simp; omega⟩
      clear h hq
      simp only [go_sem] at ih
      simp only [f_R30_Events_l0_eq, f_R30_Events_l0u, hx, hc, hw, hs, hb, ih, go_sem]
def liB (evs : List Line) (p : Pro) : Bool := evs.any fun e => matchP p.read e.r
theorem R30_Reads (evs : List Line) (he : evs.length < 1000000000000000) (ho : rowsOk evs) (x : Pro) (hx : PrOK x) : Den prog 150 [.agg x.cells, .sl (evs.map Line.cells)] [] = some (.bool (liB evs x), []) := by
  have hrd := hx.read
  unfold liB
  rw [Den_ofK [] pr_R30_Reads rfl]
  obtain ⟨⟨r1, r2, r3, r4, r5, r6, r7⟩, ⟨p1, p2, p3, p4, p5, p6, p7⟩, add, gs⟩ := x
  simp only [f_R30_Reads, go_sem]
  refine range_ind evs he (fun i (_ : Unit) => (Run prog 0 (.loop 0 [1, 2, 5] f_R30_Reads_l0) [(1, .sl (evs.map Line.cells)), (2, .rptr [.int .i64 r1, .int .i64 r2, .int .i64 r3, .int .i64 r4, .sl (r5.map Val.cells), .str r6, .sl (r7.map Prd.cells), .int .i64 p1, .int .i64 p2, .int .i64 p3, .int .i64 p4, .sl (p5.map Val.cells), .str p6, .sl (p7.map Prd.cells), .sl (add.map rowc), .sl (gs.map Grd.cells)]), (5, .int .i64 i)] []).bind _ = _)
    (fun i rest _ => (rest.any fun e => matchP (.mk r1 r2 r3 r4 r5 r6 r7) e.r) = (evs.any fun e => matchP (.mk r1 r2 r3 r4 r5 r6 r7) e.r)) ?_ ?_ () rfl
  · intro _ h
    rw [← h, Run_loop]
    simp only [f_R30_Reads_l0_eq, f_R30_Reads_l0u, List.any_nil, go_sem]
  · intro i pre rest x _ hq _ hi0 hi1 hx hc hw h ih
    have hm := R08_Match x.r (ho x (by rw [hq]; simp)) _ hrd
    rw [Prd.cells_mk] at hm
    rw [List.any_cons] at h
    rw [Run_loop]
    cases d : matchP (.mk r1 r2 r3 r4 r5 r6 r7) x.r with
    | true =>
      rw [d, Bool.true_or] at h
      rw [d] at hm
      rw [← h]
      simp only [f_R30_Reads_l0_eq, f_R30_Reads_l0u, hx, hc, hw, hm, go_sem]
    | false =>
      rw [d, Bool.false_or] at h
      rw [d] at hm
      have ih := ih () h
      simp only [f_R30_Reads_l0_eq, f_R30_Reads_l0u, hx, hc, hw, hm, ih, go_sem]
def diffF (base t : Table) (p : Pro) : Bool := liB (diffA base.l t.l ++ diffB base.l t.l) p
theorem R30_Programs (base : Table) (a b : List Pro) (hb : base.l.length < 100000) (rb : rowsOk base.l) (h0 : 0 ≤ base.next) (h1 : base.next < 1000000) (la : a.length ≤ 1000) (lb : b.length ≤ 1000) (pa : ∀ p ∈ a, PrOK p) (pb : ∀ p ∈ b, PrOK p) :
    Den prog 152 [.agg [.int .i64 base.next, .sl (base.l.map Line.cells)], .sl (a.map Pro.cells), .sl (b.map Pro.cells)] [] = some ((progsS (diffF base) base a b).av, []) := by
  obtain ⟨R, hR⟩ : ∃ R, R = progsS (diffF base) base a b := ⟨_, rfl⟩
  rw [← hR]
  unfold progsS at hR
  have t0 : TI (4 * (b.length : Int) + 4 * (a.length : Int)) base := ⟨by omega, rb, h0, by omega⟩
  have hTn : (progsT base a) = ⟨(runL (fun _ => false) base 0 a).next, (runL (fun _ => false) base 0 a).l⟩ := rfl
  rw [hTn] at hR
  obtain ⟨F, hF⟩ : ∃ F, F = runL (fun _ => false) base 0 a := ⟨_, rfl⟩
  rw [← hF] at hR
  rw [Den_ofK [] pr_R30_Programs rfl]
  simp only [f_R30_Programs, go_sem]
  refine range_ind a (by omega) (fun i (s : Table) => (Run prog 0 (.loop 2 [1, 2, 3, 6, 9, 10] f_R30_Programs_l0) [(1, .sl (a.map Pro.cells)), (2, .sl (b.map Pro.cells)), (3, .rptr [.int .i64 base.next, .sl (base.l.map Line.cells)]), (6, .ref 0 0), (9, .ref 1 0), (10, .int .i64 i)]
      [.cells [.int .i64 0, .nils], .cells [.int .i64 s.next, .sl (s.l.map Line.cells)]]).bind _ = _)
    (fun i rest s => F = runL (fun _ => false) s i rest ∧ TI (4 * (b.length : Int) + 4 * (rest.length : Int)) s ∧ (s.l.length ≤ 4096 ∨ s.l.length ≤ base.l.length)) ?_ ?_ base ⟨hF, t0, .inr (Nat.le_refl _)⟩
  · intro s ⟨h, hti, hsl⟩
    rw [runL] at h
    have e0 : decide ((0 : Int) = 0) = true := rfl
    rw [h] at hR
    simp only [decide_true, cond_true] at hR
    have hev := R30_Events base.l s.l base.next s.next (by omega) (by omega) rb
    have hse : (⟨s.next, s.l⟩ : Table) = s := rfl
    rw [hse] at hR
    have hdf : diffF base s = liB (diffA base.l s.l ++ diffB base.l s.l) := rfl
    rw [hdf] at hR
    have hel : (diffA base.l s.l ++ diffB base.l s.l).length < 1000000000000000 := by
      have q1 : (diffA base.l s.l).length ≤ base.l.length := List.length_filter_le _ _
      have q2 : (diffB base.l s.l).length ≤ s.l.length := List.length_filter_le _ _
      rw [List.length_append]; omega
    have heo : rowsOk (diffA base.l s.l ++ diffB base.l s.l) := by
      intro x hx
      rcases List.mem_append.1 hx with hx | hx
      · exact rb x (List.mem_filter.1 hx).1
      · exact hti.rows x (List.mem_filter.1 hx).1
    generalize diffA base.l s.l ++ diffB base.l s.l = evs at *
    obtain ⟨G, hG⟩ : ∃ G, G = runL (liB evs) s 0 b := ⟨_, rfl⟩
    rw [← hG] at hR
    clear h hF
    rw [Run_loop]
    simp only [f_R30_Programs_l0_eq, f_R30_Programs_l0u, hev, go_sem]
    refine range_ind b (by omega) (fun i (u : Table) => (Run prog 0 (.loop 2 [1, 2, 6, 9, 13, 14] f_R30_Programs_l1) [(1, .sl (a.map Pro.cells)), (2, .sl (b.map Pro.cells)), (6, .ref 0 0), (9, .ref 1 0), (13, .sl (evs.map Line.cells)), (14, .int .i64 i)]
        [.cells [.int .i64 0, .nils], .cells [.int .i64 u.next, .sl (u.l.map Line.cells)]]).bind _ = _)
      (fun i rest u => G = runL (liB evs) u i rest ∧ TI (4 * (rest.length : Int)) u) ?_ ?_ s ⟨hG, ⟨hti.len, hti.rows, hti.n0, by have := hti.n1; simp only [List.length_nil] at this; omega⟩⟩
    · intro u ⟨h, _⟩
      have w2 : IntKind.wrap .i64 ((a.length : Int) + b.length) = a.length + b.length := wrap_i64 (by omega) (by omega)
      rw [runL] at h
      rw [h] at hR
      simp only [decide_true, cond_true] at hR
      rw [hR, Run_loop]
      simp only [f_R30_Programs_l1_eq, f_R30_Programs_l1u, w2, go_sem]
    · intro i pre rest x u hq _ hi0 hi1 hx hc hw ⟨h, hti⟩ ih
      obtain ⟨hxo, ht4, hnx⟩ := ti_pre pb hq hti
      have hr := RunR_ti hxo ht4
      have hf := R30_Reads evs hel heo x hxo
      have w1 : IntKind.wrap .i64 ((a.length : Int) + i) = a.length + i := wrap_i64 (by omega) (by omega)
      rw [runL] at h
      generalize runS x u = q at *
      generalize liB evs x = fb at *
      obtain ⟨⟨r1, r2, r3, r4, r5, r6, r7⟩, ⟨p1, p2, p3, p4, p5, p6, p7⟩, add, gs⟩ := x
      simp only [go_sem] at hr hf
      clear hq hxo ht4 hti
      rw [Run_loop]
      cases fb with
      | true =>
        rw [cond_true] at h
        have e1 : decide ((280 : Int) = 0) = false := rfl
        rw [h] at hR
        simp only [decide_true, decide_false, cond_true, cond_false, e1] at hR
        rw [hR]
        simp only [f_R30_Programs_l1_eq, f_R30_Programs_l1u, hx, hc, hw, hf, w1, go_sem]
      | false =>
        rw [cond_false] at h
        cases d : decide (q.e = 0) with
        | false =>
          rw [d, cond_false] at h
          rw [h] at hR
          simp only [decide_true, cond_true, d, cond_false] at hR
          rw [hR]
          simp only [f_R30_Programs_l1_eq, f_R30_Programs_l1u, hx, hc, hw, hf, hr, d, w1, go_sem]
        | true =>
          rw [d, cond_true] at h
          have ih := ih ⟨q.next, q.l⟩ ⟨h, hnx (of_decide_eq_true d)⟩
          clear h hR
          simp only [f_R30_Programs_l1_eq, f_R30_Programs_l1u, hx, hc, hw, hf, hr, d, ih, go_sem]
  · intro i pre rest x s hq _ hi0 hi1 hx hc hw ⟨h, hti, hsl⟩ ih
    have hxo := pa x (by rw [hq]; simp)
    have hn1 := hti.n1
    simp only [List.length_cons] at hn1
    have ht4 : TI 4 s := ⟨hti.len, hti.rows, hti.n0, by omega⟩
    have hnx : (runS x s).e = 0 → TI (4 * (b.length : Int) + 4 * (rest.length : Int)) ⟨(runS x s).next, (runS x s).l⟩ ∧ (runS x s).l.length ≤ 4096 := fun he => runS_ok hxo (k := 4 * (b.length : Int) + 4 * (rest.length : Int)) ⟨hti.len, hti.rows, hti.n0, by omega⟩ he
    have hr := RunR_ti hxo ht4
    rw [runL, cond_false] at h
    generalize runS x s = q at *
    obtain ⟨⟨r1, r2, r3, r4, r5, r6, r7⟩, ⟨p1, p2, p3, p4, p5, p6, p7⟩, add, gs⟩ := x
    simp only [go_sem] at hr
    clear hq hxo ht4 hti
    rw [Run_loop]
    cases d : decide (q.e = 0) with
    | false =>
      rw [d, cond_false] at h
      rw [h] at hR
      simp only [decide_true, cond_true, d, cond_false] at hR
      rw [hR]
      simp only [f_R30_Programs_l0_eq, f_R30_Programs_l0u, hx, hc, hw, hr, d, go_sem]
    | true =>
      rw [d, cond_true] at h
      have ih := ih ⟨q.next, q.l⟩ ⟨h, (hnx (of_decide_eq_true d)).1, .inl (hnx (of_decide_eq_true d)).2⟩
      clear h hR
      simp only [f_R30_Programs_l0_eq, f_R30_Programs_l0u, hx, hc, hw, hr, d, ih, go_sem]
end Go.Den
