/- Programs, the program's way: sums, guards, execution. -/
import Derived.Test.YtcbehobgahcdkaaSPred
namespace Go.Den
open Go
set_option linter.unusedSimpArgs false
set_option linter.unusedVariables false
set_option maxRecDepth 100000
set_option maxHeartbeats 1000000
theorem IndexFunc_Cell (L : List Cell) (hL : L.length < 1000000000000000) (f : Nat) (caps : List AV) (p : Cell → Bool) (hcn : norms caps = caps) (hcr : norefs caps = true)
    (hp : ∀ x ∈ L, Den prog f (.agg [.int .i64 x.id, .bool x.v.null, .int .i64 x.v.n, .str x.v.s] :: caps) [] = some (.bool (p x), [])) : Den prog 122 [.sl (L.map Cell.cells), .fn f caps] [] = some (.int .i64 (idxF p 0 L), []) := by
  rw [Den_ofK [] pr_slices_IndexFunc_api_Cell_api_Cell rfl]
  simp only [f_slices_IndexFunc_api_Cell_api_Cell, go_sem]
  refine range_ind L hL (fun i (_ : Unit) => (Run prog 0 (.loop 0 [0, 1, 7, 8] f_slices_IndexFunc_api_Cell_api_Cell_l0) [(0, .sl (L.map Cell.cells)), (1, .fn f caps), (7, .int .i64 L.length), (8, .int .i64 i)] []).bind _ = _)
    (fun i rest _ => idxF p i rest = idxF p 0 L) ?_ ?_ () rfl
  · intro _ h
    rw [← h, Run_loop]
    simp only [f_slices_IndexFunc_api_Cell_api_Cell_l0_eq, f_slices_IndexFunc_api_Cell_api_Cell_l0u, idxF, go_sem]
  · intro i pre rest x _ hq _ hi0 hi1 hx hc hw h ih
    have hm := hp x (by rw [hq]; simp)
    rw [idxF] at h
    rw [Run_loop]
    cases d : p x with
    | true =>
      rw [d, cond_true] at h
      rw [← h]
      rw [d] at hm
      simp only [f_slices_IndexFunc_api_Cell_api_Cell_l0_eq, f_slices_IndexFunc_api_Cell_api_Cell_l0u, hx, hc, hw, hcn, hcr, hm, List.cons_append, List.nil_append, go_sem]
    | false =>
      rw [d, cond_false] at h
      rw [d] at hm
      have ih := ih () h
      simp only [f_slices_IndexFunc_api_Cell_api_Cell_l0_eq, f_slices_IndexFunc_api_Cell_api_Cell_l0u, hx, hc, hw, hcn, hcr, hm, ih, List.cons_append, List.nil_append, go_sem]
theorem idx_getC_at (id : Int) : ∀ (r pre : List Cell), (idxF (fun c : Cell => decide (c.id = id)) pre.length r = -1 ∧ getC r id = nullV) ∨ ∃ c, 0 ≤ idxF (fun c : Cell => decide (c.id = id)) pre.length r ∧ getE (pre ++ r) (idxF (fun c : Cell => decide (c.id = id)) pre.length r) = some c ∧ getC r id = c.v
  | [], pre => .inl ⟨rfl, rfl⟩
  | c :: r, pre => by
    rw [idxF, getC]
    by_cases h : c.id = id
    · simp only [h, decide_true, cond_true, if_true]
      exact .inr ⟨c, by omega, getE_mid pre c r, rfl⟩
    · simp only [h, decide_false, cond_false, if_false]
      have := idx_getC_at id r (pre ++ [c])
      simpa using this
theorem idx_getC (id : Int) (r : List Cell) : (idxF (fun c : Cell => decide (c.id = id)) 0 r = -1 ∧ getC r id = nullV) ∨ ∃ c, 0 ≤ idxF (fun c : Cell => decide (c.id = id)) 0 r ∧ getE r (idxF (fun c : Cell => decide (c.id = id)) 0 r) = some c ∧ getC r id = c.v := idx_getC_at id r []
theorem program_sum (p1 p2 p3 p4 : Int) (p5 : List Val) (p6 : ByteArray) (p7 : List Prd) (id lo hi : Int) (nx : Int) (L : List Line) (hL : L.length < 1000000000000000) (hR : rowsOk L) (hp : POK (.mk p1 p2 p3 p4 p5 p6 p7)) :
    Den prog 123 [.agg [.int .i64 p1, .int .i64 p2, .int .i64 p3, .int .i64 p4, .sl (p5.map Val.cells), .str p6, .sl (p7.map Prd.cells), .int .i64 id, .int .i64 lo, .int .i64 hi], .agg [.int .i64 nx, .sl (L.map Line.cells)]] [] = some (.int .i64 (sumS (.mk p1 p2 p3 p4 p5 p6 p7) id 0 L), []) := by
  rw [Den_ofK [] pr_program_sum rfl]
  simp only [f_program_sum, go_sem]
  refine range_ind L hL (fun i (n : Int) => (Run prog 0 (.loop 0 [2, 5, 10, 11, 12] f_program_sum_l0) [(2, .rptr [.int .i64 p1, .int .i64 p2, .int .i64 p3, .int .i64 p4, .sl (p5.map Val.cells), .str p6, .sl (p7.map Prd.cells), .int .i64 id, .int .i64 lo, .int .i64 hi]), (5, .int .i64 n), (10, .sl (L.map Line.cells)), (11, .int .i64 L.length), (12, .int .i64 i)] []).bind _ = _)
    (fun i rest n => sumS (.mk p1 p2 p3 p4 p5 p6 p7) id n rest = sumS (.mk p1 p2 p3 p4 p5 p6 p7) id 0 L) ?_ ?_ 0 rfl
  · intro n h
    rw [← h, Run_loop]
    simp only [f_program_sum_l0_eq, f_program_sum_l0u, sumS, go_sem]
  · intro i pre rest x n hq _ hi0 hi1 hx hc hw h ih
    have hr := hR x (by rw [hq]; simp)
    have hm := pred_Match x.r hr _ hp
    have hix := IndexFunc_Cell x.r (by omega) 121 [.rptr [.int .i64 p1, .int .i64 p2, .int .i64 p3, .int .i64 p4, .sl (p5.map Val.cells), .str p6, .sl (p7.map Prd.cells), .int .i64 id, .int .i64 lo, .int .i64 hi]] (fun c => decide (c.id = id)) rfl rfl
      (fun c _ => by
        rw [Den_ofK [] pr_program_sum_1 rfl]
        simp only [f_program_sum_1, go_sem])
    have hgc := idx_getC id x.r
    rw [sumS] at h
    generalize matchP (.mk p1 p2 p3 p4 p5 p6 p7) x.r = b at *
    generalize idxF (fun c : Cell => decide (c.id = id)) 0 x.r = k at *
    simp only [go_sem] at hm
    rw [Run_loop]
    cases b with
    | false =>
      have ih := ih n (by rw [← h]; rfl)
      clear h hq hgc
      simp only [f_program_sum_l0_eq, f_program_sum_l0u, hx, hc, hw, hm, ih, go_sem]
    | true =>
      rw [Bool.true_and] at h
      rcases hgc with ⟨rfl, e⟩ | ⟨c, k0, kc, e⟩
      · rw [e] at h
        have ih := ih n (by rw [← h]; rfl)
        have d : decide ((0 : Int) ≤ -1) = false := rfl
        clear h hq
        simp only [f_program_sum_l0_eq, f_program_sum_l0u, hx, hc, hw, hm, hix, d, ih, go_sem]
      · rw [e] at h
        have d : decide ((0 : Int) ≤ k) = true := by simp [k0]
        cases hn : c.v.null with
        | true =>
          rw [hn] at h
          have ih := ih n (by rw [← h]; rfl)
          clear h hq e
          simp only [f_program_sum_l0_eq, f_program_sum_l0u, hx, hc, hw, hm, hix, d, kc, hn, ih, go_sem]
        | false =>
          rw [hn] at h
          have ih := ih _ (by rw [← h]; rfl)
          clear h hq e
          simp only [f_program_sum_l0_eq, f_program_sum_l0u, hx, hc, hw, hm, hix, d, kc, hn, ih, go_sem]
theorem program_Check (r1 r2 r3 r4 : Int) (r5 : List Val) (r6 : ByteArray) (r7 : List Prd) (p1 p2 p3 p4 : Int) (p5 : List Val) (p6 : ByteArray) (p7 : List Prd) (add : List (List Cell)) (gs : List Grd) (nx : Int) (L : List Line) (hL : L.length < 1000000000000000) (hR : rowsOk L) (hg : gs.length < 1000000000000000) (hp : ∀ g ∈ gs, POK g.w) :
    Den prog 124 [.agg [.int .i64 r1, .int .i64 r2, .int .i64 r3, .int .i64 r4, .sl (r5.map Val.cells), .str r6, .sl (r7.map Prd.cells), .int .i64 p1, .int .i64 p2, .int .i64 p3, .int .i64 p4, .sl (p5.map Val.cells), .str p6, .sl (p7.map Prd.cells), .sl (add.map rowc), .sl (gs.map Grd.cells)], .agg [.int .i64 nx, .sl (L.map Line.cells)]] [] = some (.tup [.int .i64 (checkS L 0 gs).1, .int .i64 (checkS L 0 gs).2], []) := by
  rw [Den_ofK [] pr_program_Check rfl]
  simp only [f_program_Check, go_sem]
  refine range_ind gs hg (fun i (_ : Unit) => (Run prog 0 (.loop 0 [2, 3, 10, 11, 12] f_program_Check_l0) [(2, .rptr [.int .i64 r1, .int .i64 r2, .int .i64 r3, .int .i64 r4, .sl (r5.map Val.cells), .str r6, .sl (r7.map Prd.cells), .int .i64 p1, .int .i64 p2, .int .i64 p3, .int .i64 p4, .sl (p5.map Val.cells), .str p6, .sl (p7.map Prd.cells), .sl (add.map rowc), .sl (gs.map Grd.cells)]), (3, .rptr [.int .i64 nx, .sl (L.map Line.cells)]), (10, .sl (gs.map Grd.cells)), (11, .int .i64 gs.length), (12, .int .i64 i)] []).bind _ = _)
    (fun i rest _ => checkS L i rest = checkS L 0 gs) ?_ ?_ () rfl
  · intro _ h
    rw [← h, Run_loop]
    simp only [f_program_Check_l0_eq, f_program_Check_l0u, checkS, go_sem]
  · intro i pre rest x _ hq _ hi0 hi1 hx hc hw h ih
    have hpx := hp x (by rw [hq]; simp)
    obtain ⟨⟨q1, q2, q3, q4, q5, q6, q7⟩, id, lo, hi⟩ := x
    have hs := program_sum q1 q2 q3 q4 q5 q6 q7 id lo hi nx L hL hR hpx
    rw [checkS] at h
    simp only [] at h
    generalize sumS (.mk q1 q2 q3 q4 q5 q6 q7) id 0 L = s at *
    rw [Run_loop]
    cases d1 : decide (s < lo) with
    | true =>
      rw [d1, Bool.true_or, cond_true] at h
      rw [← h]
      simp only [f_program_Check_l0_eq, f_program_Check_l0u, hx, hc, hw, hs, d1, go_sem]
    | false => cases d2 : decide (hi < s) with
      | true =>
        rw [d1, d2, Bool.or_true, cond_true] at h
        rw [← h]
        simp only [f_program_Check_l0_eq, f_program_Check_l0u, hx, hc, hw, hs, d1, d2, go_sem]
      | false =>
        rw [d1, d2, Bool.or_false, cond_false] at h
        have ih := ih () h
        simp only [f_program_Check_l0_eq, f_program_Check_l0u, hx, hc, hw, hs, d1, d2, ih, go_sem]
section
variable (r1 r2 r3 r4 : Int) (r5 : List Val) (r6 : ByteArray) (r7 : List Prd) (p1 p2 p3 p4 : Int) (p5 : List Val) (p6 : ByteArray) (p7 : List Prd) (add : List (List Cell)) (gs : List Grd) (nx : Int) (L : List Line)
theorem program_Run (hL : L.length < 1000000000) (hR : rowsOk L) (hp : POK (.mk p1 p2 p3 p4 p5 p6 p7)) (ha : add.length < 1000000000) (h0 : 0 ≤ nx) (h1 : nx < 4611686018427387905) (hg : gs.length < 1000000000) (hgp : ∀ g ∈ gs, POK g.w) :
    Den prog 125 [.agg ([AV.int IntKind.i64 r1, AV.int IntKind.i64 r2, AV.int IntKind.i64 r3, AV.int IntKind.i64 r4, AV.sl (r5.map Val.cells), AV.str r6, AV.sl (r7.map Prd.cells), AV.int IntKind.i64 p1, AV.int IntKind.i64 p2, AV.int IntKind.i64 p3, AV.int IntKind.i64 p4, AV.sl (p5.map Val.cells), AV.str p6, AV.sl (p7.map Prd.cells), AV.sl (add.map rowc), AV.sl (gs.map Grd.cells)] : List AV), .agg ([AV.int IntKind.i64 nx, AV.sl (L.map Line.cells)] : List AV)] [] = some ((runS ⟨.mk r1 r2 r3 r4 r5 r6 r7, .mk p1 p2 p3 p4 p5 p6 p7, add, gs⟩ ⟨nx, L⟩).av, []) := by
  have hck := program_Check r1 r2 r3 r4 r5 r6 r7 p1 p2 p3 p4 p5 p6 p7 add gs nx L (by omega) hR (by omega) hgp
  rw [Den_ofK [] pr_program_Run rfl]
  obtain ⟨R, hRR⟩ : ∃ R, R = runS ⟨.mk r1 r2 r3 r4 r5 r6 r7, .mk p1 p2 p3 p4 p5 p6 p7, add, gs⟩ ⟨nx, L⟩ := ⟨_, rfl⟩
  rw [← hRR]
  simp only [runS] at hRR
  generalize checkS L 0 gs = ck at *
  cases d : decide (ck.2 = 0) with
  | false =>
    rw [d, Bool.not_false, cond_true] at hRR
    rw [hRR]
    simp only [f_program_Run, hck, d, go_sem]
  | true =>
  rw [d, Bool.not_true, cond_false] at hRR
  have hz : ck.2 = 0 := by simpa using d
  have d0 : decide ((0 : Int) = 0) = true := rfl
  rw [hz] at hck
  simp only [f_program_Run, hck, d0, go_sem]
  refine range_ind L (by omega) (fun i (out : List Line) => (Run prog 0 (.loop 3 [2, 3, 4, 8, 27, 28, 29] f_program_Run_l0) [(2, .rptr ([AV.int IntKind.i64 r1, AV.int IntKind.i64 r2, AV.int IntKind.i64 r3, AV.int IntKind.i64 r4, AV.sl (r5.map Val.cells), AV.str r6, AV.sl (r7.map Prd.cells), AV.int IntKind.i64 p1, AV.int IntKind.i64 p2, AV.int IntKind.i64 p3, AV.int IntKind.i64 p4, AV.sl (p5.map Val.cells), AV.str p6, AV.sl (p7.map Prd.cells), AV.sl (add.map rowc), AV.sl (gs.map Grd.cells)] : List AV)), (3, .rptr ([AV.int IntKind.i64 nx, AV.sl (L.map Line.cells)] : List AV)), (4, .ref 0 0), (8, .ref 2 0), (27, .sl (L.map Line.cells)), (28, .int .i64 L.length), (29, .int .i64 i)] [.cells [.int .i64 0, .nils], .arr 0 2 (out.map Line.cells), .cells [.int .i64 nx, .osl 1 0 out.length 0 out.length]]).bind _ = _)
    (fun i rest out => out ++ rest.filter (fun x => !matchP (.mk p1 p2 p3 p4 p5 p6 p7) x.r) = L.filter (fun x => !matchP (.mk p1 p2 p3 p4 p5 p6 p7) x.r) ∧ (out.length : Int) ≤ i) ?_ ?_ [] ⟨by simp, by simp⟩
  · intro out ⟨h, hl⟩
    have h : L.filter (fun x => !matchP (.mk p1 p2 p3 p4 p5 p6 p7) x.r) = out := by rw [← h]; simp
    rw [h] at hRR
    clear h
    have hw3 : IntKind.wrap .i64 ((out.length : Int) + add.length) = out.length + add.length := wrap_i64 (by omega) (by omega)
    have hw4 : IntKind.wrap .i64 (4611686018427387904 - (add.length : Int)) = 4611686018427387904 - (add.length : Int) := wrap_i64 (by omega) (by omega)
    have e1 : decide (4096 < ((out ++ addL nx add).length : Int)) = decide (4096 < (out.length : Int) + add.length) := by
      rw [List.length_append, addL_len]; simp
    have e2 : decide (4611686018427387904 < nx + (add.length : Int)) = decide (4611686018427387904 - (add.length : Int) < nx) := by
      rw [Bool.eq_iff_iff]; simp; omega
    rw [e1, e2] at hRR
    rw [Run_loop]
    cases b1 : decide (4096 < (out.length : Int) + add.length) with
    | true =>
      rw [b1, Bool.true_or, cond_true] at hRR
      rw [hRR]
      simp only [f_program_Run_l0_eq, f_program_Run_l0u, hw3, b1, go_sem]
    | false => cases b2 : decide (4611686018427387904 - (add.length : Int) < nx) with
      | true =>
        rw [b1, b2, Bool.or_true, cond_true] at hRR
        rw [hRR]
        simp only [f_program_Run_l0_eq, f_program_Run_l0u, hw3, hw4, b1, b2, go_sem]
      | false =>
        rw [b1, b2, Bool.or_false, cond_false] at hRR
        have hn : nx + (add.length : Int) ≤ 4611686018427387904 := by simp at b2; omega
        simp only [f_program_Run_l0_eq, f_program_Run_l0u, hw3, hw4, b1, b2, go_sem]
        refine range_ind add (by omega) (fun i (s : List Line × Int) => (Run prog 0 (.loop 3 [4, 8, 65, 66, 67] f_program_Run_l1) [(4, .ref 0 0), (8, .ref 2 0), (65, .sl (add.map rowc)), (66, .int .i64 add.length), (67, .int .i64 i)] [.cells [.int .i64 0, .nils], .arr 0 2 (s.1.map Line.cells), .cells [.int .i64 s.2, .osl 1 0 s.1.length 0 s.1.length]]).bind _ = _)
          (fun i rest s => s.1 ++ addL s.2 rest = out ++ addL nx add ∧ (s.1.length : Int) = out.length + i ∧ s.2 = nx + i) ?_ ?_ (out, nx) ⟨rfl, by simp, by simp⟩
        · intro s ⟨h, hl2, hm⟩
          obtain ⟨o2, m⟩ := s
          simp only [] at hm hl2 h
          simp only [addL, List.append_nil] at h
          rw [← h, ← hm] at hRR
          rw [hRR, Run_loop]
          simp only [f_program_Run_l1_eq, f_program_Run_l1u, go_sem]
        · intro i pre rest x s hq _ hi0 hi1 hx hc hw ⟨h, hl2, hm⟩ ih
          obtain ⟨o2, m⟩ := s
          simp only [] at hm hl2 h
          have hb : (o2.length + 1) * 32 ≤ 140737488355328 := by clear hw hx hc ih h hq hck hw3 hw4; omega
          have hw2 : IntKind.wrap .i64 (m + 1) = m + 1 := wrap_i64 (by clear hw hx hc ih h hq hck hw3 hw4; omega) (by clear hw hx hc ih h hq hck hw3 hw4; omega)
          have ih := ih (o2 ++ [⟨m, x⟩], m + 1) ⟨by rw [← h, addL]; simp, by simp; clear hw hx hc h hq hw2 hck hw3 hw4; omega, by simp only []; clear hw hx hc h hq hw2 hck hw3 hw4; omega⟩
          clear h hq
          simp only [go_sem] at ih
          rw [Run_loop]
          simp only [f_program_Run_l1_eq, f_program_Run_l1u, hx, hc, hw, hw2, hb, ih, go_sem]
  · intro i pre rest x out hq _ hi0 hi1 hx hc hw ⟨h, hl⟩ ih
    have hr := hR x (by rw [hq]; simp)
    have hm := pred_Match x.r hr _ hp
    simp only [go_sem] at hm
    have hb : (out.length + 1) * 32 ≤ 140737488355328 := by clear hw hx hc ih h hq hck; omega
    rw [Run_loop]
    cases d : matchP (.mk p1 p2 p3 p4 p5 p6 p7) x.r with
    | true =>
      have ih := ih out ⟨by rw [← h]; simp [d], by omega⟩
      clear h hq
      rw [d] at hm
      simp only [f_program_Run_l0_eq, f_program_Run_l0u, hx, hc, hw, hm, ih, go_sem]
    | false =>
      have ih := ih (out ++ [x]) ⟨by rw [← h]; simp [d], by simp; omega⟩
      clear h hq
      rw [d] at hm
      simp only [go_sem] at ih
      simp only [f_program_Run_l0_eq, f_program_Run_l0u, hx, hc, hw, hm, hb, ih, go_sem]
end
end Go.Den
