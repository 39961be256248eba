/- Touched, SameEvents, Rebase. -/
import Derived.Test.YtcbehobgahcdkaaTpE
namespace Go.Den
open Go
set_option linter.unusedSimpArgs false
set_option linter.unusedVariables false
set_option maxRecDepth 100000
set_option maxHeartbeats 1000000
theorem R27_SameEvents (A B : List Event) (hL : A.length < 1000000000000000) (hA : okE A) : Den prog 169 [.sl (A.map Event.cells), .sl (B.map Event.cells)] [] = some (.bool (decide (A = B)), []) := by
  rw [Den_ofK [] pr_R27_SameEvents rfl]
  by_cases hl : A.length = B.length
  · have hd : decide ((A.length : Int) = B.length) = true := by rw [decide_eq_true_eq]; omega
    simp only [f_R27_SameEvents, hd, go_sem]
    refine zip_ind A B hl hL (fun i => (Run prog 0 (.loop 0 [0, 1, 5] f_R27_SameEvents_l0) [(0, .sl (A.map Event.cells)), (1, .sl (B.map Event.cells)), (5, .int .i64 i)] []).bind _ = _) ?_ ?_
    · intro h
      have hab : decide (A = B) = true := by simp [h]
      rw [Run_loop]
      simp only [f_R27_SameEvents_l0_eq, f_R27_SameEvents_l0u, hab, go_sem]
    · intro i x y hx hy hc hw hxA hyB h1 h0
      have hxr : x.l.r.length < 1000000000000000 := by have := hA x hxA; omega
      rw [Run_loop]
      by_cases c2 : x.l.r = y.l.r
      · have d2 : decide (x.l.r = y.l.r) = true := by simpa using c2
        by_cases c3 : x.kind = y.kind
        · have d3 : decide (x.kind = y.kind) = true := by simpa using c3
          by_cases c1 : x.l.n = y.l.n
          · have d1 : decide (x.l.n = y.l.n) = true := by simpa using c1
            have h1 := h1 (by obtain ⟨k, n, r⟩ := x; obtain ⟨k', n', r'⟩ := y; simp_all)
            simp only [f_R27_SameEvents_l0_eq, f_R27_SameEvents_l0u, hx, hy, hc, hw, d1, d2, d3, hxr, h1, go_sem]
          · have d1 : decide (x.l.n = y.l.n) = false := by simpa using c1
            have hab : decide (A = B) = false := by simpa using h0 (by intro e; exact c1 (by rw [e]))
            simp only [f_R27_SameEvents_l0_eq, f_R27_SameEvents_l0u, hx, hy, hc, hw, d1, d2, d3, hxr, hab, go_sem]
        · have d3 : decide (x.kind = y.kind) = false := by simpa using c3
          have hab : decide (A = B) = false := by simpa using h0 (by intro e; exact c3 (by rw [e]))
          simp only [f_R27_SameEvents_l0_eq, f_R27_SameEvents_l0u, hx, hy, hc, hw, d2, d3, hxr, hab, go_sem]
      · have d2 : decide (x.l.r = y.l.r) = false := by simpa using c2
        have hab : decide (A = B) = false := by simpa using h0 (by intro e; exact c2 (by rw [e]))
        simp only [f_R27_SameEvents_l0_eq, f_R27_SameEvents_l0u, hx, hy, hc, hw, d2, hxr, hab, go_sem]
  · have hd : decide ((A.length : Int) = B.length) = false := by simp; omega
    have hab : decide (A = B) = false := by simp only [decide_eq_false_iff_not]; intro h; exact hl (by rw [h])
    simp only [f_R27_SameEvents, hd, hab, go_sem]
section
variable (r1 r2 r3 r4 : Int) (r5 : List Val) (r6 : ByteArray) (r7 : List Prd) (p1 p2 p3 p4 : Int) (p5 : List Val) (p6 : ByteArray) (p7 : List Prd) (add : List (List Cell)) (gs : List Grd) (nx : Int) (L : List Line)
theorem program_Touched (hL : L.length < 1000000000) (hR : rowsOk L) (hp : POK (.mk p1 p2 p3 p4 p5 p6 p7)) (ha : add.length < 1000000000) (h0 : 0 ≤ nx) (h1 : nx < 1000000000000) :
    Den prog 168 [.agg ([AV.int IntKind.i64 r1, AV.int IntKind.i64 r2, AV.int IntKind.i64 r3, AV.int IntKind.i64 r4, AV.sl (r5.map Val.cells), AV.str r6, AV.sl (r7.map Prd.cells), AV.int IntKind.i64 p1, AV.int IntKind.i64 p2, AV.int IntKind.i64 p3, AV.int IntKind.i64 p4, AV.sl (p5.map Val.cells), AV.str p6, AV.sl (p7.map Prd.cells), AV.sl (add.map rowc), AV.sl (gs.map Grd.cells)] : List AV), .agg ([AV.int IntKind.i64 nx, AV.sl (L.map Line.cells)] : List AV)] [] = some (.sl ((touchS ⟨.mk r1 r2 r3 r4 r5 r6 r7, .mk p1 p2 p3 p4 p5 p6 p7, add, gs⟩ ⟨nx, L⟩).map Event.cells), []) := by
  rw [Den_ofK [] pr_program_Touched rfl]
  simp only [touchS]
  simp only [f_program_Touched, go_sem]
  refine range_ind L (by omega) (fun i (out : List Event) => (Run prog 0 (.loop 1 [2, 3, 5, 11, 12, 13] f_program_Touched_l0) [(2, .rptr ([AV.int IntKind.i64 r1, AV.int IntKind.i64 r2, AV.int IntKind.i64 r3, AV.int IntKind.i64 r4, AV.sl (r5.map Val.cells), AV.str r6, AV.sl (r7.map Prd.cells), AV.int IntKind.i64 p1, AV.int IntKind.i64 p2, AV.int IntKind.i64 p3, AV.int IntKind.i64 p4, AV.sl (p5.map Val.cells), AV.str p6, AV.sl (p7.map Prd.cells), AV.sl (add.map rowc), AV.sl (gs.map Grd.cells)] : List AV)), (3, .rptr ([AV.int IntKind.i64 nx, AV.sl (L.map Line.cells)] : List AV)), (5, .osl 0 0 out.length 0 out.length), (11, .sl (L.map Line.cells)), (12, .int .i64 L.length), (13, .int .i64 i)] [.arr 0 3 (out.map Event.cells)]).bind _ = _)
    (fun i rest out => out ++ (rest.filter (fun x => matchP (.mk p1 p2 p3 p4 p5 p6 p7) x.r)).map goneE = (L.filter (fun x => matchP (.mk p1 p2 p3 p4 p5 p6 p7) x.r)).map goneE ∧ (out.length : Int) ≤ i) ?_ ?_ [] ⟨by simp, by simp⟩
  · intro out ⟨h, hl⟩
    have h : (L.filter (fun x => matchP (.mk p1 p2 p3 p4 p5 p6 p7) x.r)).map goneE = out := by rw [← h]; simp
    simp only [h]
    clear h
    rw [Run_loop]
    simp only [f_program_Touched_l0_eq, f_program_Touched_l0u, go_sem]
    refine range_ind add (by omega) (fun i (o2 : List Event) => (Run prog 0 (.loop 1 [3, 5, 29, 30, 31] f_program_Touched_l1) [(3, .rptr ([AV.int IntKind.i64 nx, AV.sl (L.map Line.cells)] : List AV)), (5, .osl 0 0 o2.length 0 o2.length), (29, .sl (add.map rowc)), (30, .int .i64 add.length), (31, .int .i64 i)] [.arr 0 3 (o2.map Event.cells)]).bind _ = _)
      (fun i rest o2 => o2 ++ addE (nx + i) rest = out ++ addE nx add ∧ (o2.length : Int) ≤ out.length + i) ?_ ?_ out ⟨by simp, by simp⟩
    · intro o2 ⟨h, _⟩
      simp only [addE, List.append_nil] at h
      simp only [← List.map_append, ← h]
      rw [Run_loop]
      simp only [f_program_Touched_l1_eq, f_program_Touched_l1u, go_sem]
    · intro i pre rest x o2 hq _ hi0 hi1 hx hc hw ⟨h, hl2⟩ ih
      have hb : (o2.length + 1) * 40 ≤ 140737488355328 := by clear hw hx hc ih h hq; omega
      have hw2 : IntKind.wrap .i64 (nx + i) = nx + i := wrap_i64 (by clear hw hx hc ih h hq; omega) (by clear hw hx hc ih h hq; omega)
      have ih := ih (o2 ++ [⟨1, ⟨nx + i, x⟩⟩]) ⟨by rw [← h, addE]; simp [Int.add_assoc], by simp; clear hw hx hc h hq hw2; omega⟩
      clear h hq
      simp only [go_sem] at ih
      rw [Run_loop]
      simp only [f_program_Touched_l1_eq, f_program_Touched_l1u, hx, hc, hw, hw2, hb, ih, go_sem]
  · intro i pre rest x out hq _ hi0 hi1 hx hc hw ⟨h, hl⟩ ih
    have hr := hR x (by rw [hq]; simp)
    have hm := pred_Match x.r hr _ hp
    simp only [go_sem] at hm
    have hb : (out.length + 1) * 40 ≤ 140737488355328 := by clear hw hx hc ih h hq; omega
    rw [Run_loop]
    cases d : matchP (.mk p1 p2 p3 p4 p5 p6 p7) x.r with
    | true =>
      have ih := ih (out ++ [goneE x]) ⟨by rw [← h]; simp [d], by simp; omega⟩
      clear h hq
      rw [d] at hm
      simp only [goneE, go_sem] at ih
      simp only [f_program_Touched_l0_eq, f_program_Touched_l0u, hx, hc, hw, hm, hb, ih, go_sem]
    | false =>
      have ih := ih out ⟨by rw [← h]; simp [d], by omega⟩
      clear h hq
      rw [d] at hm
      simp only [f_program_Touched_l0_eq, f_program_Touched_l0u, hx, hc, hw, hm, ih, go_sem]
end
def evW (evs : List Event) (w : Prd) : Bool := evs.any fun e => matchP w e.l.r
theorem meets_1_1 (w : Prd) (e : Event) (hw : POK w) (he : e.l.r.length < 1000000000000) :
    Den prog 161 [.agg [.int .i64 e.kind, .int .i64 e.l.n, .sl (e.l.r.map Cell.cells)], .rptr w.cells] [] = some (.bool (matchP w e.l.r), []) := by
  obtain ⟨r1, r2, r3, r4, r5, r6, r7⟩ := w
  have hm := pred_Match e.l.r he _ hw
  rw [Prd.cells_mk] at hm
  rw [Den_ofK [] pr_rebase_meets_1_1 rfl]
  simp only [f_rebase_meets_1_1, hm, Prd.cells_mk, go_sem]
theorem meets_1 (evs : List Event) (he : evs.length < 1000000000000000) (ho : okEv evs) (w : Prd) (hw : POK w) :
    Den prog 162 [.agg w.cells, .rptr [.sl (evs.map Event.cells)]] [] = some (.bool (evW evs w), []) := by
  rw [Den_ofK _ pr_rebase_meets_1 rfl]
  unfold evW
  have hc := ContainsFunc_Event evs he 161 [.rptr w.cells] (fun e => matchP w e.l.r) (by obtain ⟨r1, r2, r3, r4, r5, r6, r7⟩ := w; rfl) (by obtain ⟨r1, r2, r3, r4, r5, r6, r7⟩ := w; rfl)
    (fun e hm => meets_1_1 w e hw (ho e hm))
  obtain ⟨r1, r2, r3, r4, r5, r6, r7⟩ := w
  simp only [Prd.cells_mk] at hc ⊢
  simp only [f_rebase_meets_1, hc, List.take_length, go_sem]
theorem rebase_meets (evs : List Event) : Den prog 163 [.sl (evs.map Event.cells)] [] = some (.fn 162 [.rptr [.sl (evs.map Event.cells)]], []) := by
  rw [Den_ofK _ pr_rebase_meets rfl]
  simp only [f_rebase_meets, go_sem]
def verdictS (evs : List Event) (p : Pro) : Int := bif evW evs p.read then 3 else bif evW evs p.rem then 2 else 1
theorem rebase_verdict (evs : List Event) (he : evs.length < 1000000000000000) (ho : okEv evs) (x : Pro) (hx : PrOK x) :
    Den prog 164 [.agg x.cells, .sl (evs.map Event.cells)] [] = some (.int .i64 (verdictS evs x), []) := by
  rw [Den_ofK _ pr_rebase_verdict rfl]
  have h1 := meets_1 evs he ho x.read hx.read
  have h2 := meets_1 evs he ho x.rem hx.rem
  have hm := rebase_meets evs
  unfold verdictS
  obtain ⟨⟨r1, r2, r3, r4, r5, r6, r7⟩, ⟨p1, p2, p3, p4, p5, p6, p7⟩, add, gs⟩ := x
  simp only [Prd.cells_mk] at h1 h2
  simp only [Pro.cells, Prd.cells_mk, List.cons_append, List.nil_append]
  cases d1 : evW evs (.mk r1 r2 r3 r4 r5 r6 r7) with
  | true =>
    rw [d1] at h1
    simp only [f_rebase_verdict, h1, hm, cond_true, cond_false, go_sem]
  | false => cases d2 : evW evs (.mk p1 p2 p3 p4 p5 p6 p7) with
    | true =>
      rw [d1] at h1; rw [d2] at h2
      simp only [f_rebase_verdict, h1, h2, hm, cond_true, cond_false, go_sem]
    | false =>
      rw [d1] at h1; rw [d2] at h2
      simp only [f_rebase_verdict, h1, h2, hm, cond_true, cond_false, go_sem]
theorem verdict_3 (evs : List Event) (x : Pro) : decide (verdictS evs x = 3) = evB evs x := by
  unfold verdictS evB evW
  cases (evs.any fun e => matchP x.read e.l.r) with
  | true => rfl
  | false => simp only [cond_false]; cases (evs.any fun e => matchP x.rem e.l.r) <;> rfl
/-- Rebasing: refused, or as running. -/
def rebS (evs : List Event) (x : Pro) (t : Table) : AV := bif evB evs x then .tup [.int .i64 3, .agg [.int .i64 0, .sl []], .int .i64 280]
  else bif !decide ((runS x t).e = 0) then .tup [.int .i64 3, .agg [.int .i64 0, .sl []], .int .i64 (runS x t).e]
  else .tup [.int .i64 (verdictS evs x), .agg [.int .i64 (runS x t).next, .sl ((runS x t).l.map Line.cells)], .int .i64 0]
theorem rebase_Rebase (evs : List Event) (he : evs.length < 1000000000000000) (ho : okEv evs) (x : Pro) (hx : PrOK x) (t : Table) (ht : TI 4 t) :
    Den prog 165 [.agg x.cells, .sl (evs.map Event.cells), .agg [.int .i64 t.next, .sl (t.l.map Line.cells)]] [] = some (rebS evs x t, []) := by
  rw [Den_ofK _ pr_rebase_Rebase rfl]
  have hv := rebase_verdict evs he ho x hx
  have hr := Run_ti hx ht
  have h3 := verdict_3 evs x
  unfold rebS
  generalize verdictS evs x = v at *
  generalize runS x t = r at *
  obtain ⟨rn, rl, re⟩ := r
  obtain ⟨⟨r1, r2, r3, r4, r5, r6, r7⟩, ⟨p1, p2, p3, p4, p5, p6, p7⟩, add, gs⟩ := x
  simp only [Pro.cells, Prd.cells_mk, List.cons_append, List.nil_append, TR.av] at hv hr ⊢
  cases d1 : evB evs ⟨.mk r1 r2 r3 r4 r5 r6 r7, .mk p1 p2 p3 p4 p5 p6 p7, add, gs⟩ with
  | true =>
    rw [d1] at h3
    have hv3 : v = 3 := by simpa using h3
    subst hv3
    simp only [f_rebase_Rebase, cond_true, cond_false, Bool.not_true, Bool.not_false, hv, h3, go_sem]
  | false =>
    rw [d1] at h3
    cases d2 : decide (re = 0) with
    | false => simp only [f_rebase_Rebase, cond_true, cond_false, Bool.not_true, Bool.not_false, hv, hr, h3, d2, go_sem]
    | true =>
      have : re = 0 := by simpa using d2
      subst this
      simp only [f_rebase_Rebase, cond_true, cond_false, Bool.not_true, Bool.not_false, hv, hr, h3, d2, go_sem]
end Go.Den
