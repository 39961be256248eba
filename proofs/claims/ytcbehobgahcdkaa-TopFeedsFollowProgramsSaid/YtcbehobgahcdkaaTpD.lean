
/- merge.Programs (picked). -/
import Derived.Test.YtcbehobgahcdkaaTpC
namespace Go.Den
open Go
set_option linter.unusedSimpArgs false
set_option linter.unusedVariables false
set_option maxRecDepth 100000
set_option maxHeartbeats 1000000
theorem IndexFunc_Event (L : List Event) (hL : L.length < 1000000000000000) (f : Nat) (caps : List AV) (p : Event → Bool) (hcn : norms caps = caps) (hcr : norefs caps = true)
    (hp : ∀ x ∈ L, Den prog f (.agg [.int .i64 x.kind, .int .i64 x.l.n, .sl (x.l.r.map Cell.cells)] :: caps) [] = some (.bool (p x), [])) : Den prog 126 [.sl (L.map Event.cells), .fn f caps] [] = some (.int .i64 (idxF p 0 L), []) := by
  rw [Den_ofK [] pr_slices_IndexFunc_api_Event_api_Event rfl]
  simp only [f_slices_IndexFunc_api_Event_api_Event, go_sem]
  refine range_ind L hL (fun i (_ : Unit) => (Run prog 0 (.loop 0 [0, 1, 7, 8] f_slices_IndexFunc_api_Event_api_Event_l0) [(0, .sl (L.map Event.cells)), (1, .fn f caps), (7, .int .i64 L.length), (8, .int .i64 i)] []).bind _ = _)
    (fun i rest _ => idxF p i rest = idxF p 0 L) ?_ ?_ () rfl
  · intro _ h
    rw [← h, Run_loop]
    simp only [f_slices_IndexFunc_api_Event_api_Event_l0_eq, f_slices_IndexFunc_api_Event_api_Event_l0u, idxF, go_sem]
  · intro i pre rest x _ hq _ hi0 hi1 hx hc hw h ih
    have hm := hp x (by rw [hq]; simp)
    rw [idxF] at h
    rw [Run_loop]
    cases d : p x with
    | true =>
      rw [d, cond_true] at h
      rw [← h]
      rw [d] at hm
      simp only [f_slices_IndexFunc_api_Event_api_Event_l0_eq, f_slices_IndexFunc_api_Event_api_Event_l0u, hx, hc, hw, hcn, hcr, hm, List.cons_append, List.nil_append, go_sem]
    | false =>
      rw [d, cond_false] at h
      rw [d] at hm
      have ih := ih () h
      simp only [f_slices_IndexFunc_api_Event_api_Event_l0_eq, f_slices_IndexFunc_api_Event_api_Event_l0u, hx, hc, hw, hcn, hcr, hm, ih, List.cons_append, List.nil_append, go_sem]
theorem ContainsFunc_Event (L : List Event) (hL : L.length < 1000000000000000) (f : Nat) (caps : List AV) (p : Event → Bool) (hcn : norms caps = caps) (hcr : norefs caps = true)
    (hp : ∀ x ∈ L, Den prog f (.agg [.int .i64 x.kind, .int .i64 x.l.n, .sl (x.l.r.map Cell.cells)] :: caps) [] = some (.bool (p x), [])) : Den prog 128 [.sl (L.map Event.cells), .fn f caps] [] = some (.bool (L.any p), []) := by
  have h := IndexFunc_Event L hL f caps p hcn hcr hp
  have h2 := idxF_ge p L 0 (by omega)
  rw [Den_ofK [] pr_slices_ContainsFunc_api_Event_api_Event rfl]
  simp only [f_slices_ContainsFunc_api_Event_api_Event, h, hcn, hcr, h2, go_sem]
/-- What is asked of a program. -/
structure PrOK (p : Pro) : Prop where
  read : POK p.read
  rem : POK p.rem
  add : p.add.length ≤ 4
  row : ∀ r ∈ p.add, r.length ≤ 1000
  gs : p.gs.length < 1000000000
  gw : ∀ g ∈ p.gs, POK g.w
/-- A table that programs may be run on; k: how much its number may still grow. -/
structure TI (k : Int) (t : Table) : Prop where
  len : t.l.length < 1000000000
  rows : rowsOk t.l
  n0 : 0 ≤ t.next
  n1 : t.next + k < 1000000000000
structure FT where
  next : Int
  l : List Line
  pos : Int
  e : Int
def runL (fb : Pro → Bool) (t : Table) (i : Int) : List Pro → FT
  | [] => ⟨t.next, t.l, 0, 0⟩
  | p :: r => bif fb p then ⟨t.next, t.l, i, 280⟩ else bif decide ((runS p t).e = 0) then runL fb ⟨(runS p t).next, (runS p t).l⟩ (i + 1) r else ⟨t.next, t.l, i, (runS p t).e⟩
theorem runS_ok {p : Pro} {t : Table} (hp : PrOK p) {k : Int} (ht : TI (k + 4) t) (he : (runS p t).e = 0) : TI k ⟨(runS p t).next, (runS p t).l⟩ ∧ (runS p t).l.length ≤ 4096 := by
  have ha := hp.add
  have h1 := ht.n1
  have h0 := ht.n0
  unfold runS at *
  cases d : !decide ((checkS t.l 0 p.gs).2 = 0) with
  | true =>
    rw [d, cond_true] at he
    simp only [Bool.not_eq_true', decide_eq_false_iff_not] at d
    exact (d he).elim
  | false =>
    rw [d, cond_false] at he
    simp only [cond_false]
    cases d2 : decide (4096 < (((t.l.filter (fun x => !matchP p.rem x.r)) ++ addL t.next p.add).length : Int)) || decide (4611686018427387904 < t.next + p.add.length) with
    | true => rw [d2, cond_true] at he; simp at he
    | false =>
      simp only [cond_false]
      simp only [Bool.or_eq_false_iff, decide_eq_false_iff_not] at d2
      have hl : ((t.l.filter (fun x => !matchP p.rem x.r)) ++ addL t.next p.add).length ≤ 4096 := by omega
      refine ⟨⟨by simp only []; omega, fun x hx => ?_, by simp only []; omega, by simp only []; omega⟩, hl⟩
      rcases List.mem_append.1 hx with hx | hx
      · exact ht.rows x (List.mem_filter.1 hx).1
      · have key : ∀ (q : List (List Cell)) (n : Int), x ∈ addL n q → x.r ∈ q := by
          intro q
          induction q with
          | nil => intro n h; simp [addL] at h
          | cons r q ih =>
            intro n h
            simp only [addL, List.mem_cons] at h
            rcases h with rfl | h
            · simp
            · simp [ih _ h]
        have := hp.row _ (key _ _ hx); omega
theorem runL_ok {fb : Pro → Bool} : ∀ {l : List Pro} {t : Table} {i : Int} {k : Int}, (∀ p ∈ l, PrOK p) → TI (k + 4 * l.length) t → 0 ≤ k → TI k ⟨(runL fb t i l).next, (runL fb t i l).l⟩ ∧ ((runL fb t i l).l.length ≤ 4096 ∨ (runL fb t i l).l.length ≤ t.l.length)
  | [], t, i, k, _, ht, _ => ⟨⟨ht.len, ht.rows, ht.n0, by have := ht.n1; simpa [runL] using this⟩, .inr (Nat.le_refl _)⟩
  | p :: r, t, i, k, hp, ht, hk => by
    have weak : TI k ⟨t.next, t.l⟩ := ⟨ht.len, ht.rows, ht.n0, by have := ht.n1; simp only [List.length_cons] at this ⊢; omega⟩
    rw [runL]
    cases fb p with
    | true => exact ⟨weak, .inr (Nat.le_refl _)⟩
    | false =>
      rw [cond_false]
      cases d : decide ((runS p t).e = 0) with
      | false => exact ⟨weak, .inr (Nat.le_refl _)⟩
      | true =>
        rw [cond_true]
        have ht2 : TI ((k + 4 * r.length) + 4) t := ⟨ht.len, ht.rows, ht.n0, by have := ht.n1; simp only [List.length_cons] at this; omega⟩
        obtain ⟨q1, q2⟩ := runS_ok (hp p (by simp)) ht2 (of_decide_eq_true d)
        obtain ⟨w1, w2⟩ := runL_ok (fb := fb) (i := i + 1) (fun q hq => hp q (by simp [hq])) q1 hk
        refine ⟨w1, .inl ?_⟩
        simp only [] at w2
        omega
theorem runL_e {fb : Pro → Bool} : ∀ {l : List Pro} {t : Table} {i : Int}, (runL fb t i l).e = 0 → (runL fb t i l).pos = 0
  | [], t, i, _ => rfl
  | p :: r, t, i, h => by
    rw [runL] at h ⊢
    cases hf : fb p with
    | true => rw [hf, cond_true] at h; simp at h
    | false =>
      rw [hf, cond_false] at h
      rw [cond_false]
      cases d : decide ((runS p t).e = 0) with
      | false => rw [d, cond_false] at h; simp only [] at h; simp [h] at d
      | true => rw [d, cond_true] at h; exact runL_e h
def FT.av (r : FT) : AV := .tup [.agg [.int .i64 r.next, .sl (r.l.map Line.cells)], .agg [.int .i64 r.pos, .int .i64 r.e]]
attribute [go_sem] FT.av TR.av
theorem Run_ti {p : Pro} {t : Table} (hp : PrOK p) (ht : TI 4 t) : Den prog 125 [.agg p.cells, .agg [.int .i64 t.next, .sl (t.l.map Line.cells)]] [] = some ((runS p t).av, []) := by
  have h1 := ht.n1
  have h2 := hp.add
  obtain ⟨⟨r1, r2, r3, r4, r5, r6, r7⟩, ⟨p1, p2, p3, p4, p5, p6, p7⟩, add, gs⟩ := p
  have := program_Run r1 r2 r3 r4 r5 r6 r7 p1 p2 p3 p4 p5 p6 p7 add gs t.next t.l ht.len ht.rows hp.rem (by simp only [] at h2; omega) ht.n0 (by omega) hp.gs hp.gw
  simpa [Pro.cells, Prd.cells_mk] using this
theorem pro_len (p : Pro) : p.cells.length = 16 := by simp [Pro.cells, Prd.cells_len]
theorem pro_take (p : Pro) : p.cells.take 16 = p.cells := List.take_of_length_le (by rw [pro_len]; omega)
theorem pro_scalar (p : Pro) : (p.cells.all AV.scalar) = true := by
  obtain ⟨⟨r1, r2, r3, r4, r5, r6, r7⟩, ⟨p1, p2, p3, p4, p5, p6, p7⟩, add, gs⟩ := p
  simp [Pro.cells, Prd.cells_mk, AV.scalar]
theorem pro_noref (p : Pro) : norefs p.cells = true := by
  obtain ⟨⟨r1, r2, r3, r4, r5, r6, r7⟩, ⟨p1, p2, p3, p4, p5, p6, p7⟩, add, gs⟩ := p
  simp [Pro.cells, Prd.cells_mk, norefs, AV.noref.norefs, AV.noref]
theorem pro_norms (p : Pro) : norms p.cells = p.cells := by
  obtain ⟨⟨r1, r2, r3, r4, r5, r6, r7⟩, ⟨p1, p2, p3, p4, p5, p6, p7⟩, add, gs⟩ := p
  simp [Pro.cells, Prd.cells_mk, norms, AV.norm.norms, AV.norm]
theorem over16 (zs cs : List AV) (h1 : zs.length = 16) (h2 : cs.length = 16) : over zs 0 cs = cs := by
  unfold over
  simp [h2, List.drop_of_length_le (by omega : zs.length ≤ 16)]
theorem ti_pre {l pre rest : List Pro} {x : Pro} {t : Table} (hp : ∀ p ∈ l, PrOK p) (hq : l = pre ++ x :: rest) (ht : TI (4 * ((x :: rest).length : Int)) t) : PrOK x ∧ TI 4 t ∧ ((runS x t).e = 0 → TI (4 * (rest.length : Int)) ⟨(runS x t).next, (runS x t).l⟩) := by
  have hx := hp x (by rw [hq]; simp)
  have h1 := ht.n1
  simp only [List.length_cons] at h1
  refine ⟨hx, ⟨ht.len, ht.rows, ht.n0, by omega⟩, fun he => (runS_ok hx (k := 4 * (rest.length : Int)) ⟨ht.len, ht.rows, ht.n0, by omega⟩ he).1⟩
theorem Programs_1 (x : List AV) (hx : x.length = 16) (hn : norefs x = true) (hs : x.all AV.scalar = true) : Den prog 130 [.agg x] [] = some (.bool false, []) := by
  rw [Den_ofK [] pr_merge_Programs_1 rfl]
  simp only [f_merge_Programs_1, hx, hn, hs, go_sem]
/-- Executing programs that nothing forbids. -/
theorem merge_run0 (t : Table) (l : List Pro) (hl : l.length < 1000000000) (hp : ∀ p ∈ l, PrOK p) (ht : TI (4 * (l.length : Int)) t) :
    Den prog 129 [.agg [.int .i64 t.next, .sl (t.l.map Line.cells)], .sl (l.map Pro.cells), .fn 130 []] [] = some ((runL (fun _ => false) t 0 l).av, []) := by
  rw [Den_ofK [] pr_merge_run rfl]
  obtain ⟨R, hR⟩ : ∃ R, R = runL (fun _ => false) t 0 l := ⟨_, rfl⟩
  rw [← hR]
  simp only [f_merge_run, go_sem]
  refine range_ind l (by omega) (fun i (s : Table) => (Run prog 0 (.loop 3 [2, 3, 6, 7, 12, 13, 14] f_merge_run_l0) [(2, .fn 130 []), (3, .ref 0 0), (6, .ref 1 0), (7, .ref 2 0), (12, .sl (l.map Pro.cells)), (13, .int .i64 l.length), (14, .int .i64 i)]
      [.cells [.int .i64 s.next, .sl (s.l.map Line.cells)], .cells [.int .i64 0, .nils], .cells [.int .i64 0, .int .i64 0]]).bind _ = _)
    (fun i rest s => R = runL (fun _ => false) s i rest ∧ TI (4 * (rest.length : Int)) s) ?_ ?_ t ⟨hR, ht⟩
  · intro s ⟨h, _⟩
    rw [runL] at h
    rw [h, Run_loop]
    simp only [f_merge_run_l0_eq, f_merge_run_l0u, go_sem]
  · intro i pre rest x s hq _ hi0 hi1 hx hc hw ⟨h, hti⟩ ih
    obtain ⟨hxo, ht4, hnx⟩ := ti_pre hp hq hti
    have hr := Run_ti hxo ht4
    have hf := Programs_1 x.cells (pro_len x) (pro_noref x) (pro_scalar x)
    rw [runL, cond_false] at h
    generalize runS x s = q at *
    obtain ⟨⟨r1, r2, r3, r4, r5, r6, r7⟩, ⟨p1, p2, p3, p4, p5, p6, p7⟩, add, gs⟩ := x
    simp only [go_sem] at hr hf
    clear hq hxo ht4 hti hp ht
    rw [Run_loop]
    cases d : decide (q.e = 0) with
    | false =>
      rw [d, cond_false] at h
      rw [h]
      simp only [f_merge_run_l0_eq, f_merge_run_l0u, hx, hc, hw, hf, hr, d, go_sem]
    | true =>
      rw [d, cond_true] at h
      have ih := ih ⟨q.next, q.l⟩ ⟨h, hnx (of_decide_eq_true d)⟩
      clear h hR
      simp only [f_merge_run_l0_eq, f_merge_run_l0u, hx, hc, hw, hf, hr, d, ih, go_sem]
def evB (evs : List Event) (p : Pro) : Bool := evs.any fun e => matchP p.read e.l.r
def okEv (evs : List Event) : Prop := ∀ e ∈ evs, e.l.r.length < 1000000000000
theorem Programs_2_1 (r1 r2 r3 r4 : Int) (r5 : List Val) (r6 : ByteArray) (r7 : List Prd) (rest : List AV) (e : Event) (hr : POK (.mk r1 r2 r3 r4 r5 r6 r7)) (he : e.l.r.length < 1000000000000) :
    Den prog 127 [.agg [.int .i64 e.kind, .int .i64 e.l.n, .sl (e.l.r.map Cell.cells)], .rptr (.int .i64 r1 :: .int .i64 r2 :: .int .i64 r3 :: .int .i64 r4 :: .sl (r5.map Val.cells) :: .str r6 :: .sl (r7.map Prd.cells) :: rest)] [] = some (.bool (matchP (.mk r1 r2 r3 r4 r5 r6 r7) e.l.r), []) := by
  have hm := pred_Match e.l.r he _ hr
  rw [Prd.cells_mk] at hm
  have hlen : ∀ n : Nat, 7 ≤ n + 1 + 1 + 1 + 1 + 1 + 1 + 1 := fun n => by omega
  rw [Den_ofK [] pr_merge_Programs_2_1 rfl]
  simp only [f_merge_Programs_2_1, hm, hlen, go_sem]
theorem Programs_2 (evs : List Event) (he : evs.length < 1000000000000000) (ho : okEv evs) (x : Pro) (hx : PrOK x) (o0 o1 o2 : Ob) (τ : St) :
    Den prog 131 [.agg x.cells, .ref 3 0] (o0 :: o1 :: o2 :: .cells [.sl (evs.map Event.cells)] :: τ) = some (.bool (evB evs x), o0 :: o1 :: o2 :: .cells [.sl (evs.map Event.cells)] :: τ) := by
  rw [Den_ofK _ pr_merge_Programs_2 rfl]
  have hrd := hx.read
  unfold evB
  obtain ⟨⟨r1, r2, r3, r4, r5, r6, r7⟩, ⟨p1, p2, p3, p4, p5, p6, p7⟩, add, gs⟩ := x
  have hc := ContainsFunc_Event evs he 127 [.rptr [.int .i64 r1, .int .i64 r2, .int .i64 r3, .int .i64 r4, .sl (r5.map Val.cells), .str r6, .sl (r7.map Prd.cells), .int .i64 p1, .int .i64 p2, .int .i64 p3, .int .i64 p4, .sl (p5.map Val.cells), .str p6, .sl (p7.map Prd.cells), .sl (add.map rowc), .sl (gs.map Grd.cells)]] (fun e => matchP (.mk r1 r2 r3 r4 r5 r6 r7) e.l.r) rfl rfl
    (fun e hm => Programs_2_1 r1 r2 r3 r4 r5 r6 r7 _ e hrd (ho e hm))
  simp only [Pro.cells, Prd.cells_mk, List.cons_append, List.nil_append]
  simp only [f_merge_Programs_2, hc, List.take_length, go_sem]
/-- Executing programs that have read no event. -/
theorem merge_run1 (evs : List Event) (he : evs.length < 1000000000000000) (ho : okEv evs) (t : Table) (l : List Pro) (hl : l.length < 1000000000) (hp : ∀ p ∈ l, PrOK p) (ht : TI (4 * (l.length : Int)) t) (o0 o1 o2 : Ob) :
    Den prog 129 [.agg [.int .i64 t.next, .sl (t.l.map Line.cells)], .sl (l.map Pro.cells), .fn 131 [.ref 3 0]] [o0, o1, o2, .cells [.sl (evs.map Event.cells)]] = some ((runL (evB evs) t 0 l).av, [o0, o1, o2, .cells [.sl (evs.map Event.cells)]]) := by
  rw [Den_ofK _ pr_merge_run rfl]
  obtain ⟨R, hR⟩ : ∃ R, R = runL (evB evs) t 0 l := ⟨_, rfl⟩
  rw [← hR]
  simp only [f_merge_run, go_sem]
  refine range_ind l (by omega) (fun i (s : Table) => (Run prog 4 (.loop 3 [2, 3, 6, 7, 12, 13, 14] f_merge_run_l0) [(2, .fn 131 [.ref 3 0]), (3, .ref 4 0), (6, .ref 5 0), (7, .ref 6 0), (12, .sl (l.map Pro.cells)), (13, .int .i64 l.length), (14, .int .i64 i)]
      [o0, o1, o2, .cells [.sl (evs.map Event.cells)], .cells [.int .i64 s.next, .sl (s.l.map Line.cells)], .cells [.int .i64 0, .nils], .cells [.int .i64 0, .int .i64 0]]).bind _ = _)
    (fun i rest s => R = runL (evB evs) s i rest ∧ TI (4 * (rest.length : Int)) s) ?_ ?_ t ⟨hR, ht⟩
  · intro s ⟨h, _⟩
    rw [runL] at h
    rw [h, Run_loop]
    simp only [f_merge_run_l0_eq, f_merge_run_l0u, go_sem]
  · intro i pre rest x s hq _ hi0 hi1 hx hc hw ⟨h, hti⟩ ih
    obtain ⟨hxo, ht4, hnx⟩ := ti_pre hp hq hti
    have hr := Run_ti hxo ht4
    have hf := fun τ => Programs_2 evs he ho x hxo o0 o1 o2 τ
    rw [runL] at h
    generalize runS x s = q at *
    generalize evB evs x = fb at *
    obtain ⟨⟨r1, r2, r3, r4, r5, r6, r7⟩, ⟨p1, p2, p3, p4, p5, p6, p7⟩, add, gs⟩ := x
    simp only [go_sem] at hr hf
    clear hq hxo ht4 hti hp ht
    rw [Run_loop]
    cases fb with
    | true =>
      rw [cond_true] at h
      rw [h]
      simp only [f_merge_run_l0_eq, f_merge_run_l0u, hx, hc, hw, hf, go_sem]
    | false =>
      rw [cond_false] at h
      cases d : decide (q.e = 0) with
      | false =>
        rw [d, cond_false] at h
        rw [h]
        simp only [f_merge_run_l0_eq, f_merge_run_l0u, hx, hc, hw, hf, hr, d, go_sem]
      | true =>
        rw [d, cond_true] at h
        have ih := ih ⟨q.next, q.l⟩ ⟨h, hnx (of_decide_eq_true d)⟩
        clear h hR
        simp only [f_merge_run_l0_eq, f_merge_run_l0u, hx, hc, hw, hf, hr, d, ih, go_sem]
structure PR where
  next : Int
  l : List Line
  n : Int
  e : Int
def PR.av (r : PR) : AV := .tup [.agg [.int .i64 r.next, .sl (r.l.map Line.cells)], .int .i64 r.n, .int .i64 r.e]
attribute [go_sem] PR.av
def progsT (base : Table) (a : List Pro) : Table := ⟨(runL (fun _ => false) base 0 a).next, (runL (fun _ => false) base 0 a).l⟩
def progsS (fb : Table → Pro → Bool) (base : Table) (a b : List Pro) : PR :=
  bif decide ((runL (fun _ => false) base 0 a).e = 0) then
    (bif decide ((runL (fb (progsT base a)) (progsT base a) 0 b).e = 0) then ⟨(runL (fb (progsT base a)) (progsT base a) 0 b).next, (runL (fb (progsT base a)) (progsT base a) 0 b).l, a.length + b.length, 0⟩
      else ⟨0, [], a.length + (runL (fb (progsT base a)) (progsT base a) 0 b).pos, (runL (fb (progsT base a)) (progsT base a) 0 b).e⟩)
  else ⟨0, [], (runL (fun _ => false) base 0 a).pos, (runL (fun _ => false) base 0 a).e⟩
def feedB (base t : Table) (p : Pro) : Bool := evB (feed base t) p
theorem runL_pos {fb : Pro → Bool} : ∀ {l : List Pro} {t : Table} {i : Int}, 0 ≤ i → 0 ≤ (runL fb t i l).pos ∧ (runL fb t i l).pos ≤ i + l.length
  | [], t, i, h => by simp [runL]; omega
  | p :: r, t, i, h => by
    rw [runL]
    cases fb p with
    | true => simp only [cond_true, List.length_cons]; omega
    | false =>
      rw [cond_false]
      cases decide ((runS p t).e = 0) with
      | false => simp only [cond_false, List.length_cons]; omega
      | true =>
        rw [cond_true]
        have := runL_pos (fb := fb) (l := r) (t := ⟨(runS p t).next, (runS p t).l⟩) (i := i + 1) (by omega)
        simp only [List.length_cons]; omega
theorem merge_Programs (base : Table) (a b : List Pro) (hb : base.l.length < 100000) (rb : rowsOk base.l) (h0 : 0 ≤ base.next) (h1 : base.next < 1000000) (la : a.length ≤ 1000) (lb : b.length ≤ 1000) (pa : ∀ p ∈ a, PrOK p) (pb : ∀ p ∈ b, PrOK p)
    (hfe : (feed base (progsT base a)).length < 1000000000000000) (hfo : okEv (feed base (progsT base a))) :
    Den prog 133 [.agg [.int .i64 base.next, .sl (base.l.map Line.cells)], .sl (a.map Pro.cells), .sl (b.map Pro.cells)] [] = some ((progsS (feedB base) base a b).av, []) := by
  have t0 : TI (4 * (b.length : Int) + 4 * (a.length : Int)) base := ⟨by omega, rb, h0, by omega⟩
  have r0 := merge_run0 base a (by omega) pa ⟨by omega, rb, h0, by omega⟩
  obtain ⟨t1, t2⟩ := runL_ok (fb := fun _ => false) (i := 0) pa t0 (by omega)
  change TI (4 * (b.length : Int)) (progsT base a) at t1
  change (progsT base a).l.length ≤ 4096 ∨ (progsT base a).l.length ≤ base.l.length at t2
  have r1 := merge_run1 (feed base (progsT base a)) hfe hfo (progsT base a) b (by omega) pb t1
  have rT := t1.rows
  have hfd := lineage_Feed base (progsT base a) (by omega) (by omega) (fun x hx => by have := rb x hx; omega) (fun x hx => by have := rT x hx; omega)
  obtain ⟨R, hR⟩ : ∃ R, R = progsS (feedB base) base a b := ⟨_, rfl⟩
  rw [← hR]
  unfold progsS at hR
  have hfB : feedB base (progsT base a) = evB (feed base (progsT base a)) := rfl
  rw [hfB] at hR
  have hTn : (progsT base a).next = (runL (fun _ => false) base 0 a).next := rfl
  have hTl : (progsT base a).l = (runL (fun _ => false) base 0 a).l := rfl
  have hE := runL_e (fb := fun _ => false) (l := a) (t := base) (i := 0)
  have hE2 := runL_e (fb := evB (feed base (progsT base a))) (l := b) (t := progsT base a) (i := 0)
  have hP2 := runL_pos (fb := evB (feed base (progsT base a))) (l := b) (t := progsT base a) (i := 0) (by omega)
  generalize runL (evB (feed base (progsT base a))) (progsT base a) 0 b = G at *
  generalize feed base (progsT base a) = evs at *
  generalize runL (fun _ => false) base 0 a = F at *
  rw [Den_ofK [] pr_merge_Programs rfl]
  have z0 : decide ((0 : Int) = 0) = true := rfl
  have w1 : IntKind.wrap .i64 ((a.length : Int) + G.pos) = a.length + G.pos := wrap_i64 (by omega) (by omega)
  have w2 : IntKind.wrap .i64 ((a.length : Int) + b.length) = a.length + b.length := wrap_i64 (by omega) (by omega)
  clear hfo hfe pa pb t0 t1 t2 rb rT hfB hP2
  rw [hTn, hTl] at hfd r1
  cases d : decide (F.e = 0) with
  | false =>
    rw [d, cond_false] at hR
    rw [hR]
    cases dp : decide (F.pos = 0) with
    | false => simp only [f_merge_Programs, r0, d, dp, go_sem]
    | true => simp only [f_merge_Programs, r0, d, dp, go_sem]
  | true =>
    rw [d, cond_true] at hR
    have e0 : F.e = 0 := of_decide_eq_true d
    have p0 := hE e0
    simp only [FT.av, e0, p0] at r0
    cases d2 : decide (G.e = 0) with
    | false =>
      rw [d2, cond_false] at hR
      rw [hR]
      simp only [go_sem] at r1
      cases dp : decide (G.pos = 0) with
      | false => simp only [f_merge_Programs, r0, hfd, r1, z0, d2, dp, w1, go_sem]
      | true => simp only [f_merge_Programs, r0, hfd, r1, z0, d2, dp, w1, go_sem]
    | true =>
      rw [d2, cond_true] at hR
      rw [hR]
      have e1 : G.e = 0 := of_decide_eq_true d2
      have p1 := hE2 e1
      simp only [FT.av, e1, p1] at r1
      simp only [f_merge_Programs, r0, hfd, r1, z0, w2, go_sem]
end Go.Den
