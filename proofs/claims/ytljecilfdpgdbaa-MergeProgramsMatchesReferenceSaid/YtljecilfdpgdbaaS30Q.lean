/- Ch. 30: merging by programs, both ways. -/
import Derived.Test.YtljecilfdpgdbaaSProg
import Derived.Test.YtljecilfdpgdbaaS30F
namespace Go.Den
open Go
set_option linter.unusedSimpArgs false
set_option linter.unusedVariables false
set_option maxRecDepth 100000
set_option maxHeartbeats 1000000
theorem IndexFunc_Event (L : List Event) (hL : L.length < 1000000000000000) (f : Nat) (caps : List AV) (p : Event → Bool) (hcn : norms caps = caps) (hcr : norefs caps = true)
    (hp : ∀ x ∈ L, Den prog f (.agg [.int .i64 x.kind, .int .i64 x.l.n, .sl (x.l.r.map Cell.cells)] :: caps) [] = some (.bool (p x), [])) : Den prog 126 [.sl (L.map Event.cells), .fn f caps] [] = some (.int .i64 (idxF p 0 L), []) := by
  rw [Den_ofK [] pr_slices_IndexFunc_api_Event_api_Event rfl]
  simp only [f_slices_IndexFunc_api_Event_api_Event, go_sem]
  refine range_ind L hL (fun i (_ : Unit) => (Run prog 0 (.loop 0 [0, 1, 7, 8] f_slices_IndexFunc_api_Event_api_Event_l0) [(0, .sl (L.map Event.cells)), (1, .fn f caps), (7, .int .i64 L.length), (8, .int .i64 i)] []).bind _ = _)
    (fun i rest _ => idxF p i rest = idxF p 0 L) ?_ ?_ () rfl
  · intro _ h
    rw [← h, Run_loop]
    simp only [f_slices_IndexFunc_api_Event_api_Event_l0_eq, f_slices_IndexFunc_api_Event_api_Event_l0u, idxF, go_sem]
  · intro i pre rest x _ hq _ hi0 hi1 hx hc hw h ih
    have hm := hp x (by rw [hq]; simp)
    rw [idxF] at h
    rw [Run_loop]
    cases d : p x with
    | true =>
      rw [d, cond_true] at h
      rw [← h]
      rw [d] at hm
      simp only [f_slices_IndexFunc_api_Event_api_Event_l0_eq, f_slices_IndexFunc_api_Event_api_Event_l0u, hx, hc, hw, hcn, hcr, hm, List.cons_append, List.nil_append, go_sem]
    | false =>
      rw [d, cond_false] at h
      rw [d] at hm
      have ih := ih () h
      simp only [f_slices_IndexFunc_api_Event_api_Event_l0_eq, f_slices_IndexFunc_api_Event_api_Event_l0u, hx, hc, hw, hcn, hcr, hm, ih, List.cons_append, List.nil_append, go_sem]
theorem ContainsFunc_Event (L : List Event) (hL : L.length < 1000000000000000) (f : Nat) (caps : List AV) (p : Event → Bool) (hcn : norms caps = caps) (hcr : norefs caps = true)
    (hp : ∀ x ∈ L, Den prog f (.agg [.int .i64 x.kind, .int .i64 x.l.n, .sl (x.l.r.map Cell.cells)] :: caps) [] = some (.bool (p x), [])) : Den prog 128 [.sl (L.map Event.cells), .fn f caps] [] = some (.bool (L.any p), []) := by
  have h := IndexFunc_Event L hL f caps p hcn hcr hp
  have h2 := idxF_ge p L 0 (by omega)
  rw [Den_ofK [] pr_slices_ContainsFunc_api_Event_api_Event rfl]
  simp only [f_slices_ContainsFunc_api_Event_api_Event, h, hcn, hcr, h2, go_sem]
/-- What is asked of a program. -/
structure PrOK (p : Pro) : Prop where
  read : POK p.read
  rem : POK p.rem
  add : p.add.length ≤ 4
  row : ∀ r ∈ p.add, r.length ≤ 1000
  gs : p.gs.length < 1000000000
  gw : ∀ g ∈ p.gs, POK g.w
/-- A table that programs may be run on; k: how much its number may still grow. -/
structure TI (k : Int) (t : Table) : Prop where
  len : t.l.length < 1000000000
  rows : rowsOk t.l
  n0 : 0 ≤ t.next
  n1 : t.next + k < 1000000000000
structure FT where
  next : Int
  l : List Line
  pos : Int
  e : Int
def runL (fb : Pro → Bool) (t : Table) (i : Int) : List Pro → FT
  | [] => ⟨t.next, t.l, 0, 0⟩
  | p :: r => bif fb p then ⟨t.next, t.l, i, 280⟩ else bif decide ((runS p t).e = 0) then runL fb ⟨(runS p t).next, (runS p t).l⟩ (i + 1) r else ⟨t.next, t.l, i, (runS p t).e⟩
theorem runS_ok {p : Pro} {t : Table} (hp : PrOK p) {k : Int} (ht : TI (k + 4) t) (he : (runS p t).e = 0) : TI k ⟨(runS p t).next, (runS p t).l⟩ ∧ (runS p t).l.length ≤ 4096 := by
  have ha := hp.add
  have h1 := ht.n1
  have h0 := ht.n0
  unfold runS at *
  cases d : !decide ((checkS t.l 0 p.gs).2 = 0) with
  | true =>
    rw [d, cond_true] at he
    simp only [Bool.not_eq_true', decide_eq_false_iff_not] at d
    exact (d he).elim
  | false =>
    rw [d, cond_false] at he
    simp only [cond_false]
    cases d2 : decide (4096 < (((t.l.filter (fun x => !matchP p.rem x.r)) ++ addL t.next p.add).length : Int)) || decide (4611686018427387904 < t.next + p.add.length) with
    | true => rw [d2, cond_true] at he; simp at he
    | false =>
      simp only [cond_false]
      simp only [Bool.or_eq_false_iff, decide_eq_false_iff_not] at d2
      have hl : ((t.l.filter (fun x => !matchP p.rem x.r)) ++ addL t.next p.add).length ≤ 4096 := by omega
      refine ⟨⟨by simp only []; omega, fun x hx => ?_, by simp only []; omega, by simp only []; omega⟩, hl⟩
      rcases List.mem_append.1 hx with hx | hx
      · exact ht.rows x (List.mem_filter.1 hx).1
      · have key : ∀ (q : List (List Cell)) (n : Int), x ∈ addL n q → x.r ∈ q := by
          intro q
          induction q with
          | nil => intro n h; simp [addL] at h
          | cons r q ih =>
            intro n h
            simp only [addL, List.mem_cons] at h
            rcases h with rfl | h
            · simp
            · simp [ih _ h]
        have := hp.row _ (key _ _ hx); omega
theorem runL_ok {fb : Pro → Bool} : ∀ {l : List Pro} {t : Table} {i : Int} {k : Int}, (∀ p ∈ l, PrOK p) → TI (k + 4 * l.length) t → 0 ≤ k → TI k ⟨(runL fb t i l).next, (runL fb t i l).l⟩ ∧ ((runL fb t i l).l.length ≤ 4096 ∨ (runL fb t i l).l.length ≤ t.l.length)
  | [], t, i, k, _, ht, _ => ⟨⟨ht.len, ht.rows, ht.n0, by have := ht.n1; simpa [runL] using this⟩, .inr (Nat.le_refl _)⟩
  | p :: r, t, i, k, hp, ht, hk => by
    have weak : TI k ⟨t.next, t.l⟩ := ⟨ht.len, ht.rows, ht.n0, by have := ht.n1; simp only [List.length_cons] at this ⊢; omega⟩
    rw [runL]
    cases fb p with
    | true => exact ⟨weak, .inr (Nat.le_refl _)⟩
    | false =>
      rw [cond_false]
      cases d : decide ((runS p t).e = 0) with
      | false => exact ⟨weak, .inr (Nat.le_refl _)⟩
      | true =>
        rw [cond_true]
        have ht2 : TI ((k + 4 * r.length) + 4) t := ⟨ht.len, ht.rows, ht.n0, by have := ht.n1; simp only [List.length_cons] at this; omega⟩
        obtain ⟨q1, q2⟩ := runS_ok (hp p (by simp)) ht2 (of_decide_eq_true d)
        obtain ⟨w1, w2⟩ := runL_ok (fb := fb) (i := i + 1) (fun q hq => hp q (by simp [hq])) q1 hk
        refine ⟨w1, .inl ?_⟩
        simp only [] at w2
        omega
theorem runL_e {fb : Pro → Bool} : ∀ {l : List Pro} {t : Table} {i : Int}, (runL fb t i l).e = 0 → (runL fb t i l).pos = 0
  | [], t, i, _ => rfl
  | p :: r, t, i, h => by
    rw [runL] at h ⊢
    cases hf : fb p with
    | true => rw [hf, cond_true] at h; simp at h
    | false =>
      rw [hf, cond_false] at h
      rw [cond_false]
      cases d : decide ((runS p t).e = 0) with
      | false => rw [d, cond_false] at h; simp only [] at h; simp [h] at d
      | true => rw [d, cond_true] at h; exact runL_e h
def FT.av (r : FT) : AV := .tup [.agg [.int .i64 r.next, .sl (r.l.map Line.cells)], .agg [.int .i64 r.pos, .int .i64 r.e]]
attribute [go_sem] FT.av TR.av
theorem Run_ti {p : Pro} {t : Table} (hp : PrOK p) (ht : TI 4 t) : Den prog 125 [.agg p.cells, .agg [.int .i64 t.next, .sl (t.l.map Line.cells)]] [] = some ((runS p t).av, []) := by
  have h1 := ht.n1
  have h2 := hp.add
  obtain ⟨⟨r1, r2, r3, r4, r5, r6, r7⟩, ⟨p1, p2, p3, p4, p5, p6, p7⟩, add, gs⟩ := p
  have := program_Run r1 r2 r3 r4 r5 r6 r7 p1 p2 p3 p4 p5 p6 p7 add gs t.next t.l ht.len ht.rows hp.rem (by simp only [] at h2; omega) ht.n0 (by omega) hp.gs hp.gw
  simpa [Pro.cells, Prd.cells_mk] using this
theorem RunR_ti {p : Pro} {t : Table} (hp : PrOK p) (ht : TI 4 t) : Den prog 92 [.agg p.cells, .agg [.int .i64 t.next, .sl (t.l.map Line.cells)]] [] = some ((runS p t).av, []) := by
  have h1 := ht.n1
  have h2 := hp.add
  obtain ⟨⟨r1, r2, r3, r4, r5, r6, r7⟩, ⟨p1, p2, p3, p4, p5, p6, p7⟩, add, gs⟩ := p
  have := R27_Run r1 r2 r3 r4 r5 r6 r7 p1 p2 p3 p4 p5 p6 p7 add gs t.next t.l ht.len ht.rows hp.rem (by simp only [] at h2; omega) ht.n0 (by omega) hp.gs hp.gw
  simpa [Pro.cells, Prd.cells_mk] using this
theorem pro_len (p : Pro) : p.cells.length = 16 := by simp [Pro.cells, Prd.cells_len]
theorem pro_take (p : Pro) : p.cells.take 16 = p.cells := List.take_of_length_le (by rw [pro_len]; omega)
theorem pro_scalar (p : Pro) : (p.cells.all AV.scalar) = true := by
  obtain ⟨⟨r1, r2, r3, r4, r5, r6, r7⟩, ⟨p1, p2, p3, p4, p5, p6, p7⟩, add, gs⟩ := p
  simp [Pro.cells, Prd.cells_mk, AV.scalar]
theorem pro_noref (p : Pro) : norefs p.cells = true := by
  obtain ⟨⟨r1, r2, r3, r4, r5, r6, r7⟩, ⟨p1, p2, p3, p4, p5, p6, p7⟩, add, gs⟩ := p
  simp [Pro.cells, Prd.cells_mk, norefs, AV.noref.norefs, AV.noref]
theorem pro_norms (p : Pro) : norms p.cells = p.cells := by
  obtain ⟨⟨r1, r2, r3, r4, r5, r6, r7⟩, ⟨p1, p2, p3, p4, p5, p6, p7⟩, add, gs⟩ := p
  simp [Pro.cells, Prd.cells_mk, norms, AV.norm.norms, AV.norm]
theorem over16 (zs cs : List AV) (h1 : zs.length = 16) (h2 : cs.length = 16) : over zs 0 cs = cs := by
  unfold over
  simp [h2, List.drop_of_length_le (by omega : zs.length ≤ 16)]
end Go.Den
