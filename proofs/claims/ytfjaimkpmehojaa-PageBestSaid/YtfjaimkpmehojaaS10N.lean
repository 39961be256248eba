/- Ch. 10: PageUnique. -/
import Derived.Test.YtfjaimkpmehojaaS10M
import Derived.Test.YtfjaimkpmehojaaSh10
namespace Go.Den
open Go Go.Proofs
set_option linter.unusedSimpArgs false
set_option linter.unusedVariables false
set_option maxRecDepth 100000
set_option maxHeartbeats 1000000
theorem R10_Same (p q : Pg) (hp : p.b.length < 10000000000) (hq : q.b.length < 10000000000) : Den prog 483 [.agg p.cells, .agg q.cells] [] = some (.bool (samP p q), []) := by
  rw [Den_ofK [] pr_R10_Same rfl]
  have h := R01_Same p.b q.b hp hq
  unfold samP Pg.cells
  cases d1 : decide (p.kind = q.kind) <;> cases d2 : decide (p.rows = q.rows) <;> cases d3 : decide (p.b = q.b) <;> rw [d3] at h <;>
  simp only [f_R10_Same, d1, d2, h, Bool.true_and, Bool.false_and, Bool.and_false, Bool.and_true, go_sem]
def colE (l : List Val) (t : Int) : Int := bif decide (1024 < l.length) then 2 else bif l.all (fun v => typeOk t && okV v t) then 0 else 7
theorem R10_Column (l : List Val) (t : Int) (hL : l.length < 1000000000000000) : Den prog 494 [.sl (l.map Val.cells), .int .i64 t] [] = some (.int .i64 (colE l t), []) := by
  rw [Den_ofK [] pr_R10_Column rfl]
  unfold colE
  have dd : decide ((1024 : Int) < (l.length : Int)) = decide (1024 < l.length) := by rw [Bool.eq_iff_iff]; simp; omega
  cases d : decide (1024 < l.length) with
  | true =>
    rw [d] at dd
    simp only [f_R10_Column, dd, cond_true, go_sem]
  | false =>
    rw [d] at dd
    rw [cond_false]
    simp only [f_R10_Column, dd, go_sem]
    refine range_ind l hL (fun i (_ : Unit) => (Run prog 0 (.loop 0 [0, 1, 5] f_R10_Column_l0) [(0, .sl (l.map Val.cells)), (1, .int .i64 t), (5, .int .i64 i)] []).bind _ = _) (fun i rest _ => l.all (fun v => typeOk t && okV v t) = rest.all (fun v => typeOk t && okV v t)) ?_ ?_ () rfl
    · intro _ h
      rw [h, Run_loop]
      simp only [f_R10_Column_l0_eq, f_R10_Column_l0u, List.all_nil, cond_true, go_sem]
    · intro i pre rest x _ hp _ hi0 hi1 hx hc hw h ih
      rw [Run_loop]
      rw [mall] at h
      have hv := R05_Valid x.null x.n x.s t
      cases dv : (typeOk t && okV x t) with
      | false =>
        have dv' : (typeOk t && okV ⟨x.null, x.n, x.s⟩ t) = false := dv
        rw [dv'] at hv
        rw [h, dv, Bool.false_and, cond_false]
        clear h hp ih
        simp only [f_R10_Column_l0_eq, f_R10_Column_l0u, hx, hc, hw, hv, Val.cells, go_sem]
      | true =>
        have dv' : (typeOk t && okV ⟨x.null, x.n, x.s⟩ t) = true := dv
        rw [dv'] at hv
        rw [dv, Bool.true_and] at h
        have ih := ih () h
        clear h hp
        simp only [f_R10_Column_l0_eq, f_R10_Column_l0u, hx, hc, hw, hv, ih, Val.cells, go_sem]
theorem samP_iff {p q : Pg} : samP p q = true ↔ p = q := by
  obtain ⟨a, b, c⟩ := p
  obtain ⟨d, e, f⟩ := q
  unfold samP
  simp [Pg.mk.injEq]
theorem encP_ok {l : List Val} {t k : Int} {p : Pg} (h : encP l t k = (p, 0)) : chkP k t = 0 ∧ l.length ≤ 1024 ∧ okL l t = true ∧ p = ⟨k, l.length, conP l t k⟩ := by
  unfold encP at h
  cases d0 : decide (chkP k t = 0) with
  | false => rw [d0] at h; simp at h d0; exact absurd h.2 d0
  | true =>
    rw [d0] at h
    cases d1 : decide (1024 < l.length) with
    | true => rw [d1] at h; simp at h
    | false =>
      rw [d1] at h
      cases d2 : okL l t with
      | false => rw [d2] at h; simp at h
      | true =>
        rw [d2] at h
        simp at h d0 d1
        exact ⟨d0, by omega, rfl, h.symm⟩
theorem decP_cases (p : Pg) (t : Int) : ((decP p t).2 ≠ 0 ∧ (decP p t).1 = []) ∨ ((decP p t).2 = 0 ∧ chkP p.kind t = 0 ∧ parP p t = some (decP p t).1 ∧ encP (decP p t).1 t p.kind = (p, 0)) := by
  unfold decP
  cases d0 : decide (chkP p.kind t = 0) with
  | false => simp at d0; exact .inl ⟨d0, rfl⟩
  | true =>
    simp only [Bool.not_true, cond_false]
    cases decide (p.rows < 0) || decide (1024 < p.rows) with
    | true => exact .inl ⟨by simp, rfl⟩
    | false =>
      simp only [cond_false]
      cases hp : parP p t with
      | none => exact .inl ⟨by simp, rfl⟩
      | some l =>
        simp only []
        cases d : decide ((encP l t p.kind).2 = 0) && samP (encP l t p.kind).1 p with
        | false => exact .inl ⟨by simp, rfl⟩
        | true =>
          rw [Bool.and_eq_true] at d
          obtain ⟨d1, d2⟩ := d
          rw [samP_iff] at d2
          simp at d0 d1
          refine .inr ⟨rfl, d0, rfl, ?_⟩
          exact Prod.ext d2 d1
theorem L10_Unique (p : Pg) (n : Int) (h0 : 0 ≤ n) (h1 : n < 256) (hp : p.b.length ≤ 140737488351232) : Den prog 503 [.agg p.cells, .int .u8 n] [] = some (.bool true, []) := by
  rw [Den_ofK [] pr_L10_PageUnique rfl]
  have w1 : IntKind.wrap .i64 n = n := wrap_i64 (by omega) (by omega)
  have q1 := Int.tmod_nonneg 5 h0
  have q2 := Int.tmod_lt_of_pos n (by decide : (0 : Int) < 5)
  have w2 : IntKind.wrap .i64 (n.tmod 5) = n.tmod 5 := wrap_i64 (by omega) (by omega)
  have w3 : IntKind.wrap .i64 (1 + n.tmod 5) = typT n := wrap_i64 (by omega) (by omega)
  cases ds : decide (20000 < (p.b.length : Int)) with
  | true => simp only [f_L10_PageUnique, Pg.cells, ds, go_sem]
  | false =>
    have hb : p.b.length ≤ 20000 := by simp at ds; omega
    have hD := page_Decode p (typT n) (by omega)
    have hdc := decP_cases p (typT n)
    have ht := typT_ok h0
    generalize typT n = t at w3 hD hdc ht
    generalize decP p t = D at hD hdc
    obtain ⟨l, e⟩ := D
    change (e ≠ 0 ∧ l = []) ∨ (e = 0 ∧ chkP p.kind t = 0 ∧ parP p t = some l ∧ encP l t p.kind = (p, 0)) at hdc
    unfold D2 Pg.cells at hD
    rcases hdc with ⟨g1, g2⟩ | ⟨g1, g2, g3, g4⟩
    · subst g2
      have de : decide (e = 0) = false := decide_eq_false g1
      simp only [f_L10_PageUnique, Pg.cells, ds, z5, w1, w2, w3, hD, de, go_sem]
    · subst g1
      obtain ⟨c1, c2, c3, c4⟩ := encP_ok g4
      have hin := (parP_in g3).1
      have hE := page_Encode l t p.kind hin (by omega)
      have hS := R10_Same p p (by omega) (by omega)
      rw [samP_iff.2 rfl] at hS
      have hC := R10_Column l t (by omega)
      have hce : colE l t = 0 := by
        unfold colE
        have d : decide (1024 < l.length) = false := by simp; omega
        have e : l.all (fun v => typeOk t && okV v t) = true := by
          rw [List.all_eq_true]; intro v hv; rw [ht, okL_mem c3 v hv]; rfl
        rw [d, e]; rfl
      rw [hce] at hC
      rw [g4] at hE
      have hr : p.rows = l.length := by rw [c4]
      have de : decide ((l.length : Int) = p.rows) = true := by rw [hr]; simp
      unfold P2 Pg.cells at hE
      unfold Pg.cells at hS
      clear c4 hr
      simp only [f_L10_PageUnique, Pg.cells, ds, z5, w1, w2, w3, hD, hE, hS, hC, de, go_sem]
theorem row_UQ (xs : List AV) (h : Args Try.prog [31, 5] xs) : Den prog 503 xs [] = some (.bool true, []) := by
  obtain ⟨n, x, ys, rfl, h1, h⟩ := h.one
  obtain ⟨n2, x2, ys2, rfl, h2, h⟩ := h.one
  cases h.none
  obtain ⟨p, rfl, _, _, hp⟩ := sh_page h1
  obtain ⟨m, rfl, hm0, hm1⟩ := sh_u8 h2
  simp only [avOf, Try.underlying31, Try.underlying5]
  exact L10_Unique p m hm0 (by omega) hp
end Go.Den
