/- Ch. 10: PageInvariance. -/
import Derived.Test.YtfjaimkpmehojaaS10N
import Derived.Test.YtfjaimkpmehojaaS10IA
import Derived.Test.YtfjaimkpmehojaaS10I
import Derived.Test.YtfjaimkpmehojaaS10H
import Derived.Test.YtfjaimkpmehojaaSh10
namespace Go.Den
open Go Go.Proofs
set_option linter.unusedSimpArgs false
set_option linter.unusedVariables false
set_option maxRecDepth 100000
set_option maxHeartbeats 1000000
theorem IV_l0 (m I : List Val) (t s : Int) (T : Nat) (hmI : I.length = m.length) (hm : m.length ≤ 1024) (hT : T < 65536) {K : Ex × Env × St → Option (AV × St)} {Z : Option (AV × St)}
    (hK : ∀ f : Int, FstI I f → K (.exit 0, [(1, .int .i64 s), (2, .int .u16 T), (7, .bool true), (8, .sl (m.map Val.cells)), (9, .int .i64 t), (10, .osl 0 0 m.length 0 m.length), (11, .sl (I.map Val.cells)), (12, .osl 1 0 m.length 0 m.length), (13, .int .i64 f), (14, .int .i64 m.length), (57, .bool false)], [.arr 0 3 ((movedV m (T % m.length)).map Val.cells), .arr 0 3 ((I.map (shiftV s)).map Val.cells)]) = Z) :
    (Run prog 0 (.loop 2 [1, 2, 7, 8, 9, 10, 11, 12, 13, 14] f_L10_PageInvariance_l0) [(1, .int .i64 s), (2, .int .u16 T), (7, .bool true), (8, .sl (m.map Val.cells)), (9, .int .i64 t), (10, .osl 0 0 0 0 0), (11, .sl (I.map Val.cells)), (12, .osl 1 0 0 0 0), (13, .int .i64 (-1)), (14, .int .i64 0)] [.arr 0 3 [], .arr 0 3 []]).bind K = Z := by
  refine range_ind I (by omega) (fun i (a : List Val × List Val × Int) => (Run prog 0 (.loop 2 [1, 2, 7, 8, 9, 10, 11, 12, 13, 14] f_L10_PageInvariance_l0) [(1, .int .i64 s), (2, .int .u16 T), (7, .bool true), (8, .sl (m.map Val.cells)), (9, .int .i64 t), (10, .osl 0 0 a.1.length 0 a.1.length), (11, .sl (I.map Val.cells)), (12, .osl 1 0 a.2.1.length 0 a.2.1.length), (13, .int .i64 a.2.2), (14, .int .i64 i)] [.arr 0 3 (a.1.map Val.cells), .arr 0 3 (a.2.1.map Val.cells)]).bind K = Z)
    (fun i rest a => ∃ pre, I = pre ++ rest ∧ i = pre.length ∧ a.1 = (movedV m (T % m.length)).take pre.length ∧ a.2.1 = pre.map (shiftV s) ∧ FstI pre a.2.2) ?_ ?_ ([], [], -1) ⟨[], rfl, rfl, by simp, rfl, .inl ⟨rfl, by simp⟩⟩
  · intro ⟨M, S, f⟩ ⟨pre, h1, h2, h3, h4, h5⟩
    simp only [List.append_nil] at h1 h3 h4 h5 ⊢
    subst h1
    have hml := moved_len m (T % m.length)
    have hM : M = movedV m (T % m.length) := by rw [h3, List.take_of_length_le (by omega)]
    have hK := hK f h5
    subst hM
    subst h4
    have e1 : (movedV m (T % m.length)).length = m.length := hml
    have e2 : (I.map (shiftV s)).length = m.length := by simp [hmI]
    have e3 : ((I.length : Nat) : Int) = (m.length : Int) := by rw [hmI]
    have d : decide ((m.length : Int) < (m.length : Int)) = false := by simp
    rw [e1, e2, e3]
    clear h3 h5 h2
    generalize (I.map (shiftV s)).map Val.cells = E2 at *
    generalize (movedV m (T % m.length)).map Val.cells = E1 at *
    rw [Run_loop]
    simp only [f_L10_PageInvariance_l0_eq, f_L10_PageInvariance_l0u, d, hK, go_sem]
  · intro i pre0 rest x ⟨M, S, f⟩ _ _ hi0 hi1 hx hc hw ⟨pre, h1, h2, h3, h4, h5⟩ ih
    simp only [] at h3 h4 h5 ih ⊢
    have hpl : pre.length < m.length := by rw [← hmI, h1]; simp
    have hml := moved_len m (T % m.length)
    have hMl : M.length = pre.length := by rw [h3, List.length_take]; omega
    have hSl : S.length = pre.length := by rw [h4]; simp
    obtain ⟨r, hr⟩ : ∃ r, (m.length - 1 - pre.length + T) % m.length = r := ⟨_, rfl⟩
    have hat := moved_at m T pre.length hpl
    rw [hr] at hat
    have hrl : r < m.length := by rw [← hr]; exact Nat.mod_lt _ (by omega)
    obtain ⟨y, hy⟩ : ∃ y, m[r]? = some y := ⟨_, List.getElem?_eq_getElem hrl⟩
    rw [hy] at hat
    have hgy : getE m (r : Int) = some y := by rw [getE_nat]; exact hy
    have hMy : M ++ [y] = (movedV m (T % m.length)).take (pre.length + 1) := by rw [List.take_add_one, hat, ← h3]; rfl
    have hadd := h5.add x
    have ih := fun f' (hf : f' = bif x.null then f else bif decide (f < 0) then (pre.length : Int) else f) => ih (M ++ [y], S ++ [shiftV s x], f') ⟨pre ++ [x], by rw [h1]; simp, by simp; omega, by simp only [List.length_append, List.length_singleton]; exact hMy, by simp only []; rw [h4]; simp, by simp only []; rw [hf]; exact hadd⟩
    simp only [List.length_append, List.length_singleton] at ih
    have w1 : IntKind.wrap .i64 ((m.length : Int) - 1) = (m.length : Int) - 1 := wrap_i64 (by omega) (by omega)
    have w2 : IntKind.wrap .i64 ((m.length : Int) - 1 - i) = ((m.length - 1 - pre.length : Nat) : Int) := by rw [wrap_i64 (by omega) (by omega)]; omega
    have w3 : IntKind.wrap .i64 (T : Int) = (T : Int) := wrap_i64 (by omega) (by omega)
    have w4 : IntKind.wrap .i64 (((m.length - 1 - pre.length : Nat) : Int) + (T : Int)) = ((m.length - 1 - pre.length + T : Nat) : Int) := by rw [wrap_i64 (by omega) (by omega)]; omega
    have w5 : ((m.length - 1 - pre.length + T : Nat) : Int).tmod (m.length : Int) = (r : Int) := by
      have e : ((m.length - 1 - pre.length + T : Nat) : Int).tmod (m.length : Int) = (((m.length - 1 - pre.length + T) % m.length : Nat) : Int) := rfl
      rw [e, hr]
    have hlz : (m.length : Int) ≠ 0 := by omega
    have hb1 : (M.length + 1) * 32 ≤ 140737488355328 := by omega
    have hb2 : (S.length + 1) * 32 ≤ 140737488355328 := by omega
    have hc' : decide (i < (m.length : Int)) = true := by rw [← hmI]; exact hc
    obtain ⟨nu, n, st⟩ := x
    obtain ⟨yb, yn, ys⟩ := y
    clear hadd hMy hat hy h1 h3 h4 h5 hml hr hc
    generalize m.length - 1 - pre.length + T = q1 at *
    generalize m.length - 1 - pre.length = q2 at *
    rw [Run_loop]
    cases nu with
    | true =>
      have ih := ih f rfl
      have e : shiftV s ⟨true, n, st⟩ = ⟨true, n, st⟩ := rfl
      rw [e] at ih
      simp only [List.map_append, List.map_cons, List.map_nil, Val.cells] at ih
      simp only [f_L10_PageInvariance_l0_eq, f_L10_PageInvariance_l0u, hc', hw, hx, hgy, w1, w2, w3, w4, w5, hlz, hb1, hb2, ih, Val.cells, go_sem]
    | false =>
      have e : shiftV s ⟨false, n, st⟩ = ⟨false, IntKind.wrap .i64 (n + s), st⟩ := rfl
      rw [e] at ih
      simp only [List.map_append, List.map_cons, List.map_nil, Val.cells, cond_false] at ih
      cases df : decide (f < 0) with
      | true =>
        rw [df] at ih
        have ih := ih pre.length rfl
        rw [← h2] at ih
        simp only [f_L10_PageInvariance_l0_eq, f_L10_PageInvariance_l0u, hc', hw, hx, hgy, w1, w2, w3, w4, w5, hlz, hb1, hb2, df, ih, Val.cells, go_sem]
      | false =>
        rw [df] at ih
        have ih := ih f rfl
        simp only [f_L10_PageInvariance_l0_eq, f_L10_PageInvariance_l0u, hc', hw, hx, hgy, w1, w2, w3, w4, w5, hlz, hb1, hb2, df, ih, Val.cells, go_sem]
theorem IV_l1 (D : List Val) (t f : Int) (O0 : List UInt8) (hc : Col D t) (hn : D.length ≤ 1024) (hO : O0.length < 1000000) (a8 a16 a18 a20 a22 a24 a26 : AV) (σ : St) (hσ : decide (σ.length ≤ 9) = true) {K : Ex × Env × St → Option (AV × St)} {Z : Option (AV × St)}
    (hK : K (.exit 2, [(7, .bool true), (8, a8), (9, .int .i64 t), (13, .int .i64 f), (16, a16), (18, a18), (20, a20), (22, a22), (24, a24), (26, a26), (28, .sl (D.map Val.cells)), (29, .sl ((O0 ++ D.flatMap (bareB · t)).map bcell)), (30, .int .i64 D.length), (161, .bool false)], σ) = Z) :
    (Run prog 0 (.loop 9 [7, 8, 9, 13, 16, 18, 20, 22, 24, 26, 28, 29, 30] f_L10_PageInvariance_l1) [(7, .bool true), (8, a8), (9, .int .i64 t), (13, .int .i64 f), (16, a16), (18, a18), (20, a20), (22, a22), (24, a24), (26, a26), (28, .sl (D.map Val.cells)), (29, .sl (O0.map bcell)), (30, .int .i64 0)] σ).bind K = Z := by
  refine range_ind D (by omega) (fun i (O : List UInt8) => (Run prog 0 (.loop 9 [7, 8, 9, 13, 16, 18, 20, 22, 24, 26, 28, 29, 30] f_L10_PageInvariance_l1) [(7, .bool true), (8, a8), (9, .int .i64 t), (13, .int .i64 f), (16, a16), (18, a18), (20, a20), (22, a22), (24, a24), (26, a26), (28, .sl (D.map Val.cells)), (29, .sl (O.map bcell)), (30, .int .i64 i)] σ).bind K = Z)
    (fun i rest O => ∃ pre, D = pre ++ rest ∧ i = pre.length ∧ O = O0 ++ pre.flatMap (bareB · t)) ?_ ?_ O0 ⟨[], rfl, rfl, by simp⟩
  · intro O ⟨pre, h1, h2, h3⟩
    rw [List.append_nil] at h1
    subst h1
    rw [← h3] at hK
    clear h3
    rw [Run_loop]
    simp only [f_L10_PageInvariance_l1_eq, f_L10_PageInvariance_l1u, hσ, hK, go_sem]
  · intro i pre0 rest x O _ _ hi0 hi1 hx hcx hw ⟨pre, h1, h2, h3⟩ ih
    have hcp : Col pre t := (h1 ▸ hc : Col (pre ++ x :: rest) t).left
    have hcv := (h1 ▸ hc : Col (pre ++ x :: rest) t).right x (List.mem_cons_self ..)
    have hpl : pre.length ≤ 1024 := by
      have := congrArg List.length h1
      simp only [List.length_append] at this; omega
    have hfl := flatB_len t hcp
    have hO2 : O.length < 100000000 := by rw [h3, List.length_append]; omega
    have hsz := okV_size hcv.1
    obtain ⟨nu, m, s⟩ := x
    have hb := R10_Bare O nu m s t (by omega) (by simp only [] at hsz; omega) hcv.2
    have ih := ih (O ++ bareB ⟨nu, m, s⟩ t) ⟨pre ++ [⟨nu, m, s⟩], by simp [h1], by simp; omega, by rw [h3]; simp⟩
    clear h1 h2 h3 hfl
    generalize O ++ bareB ⟨nu, m, s⟩ t = O2 at *
    rw [Run_loop]
    simp only [f_L10_PageInvariance_l1_eq, f_L10_PageInvariance_l1u, hx, hcx, hw, hb, ih, hσ, Val.cells, go_sem]
theorem L10_Invariance (l : List Val) (n s : Int) (T : Nat) (hL : l.length < 1000000000000000) (hi : ∀ v ∈ l, InB v) (h0 : 0 ≤ n) (h1 : n < 256) (hT : T < 65536) : Den prog 505 [.agg [.sl (l.map Val.cells), .int .u8 n], .int .i64 s, .int .u16 T] [] = some (.bool true, []) := by
  rw [Den_ofK [] pr_L10_PageInvariance rfl]
  have hm := L10_made l n hL h0 h1
  have hI := R10_Made l 3 hL
  have ht := typT_ok h0
  obtain ⟨ho, hb, hl⟩ := madeL_ok ht hi
  obtain ⟨ho3, hb3, _⟩ := madeL_ok (show typeOk 3 = true from rfl) hi
  have hIl : (madeL l 3).length = (madeL l (typT n)).length := by simp [madeL]
  cases hs : smallB l with
  | false => simp only [f_L10_PageInvariance, hs, hL, go_sem]
  | true =>
    generalize madeL l (typT n) = m at hm ho hb hl hIl
    generalize madeL l 3 = I at hI ho3 hb3 hIl
    generalize typT n = t at hm ho ht
    have hmc : Col m t := fun v hv => ⟨okL_mem ho v hv, hb v hv⟩
    have hIc : Col I 3 := fun v hv => ⟨okL_mem ho3 v hv, hb3 v hv⟩
    have hpm := moved_perm m (T % m.length)
    have hSc : Col (I.map (shiftV s)) 3 := by
      intro w hw
      obtain ⟨v, hv, rfl⟩ := List.mem_map.1 hw
      exact okV_shift s (hIc v hv).1
    have hVc : Col (movedV m (T % m.length)) t := fun v hv => hmc v (hpm.mem_iff.1 hv)
    have okq : ∀ (L : List Val) (u : Int), Col L u → okL L u = true := fun L u h => by
      unfold okL; rw [List.all_eq_true]; exact fun v hv => (h v hv).1
    have inq : ∀ (L : List Val) (u : Int), Col L u → ∀ v ∈ L, InB v := fun L u h v hv => (h v hv).2
    have c1 : chkP 1 t = 0 := by rw [chkP_def ht (by decide)]; rfl
    have c2 : chkP 2 t = 0 := by rw [chkP_def ht (by decide)]; rfl
    have c3 : chkP 3 3 = 0 := rfl
    have hVl := moved_len m (T % m.length)
    have hdp := dict_perm t hpm
    have hpp := plain_perm t hpm
    have hds := dist_perm hpm
    have hdl := distV_len m
    have hcd : Col (distV m) t := fun v hv => hmc v ((distV_mem m v).1 hv).1
    have hl0 := fun K Z => IV_l0 m I t s T hIl hl hT (K := K) (Z := Z)
    have hE1 := page_Encode m t 2 (inq m t hmc) (by omega)
    rw [enc_made hl (okq m t hmc) c2] at hE1
    have hE3 := page_Encode m t 1 (inq m t hmc) (by omega)
    rw [enc_made hl (okq m t hmc) c1] at hE3
    have hSl : (I.map (shiftV s)).length = m.length := by simp [hIl]
    have hE5 := page_Encode I 3 3 (inq I 3 hIc) (by omega)
    rw [enc_made (by omega) (okq I 3 hIc) c3, hIl] at hE5
    have hE6 := page_Encode (I.map (shiftV s)) 3 3 (inq _ 3 hSc) (by omega)
    rw [enc_made (by omega) (okq _ 3 hSc) c3, hSl] at hE6
    have hD := R10_Distinct m (by omega) (fun x hx => by have := okV_size (hmc x hx).1; omega)
    have hcl1 := conP_len 2 hl hmc
    have hcl3 := conP_len 3 (show I.length ≤ 1024 by omega) hIc
    have hcl6 := conP_len 3 (show (I.map (shiftV s)).length ≤ 1024 by omega) hSc
    have hE2 : ∀ M, M = movedV m (T % m.length) → Den prog 478 [.sl (M.map Val.cells), .int .i64 t, .int .i64 2] [] = some (P2 (⟨2, m.length, dictP M t⟩, 0), []) := by
      intro M hM
      subst hM
      have := page_Encode _ t 2 (inq _ t hVc) (by omega)
      rw [enc_made (by omega) (okq _ t hVc) c2, hVl] at this
      exact this
    have hE4 : ∀ M, M = movedV m (T % m.length) → Den prog 478 [.sl (M.map Val.cells), .int .i64 t, .int .i64 1] [] = some (P2 (⟨1, m.length, plainP M t⟩, 0), []) := by
      intro M hM
      subst hM
      have := page_Encode _ t 1 (inq _ t hVc) (by omega)
      rw [enc_made (by omega) (okq _ t hVc) c1, hVl] at this
      exact this
    obtain ⟨M, hM⟩ : ∃ M, M = movedV m (T % m.length) := ⟨_, rfl⟩
    have hE2 := hE2 M hM
    have hE4 := hE4 M hM
    rw [← hM] at hdp hpp hds hl0 hVl
    have e1 : conP m t 2 = dictP m t := rfl
    have e3 : conP m t 1 = plainP m t := rfl
    have e5 : conP I 3 3 = deltaP I := rfl
    have e6 : conP (I.map (shiftV s)) 3 3 = deltaP (I.map (shiftV s)) := rfl
    rw [e1] at hE1 hcl1
    rw [e3] at hE3
    rw [e5] at hE5 hcl3
    rw [e6] at hE6 hcl6
    obtain ⟨Pf, hPf⟩ : ∃ Pf, leb (distV m).length ++ (distV m).flatMap (bareB · t) = Pf := ⟨_, rfl⟩
    have hA1 : dictP m t = Pf ++ m.flatMap fun v => leb (idxD (distV m) v) := by rw [← hPf]; unfold dictP; rw [List.append_assoc]
    have hA2 : dictP M t = Pf ++ M.flatMap fun v => leb (idxD (distV m) v) := by rw [← hPf]; unfold dictP; rw [hds, List.append_assoc]
    have hlb := leb_len10 (show (distV m).length < 18446744073709551616 by omega)
    have hl1 := fun a8 a16 a18 a20 a22 a24 a26 σ f h K Z => IV_l1 (distV m) t f (leb (distV m).length) hcd (by omega) (by omega) a8 a16 a18 a20 a22 a24 a26 σ h (K := K) (Z := Z)
    rw [hPf] at hl1
    have hPl : Pf.length ≤ (dictP m t).length := by rw [hA1, List.length_append]; omega
    have hPl2 : Pf.length ≤ (dictP M t).length := by rw [hA2, List.length_append]; omega
    have hT1 : List.take Pf.length ((dictP m t).map bcell) = Pf.map bcell := by rw [← List.map_take, hA1, List.take_left]
    have hT2 : List.take Pf.length ((dictP M t).map bcell) = Pf.map bcell := by rw [← List.map_take, hA2, List.take_left]
    have hSP := R01_Same Pf Pf (by omega) (by omega)
    rw [decide_eq_true rfl] at hSP
    have hu := R01_U2 [] (distV m).length (by omega) (by simp)
    rw [List.map_nil, List.nil_append] at hu
    have wu : IntKind.wrap .u64 ((distV m).length : Int) = ((distV m).length : Int) := wrap_u64 (by omega) (by omega)
    have hml := maskOf_len I
    rw [hIl] at hml
    obtain ⟨k, hk⟩ : ∃ k, (m.length + 7) / 8 = k := ⟨_, rfl⟩
    have wm : IntKind.wrap .i64 ((m.length : Int) + 7) = (m.length : Int) + 7 := wrap_i64 (by omega) (by omega)
    have wd : IntKind.wrap .i64 (((m.length : Int) + 7).tdiv 8) = (k : Int) := by
      have : ((m.length : Int) + 7).tdiv 8 = (((m.length + 7) / 8 : Nat) : Int) := rfl
      rw [this, hk, wrap_i64 (by omega) (by omega)]
    rw [hk] at hml
    have d1 : decide (((dictP m t).length : Int) = ((dictP M t).length : Int)) = true := by rw [hdp]; simp
    have d2 : decide (((plainP m t).length : Int) = ((plainP M t).length : Int)) = true := by rw [hpp]; simp
    have d3 : decide (((dictP m t).length : Int) < (Pf.length : Int)) = false := by simp; omega
    have g1 : (Pf.length : Int) ≤ ((dictP m t).length : Int) := by omega
    have g2 : (Pf.length : Int) ≤ ((dictP M t).length : Int) := by omega
    have hdel : ∀ f, FstI I f → (f < 0 ∧ deltaP (I.map (shiftV s)) = deltaP I) ∨ (0 ≤ f ∧ ∃ (x y : Int) (R : List UInt8), InB ⟨false, x, ⟨#[]⟩⟩ ∧ InB ⟨false, y, ⟨#[]⟩⟩ ∧ deltaP I = maskOf I ++ (leb (zz x) ++ R) ∧ deltaP (I.map (shiftV s)) = maskOf I ++ (leb (zz y) ++ R)) := by
      intro f hf
      rcases hf with ⟨rfl, h⟩ | ⟨p, v, r, q1, q2, q3, q4⟩
      · exact .inl ⟨by decide, by rw [delta_same s I h]⟩
      · refine .inr ⟨by omega, v.n, IntKind.wrap .i64 (v.n + s), bodyD v.n r, ?_, wrap_rng _, ?_, ?_⟩
        · exact (hIc v (by rw [q1]; simp)).2
        · rw [q1]; exact delta_first p r v q3 q4 (hIc v (by rw [q1]; simp)).2
        · rw [q1]; exact delta_shift s p r v q3 q4
    have hEM : (M.map Val.cells).length = m.length := by rw [List.length_map, hVl]
    have hES : ((I.map (shiftV s)).map Val.cells).length = m.length := by rw [List.length_map, hSl]
    unfold P2 Pg.cells at hE1 hE2 hE3 hE4 hE5 hE6
    clear hmc hIc hpm hSc hVc okq inq c1 c2 c3 hcd e1 e3 e5 e6 hPf hA1 hA2 ho hb ho3 hb3 ht hdp hpp hds hVl hlb hM
    generalize maskOf I = MI at *
    generalize dictP m t = A at *
    generalize dictP M t = B at *
    generalize plainP m t = A' at *
    generalize plainP M t = B' at *
    generalize distV m = D at *
    generalize hF : deltaP I = F at *
    generalize hG : deltaP (I.map (shiftV s)) = G at *
    simp only [f_L10_PageInvariance, hs, hL, hm, hI, go_sem]
    refine hl0 _ _ (fun f hf => ?_)
    have hdel := hdel f hf
    generalize (I.map (shiftV s)).map Val.cells = ES at *
    generalize M.map Val.cells = EM at *
    have z0 : decide ((0 : Int) = 0) = true := rfl
    simp only [hE1, hE2, hE3, hE4, hE5, hE6, hEM, hES, hD, hu, wu, z0, go_sem]
    refine hl1 _ _ _ _ _ _ _ _ _ rfl _ _ ?_
    simp only [d1, d2, d3, g1, g2, hT1, hT2, hSP, wm, wd, z8, go_sem]
    rcases hdel with ⟨df, e⟩ | ⟨df, x, y, R, bx, by', q1, q2⟩
    · have df' : decide (f < 0) = true := decide_eq_true df
      subst e
      have hSf := R10_Same ⟨3, m.length, G⟩ ⟨3, m.length, G⟩ (by simp only []; omega) (by simp only []; omega)
      rw [samP_iff.2 rfl] at hSf
      unfold Pg.cells at hSf
      simp only [] at hSf
      simp only [df', hSf, go_sem]
    · have df' : decide (f < 0) = false := by simp; omega
      have r1 := R01_ReadS F k (by omega)
      have r2 := R01_ReadS G k (by omega)
      have s1 := rS_enc MI R x bx.1 bx.2
      have s2 := rS_enc MI R y by'.1 by'.2
      rw [hml, ← q1] at s1
      rw [hml, ← q2] at s2
      rw [s1] at r1
      rw [s2] at r2
      simp only [] at r1 r2
      have hFl : F.length = k + ((leb (zz x)).length + R.length) := by rw [q1]; simp only [List.length_append]; omega
      have hGl : G.length = k + ((leb (zz y)).length + R.length) := by rw [q2]; simp only [List.length_append]; omega
      obtain ⟨jx, hjx⟩ : ∃ jx, k + (leb (zz x)).length = jx := ⟨_, rfl⟩
      obtain ⟨jy, hjy⟩ : ∃ jy, k + (leb (zz y)).length = jy := ⟨_, rfl⟩
      have ex : (k : Int) + ((leb (zz x)).length : Int) = (jx : Int) := by omega
      have ey : (k : Int) + ((leb (zz y)).length : Int) = (jy : Int) := by omega
      rw [ex] at r1
      rw [ey] at r2
      have tF : List.take k (F.map bcell) = MI.map bcell := by rw [← List.map_take, q1, List.take_left' hml]
      have tG : List.take k (G.map bcell) = MI.map bcell := by rw [← List.map_take, q2, List.take_left' hml]
      have dF : List.drop jx (F.map bcell) = R.map bcell := by
        rw [← List.map_drop, q1, ← List.append_assoc, List.drop_left' (by rw [List.length_append]; omega)]
      have dG : List.drop jy (G.map bcell) = R.map bcell := by
        rw [← List.map_drop, q2, ← List.append_assoc, List.drop_left' (by rw [List.length_append]; omega)]
      have hS1 := R01_Same MI MI (by omega) (by omega)
      rw [decide_eq_true rfl] at hS1
      have hS2 := R01_Same R R (by omega) (by omega)
      rw [decide_eq_true rfl] at hS2
      have k1 : (k : Int) ≤ (F.length : Int) := by omega
      have k2 : (k : Int) ≤ (G.length : Int) := by omega
      have k3 : (jx : Int) ≤ (F.length : Int) := by omega
      have k4 : (jy : Int) ≤ (G.length : Int) := by omega
      clear q1 q2 s1 s2 hFl hGl
      simp only [df', r1, r2, z0, tF, tG, dF, dG, hS1, hS2, k1, k2, k3, k4, go_sem]
theorem row_IV (xs : List AV) (h : Args Try.prog [24, 2, 43] xs) : Den prog 505 xs [] = some (.bool true, []) := by
  obtain ⟨n, x, ys, rfl, h1, h⟩ := h.one
  obtain ⟨n2, x2, ys2, rfl, h2, h⟩ := h.one
  obtain ⟨n3, x3, ys3, rfl, h3, h⟩ := h.one
  cases h.none
  obtain ⟨L, m, rfl, hL, hi, h0, h4⟩ := sh_col h1
  obtain ⟨s, rfl, _⟩ := Sh.int h2 Try.underlying2
  obtain ⟨T, rfl, hT⟩ := Sh.int h3 Try.underlying43
  have hT2 : 0 ≤ T ∧ T ≤ 65535 := by
    have h1 : IntKind.u16.min = 0 := by decide
    have h2 : IntKind.u16.max = 65535 := by decide
    simp [Lit.wf, h1, h2] at hT
    exact ⟨by omega, by omega⟩
  simp only [avOf, Try.underlying24, Try.underlying2, Try.underlying43]
  have e : T = ((T.toNat : Nat) : Int) := by omega
  rw [e]
  exact L10_Invariance L m s T.toNat hL hi h0 h4 (by omega)
end Go.Den
