/- Package page: Runs pages read; Decode. -/
import Derived.Test.YtfjaimkpmehojaaGreatS10Y
namespace Go.Den
open Go
set_option linter.unusedSimpArgs false
set_option linter.unusedVariables false
set_option maxRecDepth 100000
set_option maxHeartbeats 1000000
theorem decV_ends (b : List UInt8) (a t : Int) (h : (decV b a t).2.2 = 0) : a ≤ (decV b a t).2.1 ∧ (decV b a t).2.1 ≤ b.length ∧ 0 ≤ a := by
  obtain ⟨h1, h2, _, _, _, rest, h3, h4⟩ := dec_can b a t h
  have := congrArg List.length h3
  simp only [List.length_drop, List.length_append] at this
  omega
theorem runs_p0 (b : List UInt8) (t : Int) (rows : Nat) (hbl : b.length < 1000000000) (hr : rows ≤ 1024) {K : Ex × Env × St → Option (AV × St)} {Z : Option (AV × St)} (R : Option (List Val))
    (hS : ∀ L, R = some L → ∀ a' : Int, K (.exit 0, [(1, .sl (b.map bcell)), (2, .int .i64 rows), (3, .int .i64 t), (10, .osl 0 0 L.length 0 L.length), (11, .int .i64 a'), (20, .bool false)], [.arr 0 3 (L.map Val.cells)]) = Z)
    (hN : R = none → ∀ τ : St, K (.ret, [(8, .nils), (9, .bool false)], τ) = Z) :
    ∀ (f : Nat) (out : List Val) (a : Int) (m : Nat), m = out.length → m ≤ rows → (b.length : Int) ≤ a + f → 0 ≤ a → a ≤ b.length → R = getR b t rows f out a →
    (Run prog 0 (.loop 1 [1, 2, 3, 10, 11] f_page_runs_parse_l0) [(1, .sl (b.map bcell)), (2, .int .i64 rows), (3, .int .i64 t), (10, .osl 0 0 m 0 m), (11, .int .i64 a)] [.arr 0 3 (out.map Val.cells)]).bind K = Z := by
  intro f
  induction f with
  | zero =>
    intro out a m hm hmr h1 h2 h3 hR
    rw [getR, if_neg (by omega)] at hR
    have hS := hS out hR a
    have d : decide (a < (b.length : Int)) = false := by simp; omega
    rw [← hm] at hS
    clear hR hN
    rw [Run_loop]
    generalize out.map Val.cells = E at *
    simp only [f_page_runs_parse_l0_eq, f_page_runs_parse_l0u, d, hS, go_sem]
  | succ f ih =>
    intro out a m hm hmr h1 h2 h3 hR
    rw [getR] at hR
    rw [Run_loop]
    cases d : decide (a < (b.length : Int)) with
    | false =>
      rw [d, cond_false] at hR
      have hS := hS out hR a
      rw [← hm] at hS
      clear hR hN ih
      generalize out.map Val.cells = E at *
      simp only [f_page_runs_parse_l0_eq, f_page_runs_parse_l0u, d, hS, go_sem]
    | true =>
      rw [d, cond_true] at hR
      have hu := wire_ReadU b a (by omega)
      have hue := (rU_end b a).1
      have hv := value_Decode b (rU b a).2.1 t (by omega)
      have hve := decV_ends b (rU b a).2.1 t
      have hOl : (out.map Val.cells).length = m := by simp [hm]
      have w1 : IntKind.wrap .i64 ((rows : Int) - (m : Int)) = ((rows - m : Nat) : Int) := by rw [wrap_i64 (by omega) (by omega)]; omega
      have w2 : IntKind.wrap .u64 ((rows - m : Nat) : Int) = ((rows - m : Nat) : Int) := wrap_u64 (by omega) (by omega)
      rw [← hm] at hR
      obtain ⟨q, hq⟩ : ∃ q, q = rows - m := ⟨_, rfl⟩
      rw [← hq] at w1 w2 hR
      generalize rU b a = r at *
      obtain ⟨n, nx, e⟩ := r
      simp only [t3] at hu hue hv hve hR
      cases de : decide (e = 0) with
      | false =>
        rw [de] at hR
        simp only [Bool.not_false, Bool.true_or, cond_true] at hR
        have hN := hN hR
        clear hR hS ih
        generalize out.map Val.cells = E at *
        simp only [f_page_runs_parse_l0_eq, f_page_runs_parse_l0u, d, hu, de, hN, go_sem]
      | true =>
        have hue := hue (by simpa using de)
        rw [de] at hR
        simp only [Bool.not_true, Bool.false_or] at hR
        cases dn : decide (q < n) with
        | true =>
          have dn' : decide ((q : Int) < (n : Int)) = true := by simp at dn ⊢; omega
          rw [dn, cond_true] at hR
          have hN := hN hR
          clear hR hS ih
          generalize out.map Val.cells = E at *
          simp only [f_page_runs_parse_l0_eq, f_page_runs_parse_l0u, d, hu, de, hOl, w1, w2, dn', hN, go_sem]
        | false =>
          have dn' : decide ((q : Int) < (n : Int)) = false := by simp at dn ⊢; omega
          rw [dn, cond_false] at hR
          generalize decV b nx t = dv at *
          obtain ⟨v, en, e2⟩ := dv
          simp only [V3] at hv hve hR
          cases de2 : decide (e2 = 0) with
          | false =>
            rw [de2, cond_false] at hR
            have hN := hN hR
            clear hR hS ih
            obtain ⟨nu, x, s⟩ := v
            simp only [Val.cells] at hv
            generalize out.map Val.cells = E at *
            simp only [f_page_runs_parse_l0_eq, f_page_runs_parse_l0u, d, hu, de, hOl, w1, w2, dn', hv, de2, hN, go_sem]
          | true =>
            have hve := hve (by simpa using de2)
            rw [de2, cond_true] at hR
            have hnq : n ≤ q := by simp at dn; omega
            have hrp := slices_Repeat v n (by omega)
            have w3 : IntKind.wrap .i64 (n : Int) = n := wrap_i64 (by omega) (by omega)
            have ih := ih (out ++ List.replicate n v) en (m + n) (by simp; omega) (by omega) (by omega) (by omega) (by omega) hR
            have hap : (out ++ List.replicate n v).map Val.cells = out.map Val.cells ++ (List.replicate n v).map Val.cells := by rw [List.map_append]
            rw [hap] at ih
            have hrl : ((List.replicate n v).map Val.cells).length = n := by simp
            have hrz : szOKb 3 ((List.replicate n v).map Val.cells) = true := szOKb_map 3 Val.cells _ (fun _ => rfl)
            have hb : (m + n) * 32 ≤ 140737488355328 := by omega
            clear hR hS hN hap
            generalize (List.replicate n v).map Val.cells = Y at *
            generalize out.map Val.cells = E at *
            obtain ⟨nu, x, s⟩ := v
            simp only [Val.cells] at hv
            simp only [f_page_runs_parse_l0_eq, f_page_runs_parse_l0u, d, hu, de, hOl, w1, w2, w3, dn', hv, de2, hrp, hrl, hrz, hb, ih, go_sem]
theorem runs_parse (b : List UInt8) (t : Int) (rows : Nat) (hbl : b.length < 1000000000) (hr : rows ≤ 1024) : Den prog 521 [.agg [], .sl (b.map bcell), .int .i64 rows, .int .i64 t] [] = some (parR (getR b t rows b.length [] 0), []) := by
  rw [Den_ofK [] pr_page_runs_parse rfl]
  have k0 := fun K Z hS hN => runs_p0 b t rows hbl hr (K := K) (Z := Z) (getR b t rows b.length [] 0) hS hN b.length [] 0 0 rfl (by omega) (by omega) (by omega) (by omega) rfl
  simp only [List.map_nil] at k0
  simp only [f_page_runs_parse, go_sem]
  refine k0 _ _ ?_ ?_
  · intro L hL a'
    rw [hL]
    simp only [parR, go_sem]
  · intro hL τ
    rw [hL]
    simp only [parR, go_sem]
theorem readB_in (b : List UInt8) (a t : Int) : InB (readB b a t).1 := by
  unfold readB
  cases decide (t = 4) with
  | true => exact ⟨(by decide : (-9223372036854775808 : Int) ≤ 0), (by decide : (0 : Int) ≤ 9223372036854775807)⟩
  | false =>
    simp only [cond_false, rS]
    exact unzz_lt (rU_lt b a)
theorem getP_in (b : List UInt8) (t : Int) : ∀ (k i : Nat) (a : Int) (L : List Val), getP b t k i a = some L → ∀ v ∈ L, InB v
  | 0, _, _, L, h => by simp [getP] at h; subst h; simp
  | k + 1, i, a, L, h => by
    rw [getP] at h
    cases hb : bitB b i with
    | true =>
      rw [hb, cond_true] at h
      obtain ⟨r, hr, e⟩ := Option.map_eq_some_iff.1 h
      subst e
      intro v hv
      rcases List.mem_cons.1 hv with rfl | hv
      · exact ⟨by decide, by decide⟩
      · exact getP_in b t k _ _ r hr v hv
    | false =>
      rw [hb, cond_false] at h
      cases hd : decide ((readB b a t).2.2 = 0) with
      | false => rw [hd] at h; simp at h
      | true =>
        rw [hd, cond_true] at h
        obtain ⟨r, hr, e⟩ := Option.map_eq_some_iff.1 h
        subst e
        intro v hv
        rcases List.mem_cons.1 hv with rfl | hv
        · exact readB_in b a t
        · exact getP_in b t k _ _ r hr v hv
theorem valsP_in {b : List UInt8} {n : Nat} {t : Int} {L : List Val} (h : valsP b n t = some L) : ∀ v ∈ L, InB v := by
  unfold valsP at h
  cases hd : decide (b.length < (n + 7) / 8) with
  | true => rw [hd] at h; simp at h
  | false => rw [hd] at h; exact getP_in _ _ _ _ _ _ h
theorem sumD_in : ∀ (l : List Val) (x : Int), (∀ v ∈ l, InB v) → ∀ v ∈ sumD x l, InB v
  | [], _, _, v, h => by simp [sumD] at h
  | w :: r, x, hi, v, h => by
    have hr : ∀ v ∈ r, InB v := fun v hv => hi v (List.mem_cons_of_mem _ hv)
    rw [sumD] at h
    cases hw : w.null with
    | true =>
      rw [hw, cond_true] at h
      rcases List.mem_cons.1 h with rfl | h
      · exact hi _ (List.mem_cons_self ..)
      · exact sumD_in r x hr v h
    | false =>
      rw [hw, cond_false] at h
      rcases List.mem_cons.1 h with rfl | h
      · exact wrap_rng _
      · exact sumD_in r _ hr v h
theorem getV_in (b : List UInt8) (t : Int) : ∀ (k : Nat) (a : Int) (L : List Val) (a' : Int), getV b t k a = some (L, a') → ∀ v ∈ L, InB v
  | 0, _, L, _, h => by simp [getV] at h; rw [h.1]; simp
  | k + 1, a, L, a', h => by
    rw [getV] at h
    cases hd : decide ((readB b a t).2.2 = 0) with
    | false => rw [hd] at h; simp at h
    | true =>
      rw [hd, cond_true] at h
      obtain ⟨⟨r, q⟩, hr, e⟩ := Option.map_eq_some_iff.1 h
      simp at e
      rw [← e.1]
      intro v hv
      rcases List.mem_cons.1 hv with rfl | hv
      · exact readB_in b a t
      · exact getV_in b t k _ r q hr v hv
theorem getX_in (b : List UInt8) (D : List Val) (hD : ∀ v ∈ D, InB v) : ∀ (k : Nat) (a : Int) (L : List Val), getX b D k a = some L → ∀ v ∈ L, InB v
  | 0, _, L, h => by simp [getX] at h; subst h; simp
  | k + 1, a, L, h => by
    rw [getX] at h
    cases hd : decide ((rU b a).2.2 = 0) with
    | false => rw [hd] at h; simp at h
    | true =>
      rw [hd, cond_true] at h
      cases hx : D[(rU b a).1]? with
      | none => rw [hx] at h; simp at h
      | some w =>
        rw [hx] at h
        obtain ⟨r, hr, e⟩ := Option.map_eq_some_iff.1 h
        subst e
        intro v hv
        rcases List.mem_cons.1 hv with rfl | hv
        · exact hD _ (List.mem_of_getElem? hx)
        · exact getX_in b D hD k _ r hr v hv
theorem valsD_in {b : List UInt8} {n : Nat} {t : Int} {L : List Val} (h : valsD b n t = some L) : ∀ v ∈ L, InB v := by
  unfold valsD at h
  cases hd : (!decide ((rU b 0).2.2 = 0) || decide (n < (rU b 0).1)) with
  | true => rw [hd] at h; simp at h
  | false =>
    rw [hd, cond_false] at h
    obtain ⟨q, hq, hx⟩ := Option.bind_eq_some_iff.1 h
    refine getX_in b (nullV :: q.1) ?_ _ _ L hx
    intro v hv
    rcases List.mem_cons.1 hv with rfl | hv
    · exact ⟨by decide, by decide⟩
    · exact getV_in b t _ _ q.1 q.2 hq v hv
theorem decV_in (b : List UInt8) (a t : Int) (h : (decV b a t).2.2 = 0) : InB (decV b a t).1 := by
  obtain ⟨_, _, _, _, h5, _⟩ := dec_can b a t h
  exact h5
theorem getR_in (b : List UInt8) (t : Int) (rows : Nat) : ∀ (f : Nat) (out : List Val) (a : Int) (L : List Val), (∀ v ∈ out, InB v) → out.length ≤ rows → getR b t rows f out a = some L → (∀ v ∈ L, InB v) ∧ L.length ≤ rows
  | 0, out, a, L, ho, hl, h => by
    rw [getR] at h
    split at h
    · exact absurd h (by simp)
    · simp at h; subst h; exact ⟨ho, hl⟩
  | f + 1, out, a, L, ho, hl, h => by
    rw [getR] at h
    cases d : decide (a < (b.length : Int)) with
    | false => rw [d] at h; simp at h; subst h; exact ⟨ho, hl⟩
    | true =>
      rw [d, cond_true] at h
      cases d2 : (!decide ((rU b a).2.2 = 0) || decide (rows - out.length < (rU b a).1)) with
      | true => rw [d2] at h; simp at h
      | false =>
        rw [d2, cond_false] at h
        cases d3 : decide ((decV b (rU b a).2.1 t).2.2 = 0) with
        | false => rw [d3] at h; simp at h
        | true =>
          rw [d3, cond_true] at h
          have hi := decV_in b (rU b a).2.1 t (by simpa using d3)
          refine getR_in b t rows f _ _ L ?_ ?_ h
          · intro v hv
            rcases List.mem_append.1 hv with hv | hv
            · exact ho v hv
            · rw [List.eq_of_mem_replicate hv]; exact hi
          · simp at d2 ⊢; omega
theorem getX_len (b : List UInt8) (D : List Val) : ∀ (k : Nat) (a : Int) (L : List Val), getX b D k a = some L → L.length = k
  | 0, _, L, h => by simp [getX] at h; subst h; rfl
  | k + 1, a, L, h => by
    rw [getX] at h
    cases hd : decide ((rU b a).2.2 = 0) with
    | false => rw [hd] at h; simp at h
    | true =>
      rw [hd, cond_true] at h
      cases hx : D[(rU b a).1]? with
      | none => rw [hx] at h; simp at h
      | some w =>
        rw [hx] at h
        obtain ⟨r, hr, e⟩ := Option.map_eq_some_iff.1 h
        subst e
        rw [List.length_cons, getX_len b D k _ r hr]
theorem valsD_len {b : List UInt8} {n : Nat} {t : Int} {L : List Val} (h : valsD b n t = some L) : L.length = n := by
  unfold valsD at h
  cases hd : (!decide ((rU b 0).2.2 = 0) || decide (n < (rU b 0).1)) with
  | true => rw [hd] at h; simp at h
  | false =>
    rw [hd, cond_false] at h
    obtain ⟨q, hq, hx⟩ := Option.bind_eq_some_iff.1 h
    exact getX_len b _ _ _ L hx
theorem parP_in {p : Pg} {t : Int} {L : List Val} (h : parP p t = some L) : (∀ v ∈ L, InB v) ∧ L.length ≤ p.rows.toNat := by
  unfold parP at h
  cases d1 : decide (p.kind = 1) with
  | true => rw [d1, cond_true] at h; exact ⟨valsP_in h, by rw [valsP_len h]; exact Nat.le_refl _⟩
  | false =>
  rw [d1, cond_false] at h
  cases d2 : decide (p.kind = 2) with
  | true => rw [d2, cond_true] at h; exact ⟨valsD_in h, by rw [valsD_len h]; exact Nat.le_refl _⟩
  | false =>
  rw [d2, cond_false] at h
  cases d3 : decide (p.kind = 3) with
  | true =>
    rw [d3, cond_true] at h
    obtain ⟨r, hr, e⟩ := Option.map_eq_some_iff.1 h
    subst e
    exact ⟨sumD_in r 0 (valsP_in hr), by rw [sumD_len, valsP_len hr]; exact Nat.le_refl _⟩
  | false =>
  rw [d3, cond_false] at h
  exact getR_in _ _ _ _ _ _ _ (by simp) (by simp) h
theorem ba_inj (a b : List UInt8) : decide ((⟨a.toArray⟩ : ByteArray) = ⟨b.toArray⟩) = decide (a = b) := by
  rw [Bool.eq_iff_iff, decide_eq_true_eq, decide_eq_true_eq]
  constructor
  · intro h
    have := congrArg (fun s : ByteArray => s.data.toList) h
    simpa using this
  · intro h; rw [h]
theorem bytes_Equal (a b : List UInt8) : Den prog 479 [.sl (a.map bcell), .sl (b.map bcell)] [] = some (.bool (decide (a = b)), []) := by
  rw [Den_ofK [] pr_bytes_Equal rfl]
  have h := ba_inj a b
  simp only [f_bytes_Equal, strOf_one, h, go_sem]
def D2 (r : List Val × Int) : AV := .tup [.sl (r.1.map Val.cells), .int .i64 r.2]
theorem page_Decode (p : Pg) (t : Int) (hb : p.b.length < 1000000000) : Den prog 485 [.agg p.cells, .int .i64 t] [] = some (D2 (decP p t), []) := by
  rw [Den_ofK [] pr_page_Decode rfl]
  have hch := page_check p.kind t
  have hin := fun L => @parP_in p t L
  unfold decP
  have hpar : ∀ n : Nat, p.rows = n → n ≤ 1024 → ∀ k, p.kind = k → parP p t = parP ⟨k, n, p.b⟩ t := by
    intro n hn _ k hk
    obtain ⟨a, b, c⟩ := p
    simp only [] at hn hk
    rw [hn, hk]
  obtain ⟨k, rows, b⟩ := p
  simp only [Pg.cells] at hb hch hin ⊢
  cases d0 : decide (chkP k t = 0) with
  | false => simp only [f_page_Decode, hch, d0, Bool.not_false, cond_true, D2, go_sem]
  | true =>
    simp only [Bool.not_true, cond_false]
    have c0 : chkP k t = 0 := by simpa using d0
    obtain ⟨hk, ht, h34⟩ := chk_zero c0
    have dc0 : decide ((0 : Int) = 0) = true := rfl
    rw [c0] at hch
    cases d1 : decide (rows < 0) with
    | true => simp only [f_page_Decode, hch, dc0, d1, Bool.true_or, cond_true, D2, go_sem]
    | false =>
    cases d2 : decide (1024 < rows) with
    | true => simp only [f_page_Decode, hch, dc0, d1, d2, Bool.or_true, cond_true, D2, go_sem]
    | false =>
      obtain ⟨n, hn⟩ := Int.eq_ofNat_of_zero_le (show 0 ≤ rows by simp at d1; omega)
      subst hn
      have hn : n ≤ 1024 := by simp at d2; omega
      simp only [Bool.or_self, cond_false]
      -- what the parts come to
      have hcd := page_coderOf k
      have hinv : ∃ T f, codV k = .iface T (.agg []) ∧ tlook [(77, 517), (78, 522), (79, 519), (80, 521)] T = some f ∧ Den prog f [.agg [], .sl (b.map bcell), .int .i64 n, .int .i64 t] [] = some (parR (parP ⟨k, n, b⟩ t), []) := by
        rcases hk with rfl | rfl | rfl | rfl
        · exact ⟨_, _, rfl, rfl, plain_parse b t n hb hn⟩
        · exact ⟨_, _, rfl, rfl, dict_parse b t n hb hn⟩
        · exact ⟨_, _, rfl, rfl, delta_parse b t n hb hn⟩
        · exact ⟨_, _, rfl, rfl, runs_parse b t n hb hn⟩
      obtain ⟨T, f, e1, e2, e3⟩ := hinv
      rw [e1] at hcd
      clear hpar hk
      cases hp : parP ⟨k, n, b⟩ t with
      | none =>
        rw [hp] at e3
        simp only [parR] at e3
        simp only [f_page_Decode, hch, dc0, d1, d2, hcd, e2, e3, D2, go_sem]
      | some L =>
        obtain ⟨hi, hLl⟩ := hin L hp
        rw [hp] at e3
        simp only [parR] at e3
        have hE := page_Encode L t k hi (by simp at hLl; omega)
        simp only []
        by_cases hl : L.length = n
        · have dl : decide ((L.length : Int) = (n : Int)) = true := by simp; omega
          generalize hr : encP L t k = r at *
          obtain ⟨⟨k2, r2, b2⟩, er⟩ := r
          simp only [P2, Pg.cells] at hE
          have hbe := bytes_Equal b2 b
          cases de : decide (er = 0) with
          | false => simp only [f_page_Decode, hch, dc0, d1, d2, hcd, e2, e3, dl, hE, de, Bool.false_and, cond_false, D2, go_sem]
          | true =>
            have hk2 : k2 = k ∧ r2 = L.length := by
              unfold encP at hr
              rw [d0, Bool.not_true, cond_false] at hr
              cases q1 : decide (1024 < L.length) with
              | true => rw [q1, cond_true] at hr; simp at hr de; omega
              | false =>
                rw [q1, cond_false] at hr
                cases q2 : okL L t with
                | false => rw [q2] at hr; simp at hr de; omega
                | true => rw [q2] at hr; simp at hr; exact ⟨hr.1.1.symm, hr.1.2.1.symm⟩
            obtain ⟨rfl, rfl⟩ := hk2
            have hs : samP ⟨k2, L.length, b2⟩ ⟨k2, n, b⟩ = decide (b2 = b) := by
              unfold samP
              simp [hl]
            rw [hs]
            cases db : decide (b2 = b) <;> rw [db] at hbe <;>
            simp only [f_page_Decode, hch, dc0, d1, d2, hcd, e2, e3, dl, hE, de, hbe, Bool.and_self, Bool.and_true, Bool.and_false, Bool.true_and, cond_true, cond_false, D2, go_sem]
        · have dl : decide ((L.length : Int) = (n : Int)) = false := by simp; omega
          have hs : (decide ((encP L t k).2 = 0) && samP (encP L t k).1 ⟨k, n, b⟩) = false := by
            rw [Bool.and_eq_false_iff]
            by_cases he : (encP L t k).2 = 0
            · right
              have hr2 : (encP L t k).1.rows = L.length := by
                unfold encP at he ⊢
                rw [d0, Bool.not_true, cond_false] at he ⊢
                cases q1 : decide (1024 < L.length) with
                | true => rw [q1] at he; simp at he
                | false =>
                  rw [q1, cond_false] at he
                  cases q2 : okL L t with
                  | false => rw [q2] at he; simp at he
                  | true => rfl
              unfold samP
              rw [hr2]
              have : decide ((L.length : Int) = (n : Int)) = false := dl
              simp only [this, Bool.false_and, Bool.and_false]
            · left; simpa using he
          rw [hs]
          simp only [f_page_Decode, hch, dc0, d1, d2, hcd, e2, e3, dl, cond_false, D2, go_sem]
end Go.Den
