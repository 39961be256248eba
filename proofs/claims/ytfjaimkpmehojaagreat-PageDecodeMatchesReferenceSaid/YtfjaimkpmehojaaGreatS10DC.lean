/- Ch. 10: the reference's Decode; PageDecodeMatchesReference. -/
import Derived.Test.YtfjaimkpmehojaaGreatS10DB
import Derived.Test.YtfjaimkpmehojaaGreatS10JA
import Derived.Test.YtfjaimkpmehojaaGreatSh10
import Derived.Test.YtfjaimkpmehojaaGreatS10N
namespace Go.Den
open Go Go.Proofs
set_option linter.unusedSimpArgs false
set_option linter.unusedVariables false
set_option maxRecDepth 100000
set_option maxHeartbeats 1000000
def accV (d : Bool) (last : Int) (L : List Val) : List Val := bif d then sumD last L else L
theorem accV_null (d : Bool) (last : Int) (L : List Val) : accV d last (nullV :: L) = nullV :: accV d last L := by
  cases d <;> rfl
theorem R10_parse_l0 (kd : Int) (b : List UInt8) (t : Int) (n : Nat) (a0 : Int) (hb : (n + 7) / 8 ≤ b.length) (hbl : b.length < 1000000000) (hn : n ≤ 1024) {K : Ex × Env × St → Option (AV × St)} {Z : Option (AV × St)} (R : Option (List Val))
    (hS : ∀ L, R = some L → ∀ (a' z : Int) (w : AV), K (.exit 1, [(1, .int .i64 t), (2, .rptr [.int .i64 kd, .int .i64 n, .sl (b.map bcell)]), (6, .int .i64 a'), (7, .int .i64 z), (8, .osl 0 0 L.length 0 L.length), (9, w), (10, .int .i64 n), (43, .bool false)], [.arr 0 3 (L.map Val.cells)]) = Z)
    (hN : R = none → ∀ τ, K (.ret, [(4, .nils), (5, .bool false)], τ) = Z) :
    ∀ (k i j : Nat) (done : List Val) (a z : Int), i + k = n → i = done.length → j = i % 8 → R = (getP b t k i a).map (fun L => done ++ accV (decide (kd = 3)) z L) →
    (Run prog 0 (.loop 1 [1, 2, 6, 7, 8, 9, 10] f_R10_parse_l0) [(1, .int .i64 t), (2, .rptr [.int .i64 kd, .int .i64 n, .sl (b.map bcell)]), (6, .int .i64 a), (7, .int .i64 z), (8, .osl 0 0 i 0 i), (9, .int .u8 ((2 ^ j : Nat) : Int)), (10, .int .i64 i)] [.arr 0 3 (done.map Val.cells)]).bind K = Z := by
  intro k
  induction k with
  | zero =>
    intro i j done a z h1 h2 h3 hR
    have hS := hS done (by rw [hR]; cases decide (kd = 3) <;> simp [getP, accV, sumD]) a z (.int .u8 ((2 ^ j : Nat) : Int))
    have e : n = i := by omega
    subst e
    have d : decide ((n : Int) < (n : Int)) = false := by simp
    rw [← h2] at hS
    clear hR hN h2
    rw [Run_loop]
    generalize 2 ^ j = P at *
    generalize done.map Val.cells = E at *
    simp only [f_R10_parse_l0_eq, f_R10_parse_l0u, d, hS, go_sem]
  | succ k ih =>
    intro i j done a z h1 h2 h3 hR
    rw [getP] at hR
    have d : decide ((i : Int) < (n : Int)) = true := by simp; omega
    have w1 : IntKind.wrap .i64 ((i : Int) + 1) = ((i + 1 : Nat) : Int) := by rw [wrap_i64 (by omega) (by omega)]; simp
    have wq : IntKind.wrap .i64 ((i : Int).tdiv 8) = ((i / 8 : Nat) : Int) := by rw [quo8, wrap_i64 (by omega) (by omega)]
    obtain ⟨c, hc⟩ : ∃ c, b[i / 8]? = some c := ⟨_, List.getElem?_eq_getElem (by omega)⟩
    have hgc : getE b ((i / 8 : Nat) : Int) = some c := by rw [getE_nat]; exact hc
    have hcl := c.toNat_lt
    have hPz : ((2 ^ j : Nat) : Int) ≠ 0 := by
      have := Nat.two_pow_pos j
      omega
    have wc : IntKind.wrap .u8 ((c.toNat : Int).tdiv ((2 ^ j : Nat) : Int)) = ((c.toNat / 2 ^ j : Nat) : Int) := by
      have e : (c.toNat : Int).tdiv ((2 ^ j : Nat) : Int) = ((c.toNat / 2 ^ j : Nat) : Int) := rfl
      have hle := Nat.div_le_self c.toNat (2 ^ j)
      rw [e]
      generalize c.toNat / 2 ^ j = y at *
      exact wrap_u8 (by omega) (by omega)
    have wr : ((c.toNat / 2 ^ j : Nat) : Int).tmod 2 = ((c.toNat / 2 ^ j % 2 : Nat) : Int) := rfl
    have q1 : decide ((((c.toNat / 2 ^ j % 2 : Nat)) : Int) = 1) = bitB b i := by
      have hbB : bitB b i = decide (c.toNat / 2 ^ (i % 8) % 2 = 1) := by unfold bitB; rw [hc]; rfl
      rw [hbB, h3, Bool.eq_iff_iff]; simp only [decide_eq_true_eq]; omega
    have hE : (done.map Val.cells).length = i := by simp [h2]
    have hb2 : (i + 1) * 32 ≤ 140737488355328 := by omega
    have hp8 := pow8 j (by omega)
    have e0 : decide ((0 : Int) = 0) = true := rfl
    have hcb : (b.map bcell)[i / 8]? = some (bcell c) := by rw [List.getElem?_map, hc]; rfl
    rw [Run_loop]
    cases hbt : bitB b i with
    | true =>
      rw [hbt, cond_true] at hR
      rw [hbt] at q1
      have ih := fun j' hj' => ih (i + 1) j' (done ++ [nullV]) a z (by omega) (by simp; omega) hj' (by
        rw [hR]
        cases getP b t k (i + 1) a <;> simp [accV_null])
      have hap : (done ++ [nullV]).map Val.cells = done.map Val.cells ++ [[AV.bool true, AV.int .i64 0, AV.str ⟨#[]⟩]] := by simp [Val.cells, nullV]
      rw [hap, show ((i + 1 : Nat) : Int) = (i : Int) + 1 by omega] at ih
      rcases hp8 with ⟨g1, g2⟩ | ⟨g1, g2, g3⟩
      · have ih := ih 0 (by omega)
        clear hS hN hR hap hc hcb
        generalize c.toNat / 2 ^ j % 2 = x at *
        generalize c.toNat / 2 ^ j = y at *
        generalize 2 ^ j = P at *
        generalize i / 8 = i8 at *
        generalize done.map Val.cells = E at *
        simp only [Nat.pow_zero, Int.natCast_one] at ih
        simp only [f_R10_parse_l0_eq, f_R10_parse_l0u, d, w1, wq, z8, z2, hPz, wc, wr, hgc, getE_bytes, bcell, q1, hE, hb2, g2, e0, ih, go_sem]
      · have ih := ih (j + 1) (by omega)
        clear hS hN hR hap hc hcb
        generalize c.toNat / 2 ^ j % 2 = x at *
        generalize c.toNat / 2 ^ j = y at *
        generalize 2 ^ (j + 1) = P' at *
        generalize 2 ^ j = P at *
        generalize i / 8 = i8 at *
        generalize done.map Val.cells = E at *
        simp only [f_R10_parse_l0_eq, f_R10_parse_l0u, d, w1, wq, z8, z2, hPz, wc, wr, hgc, getE_bytes, bcell, q1, hE, hb2, g2, g3, ih, go_sem]
    | false =>
      rw [hbt, cond_false] at hR
      rw [hbt] at q1
      have hr := R10_read b a t (by omega)
      have hnu : (readB b a t).1.null = false := by unfold readB; cases decide (t = 4) <;> rfl
      generalize readB b a t = r at *
      obtain ⟨⟨nu, m, s⟩, nx, e⟩ := r
      simp only [] at hnu
      subst hnu
      simp only [Val.cells] at hr hR
      cases de : decide (e = 0) with
      | false =>
        rw [de, cond_false, Option.map_none] at hR
        have hN := hN hR
        clear hS hR hc hcb ih
        generalize c.toNat / 2 ^ j % 2 = x at *
        generalize c.toNat / 2 ^ j = y at *
        generalize 2 ^ j = P at *
        generalize i / 8 = i8 at *
        generalize done.map Val.cells = E at *
        simp only [f_R10_parse_l0_eq, f_R10_parse_l0u, d, w1, wq, z8, z2, hPz, wc, wr, hgc, getE_bytes, bcell, q1, hr, de, hN, go_sem]
      | true =>
        rw [de, cond_true] at hR
        cases dk : decide (kd = 3) with
        | false =>
          rw [dk] at hR ih
          have ih := fun j' hj' => ih (i + 1) j' (done ++ [⟨false, m, s⟩]) nx z (by omega) (by simp; omega) hj' (by
            rw [hR]
            cases getP b t k (i + 1) nx <;> simp [accV])
          have hap : (done ++ [(⟨false, m, s⟩ : Val)]).map Val.cells = done.map Val.cells ++ [[AV.bool false, AV.int .i64 m, AV.str s]] := by simp [Val.cells]
          rw [hap, show ((i + 1 : Nat) : Int) = (i : Int) + 1 by omega] at ih
          rcases hp8 with ⟨g1, g2⟩ | ⟨g1, g2, g3⟩
          · have ih := ih 0 (by omega)
            clear hS hN hR hap hc hcb
            generalize c.toNat / 2 ^ j % 2 = x at *
            generalize c.toNat / 2 ^ j = y at *
            generalize 2 ^ j = P at *
            generalize i / 8 = i8 at *
            generalize done.map Val.cells = E at *
            simp only [Nat.pow_zero, Int.natCast_one] at ih
            simp only [f_R10_parse_l0_eq, f_R10_parse_l0u, d, w1, wq, z8, z2, hPz, wc, wr, hgc, getE_bytes, bcell, q1, hr, de, dk, hE, hb2, g2, e0, ih, go_sem]
          · have ih := ih (j + 1) (by omega)
            clear hS hN hR hap hc hcb
            generalize c.toNat / 2 ^ j % 2 = x at *
            generalize c.toNat / 2 ^ j = y at *
            generalize 2 ^ (j + 1) = P' at *
            generalize 2 ^ j = P at *
            generalize i / 8 = i8 at *
            generalize done.map Val.cells = E at *
            simp only [f_R10_parse_l0_eq, f_R10_parse_l0u, d, w1, wq, z8, z2, hPz, wc, wr, hgc, getE_bytes, bcell, q1, hr, de, dk, hE, hb2, g2, g3, ih, go_sem]
        | true =>
          rw [dk] at hR ih
          obtain ⟨u, hu⟩ : ∃ u, IntKind.wrap .i64 (z + m) = u := ⟨_, rfl⟩
          have ih := fun j' hj' => ih (i + 1) j' (done ++ [⟨false, u, s⟩]) nx u (by omega) (by simp; omega) hj' (by
            rw [hR]
            cases getP b t k (i + 1) nx <;> simp [accV, sumD, hu])
          have hap : (done ++ [(⟨false, u, s⟩ : Val)]).map Val.cells = done.map Val.cells ++ [[AV.bool false, AV.int .i64 u, AV.str s]] := by simp [Val.cells]
          rw [hap, show ((i + 1 : Nat) : Int) = (i : Int) + 1 by omega] at ih
          rcases hp8 with ⟨g1, g2⟩ | ⟨g1, g2, g3⟩
          · have ih := ih 0 (by omega)
            clear hS hN hR hap hc hcb
            generalize c.toNat / 2 ^ j % 2 = x at *
            generalize c.toNat / 2 ^ j = y at *
            generalize 2 ^ j = P at *
            generalize i / 8 = i8 at *
            generalize done.map Val.cells = E at *
            simp only [Nat.pow_zero, Int.natCast_one] at ih
            simp only [f_R10_parse_l0_eq, f_R10_parse_l0u, d, w1, wq, z8, z2, hPz, wc, wr, hgc, getE_bytes, bcell, q1, hr, de, dk, hu, hE, hb2, g2, e0, ih, go_sem]
          · have ih := ih (j + 1) (by omega)
            clear hS hN hR hap hc hcb
            generalize c.toNat / 2 ^ j % 2 = x at *
            generalize c.toNat / 2 ^ j = y at *
            generalize 2 ^ (j + 1) = P' at *
            generalize 2 ^ j = P at *
            generalize i / 8 = i8 at *
            generalize done.map Val.cells = E at *
            simp only [f_R10_parse_l0_eq, f_R10_parse_l0u, d, w1, wq, z8, z2, hPz, wc, wr, hgc, getE_bytes, bcell, q1, hr, de, dk, hu, hE, hb2, g2, g3, ih, go_sem]
theorem R10_parse (k : Int) (b : List UInt8) (t : Int) (n : Nat) (hbl : b.length < 1000000000) (hn : n ≤ 1024) (hk : k = 1 ∨ k = 2 ∨ k = 3 ∨ k = 4) : Den prog 553 [.agg [.int .i64 k, .int .i64 n, .sl (b.map bcell)], .int .i64 t] [] = some (parR (parP ⟨k, n, b⟩ t), []) := by
  rw [Den_ofK [] pr_R10_parse rfl]
  have w1 : IntKind.wrap .i64 ((n : Int) + 7) = (n : Int) + 7 := wrap_i64 (by omega) (by omega)
  obtain ⟨m, hm⟩ : ∃ m, (n + 7) / 8 = m := ⟨_, rfl⟩
  have w2 : IntKind.wrap .i64 (((n : Int) + 7).tdiv 8) = (m : Int) := by
    have : ((n : Int) + 7).tdiv 8 = (((n + 7) / 8 : Nat) : Int) := rfl
    rw [this, hm, wrap_i64 (by omega) (by omega)]
  have main : ∀ (q2 : decide (k = 2) = false) (q4 : decide (k = 4) = false), (parP ⟨k, n, b⟩ t = (valsP b n t).map (accV (decide (k = 3)) 0)) →
      (Run prog 0 f_R10_parse.body (initEnv 0 [.agg [.int .i64 k, .int .i64 n, .sl (b.map bcell)], .int .i64 t]) []).bind (leaveR f_R10_parse.own f_R10_parse.results 0) = some (parR (parP ⟨k, n, b⟩ t), []) := by
    intro q2 q4 hp
    rw [hp]
    unfold valsP
    rw [hm]
    cases d : decide (b.length < m) with
    | true =>
      have d' : decide ((b.length : Int) < (m : Int)) = true := by simp at d ⊢; omega
      simp only [f_R10_parse, q2, q4, w1, w2, z8, d', cond_true, Option.map_none, parR, go_sem]
    | false =>
      have d' : decide ((b.length : Int) < (m : Int)) = false := by simp at d ⊢; omega
      have hl0 := fun K Z R hS hN => R10_parse_l0 k b t n (m : Int) (by simp at d; omega) hbl hn (K := K) (Z := Z) R hS hN n 0 0 [] (m : Int) 0 (by omega) rfl rfl
      simp only [List.map_nil, List.nil_append, Nat.pow_zero, Int.natCast_one, Int.natCast_zero] at hl0
      simp only [cond_false]
      simp only [f_R10_parse, q2, q4, w1, w2, z8, d', go_sem]
      refine hl0 _ _ _ ?_ ?_ rfl
      · intro L hL a' z w
        have hL' : Option.map (accV (decide (k = 3)) 0) (getP b t n 0 (m : Int)) = some L := hL
        rw [hL']
        simp only [parR, go_sem]
      · intro hL τ
        have hL' : Option.map (accV (decide (k = 3)) 0) (getP b t n 0 (m : Int)) = none := hL
        rw [hL']
        simp only [parR, go_sem]
  rcases hk with rfl | rfl | rfl | rfl
  · refine main rfl rfl ?_
    show valsP b n t = _
    cases valsP b n t <;> rfl
  · have q2 : decide ((2 : Int) = 2) = true := rfl
    have h := R10_parseDict 2 b t n hbl hn
    have e : parP ⟨2, n, b⟩ t = valsD b n t := rfl
    rw [e]
    cases hv : valsD b n t with
    | none =>
      rw [hv] at h
      simp only [parR] at h ⊢
      simp only [f_R10_parse, q2, h, go_sem]
    | some L =>
      rw [hv] at h
      simp only [parR] at h ⊢
      simp only [f_R10_parse, q2, h, go_sem]
  · refine main rfl rfl ?_
    show (valsP b n t).map (sumD 0) = _
    cases valsP b n t <;> rfl
  · have q2 : decide ((4 : Int) = 2) = false := rfl
    have q4 : decide ((4 : Int) = 4) = true := rfl
    have h := R10_parseRuns 4 b t n hbl hn
    have e : parP ⟨4, n, b⟩ t = getR b t n b.length [] 0 := rfl
    rw [e]
    cases hv : getR b t n b.length [] 0 with
    | none =>
      rw [hv] at h
      simp only [parR] at h ⊢
      simp only [f_R10_parse, q2, q4, h, go_sem]
    | some L =>
      rw [hv] at h
      simp only [parR] at h ⊢
      simp only [f_R10_parse, q2, q4, h, go_sem]
theorem R10_Decode (p : Pg) (t : Int) (hb : p.b.length < 1000000000) : Den prog 554 [.agg p.cells, .int .i64 t] [] = some (D2 (decP p t), []) := by
  rw [Den_ofK [] pr_R10_Decode rfl]
  have hN := R10_numbers t p.kind
  have hin := fun L => @parP_in p t L
  have hEl := fun L (h : ∀ v ∈ L, InB v) => encP_len L t p.kind h
  unfold decP
  obtain ⟨k, rows, b⟩ := p
  simp only [Pg.cells] at hb hN hin hEl ⊢
  have ek : kindOk k = !(decide (k < 1) || decide (4 < k)) := by
    unfold kindOk; rw [Bool.eq_iff_iff]; simp
  have e1 : decide ((1 : Int) = 0) = false := rfl
  have e7 : decide ((7 : Int) = 0) = false := rfl
  have e0 : decide ((0 : Int) = 0) = true := rfl
  cases d1 : decide (k < 1) with
  | true =>
    have hc : chkP k t = 1 := by unfold chkP; rw [ek, d1]; rfl
    rw [hc]
    simp only [f_R10_Decode, d1, e1, Bool.not_false, cond_true, D2, go_sem]
  | false =>
  cases d2 : decide (4 < k) with
  | true =>
    have hc : chkP k t = 1 := by unfold chkP; rw [ek, d1, d2]; rfl
    rw [hc]
    simp only [f_R10_Decode, d1, d2, e1, Bool.not_false, cond_true, D2, go_sem]
  | false =>
  have hkk : kindOk k = true := by rw [ek, d1, d2]; rfl
  cases d3 : (typeOk t && !(decide (k = 3) && decide (t = 4))) with
  | false =>
    rw [d3] at hN
    have hc : chkP k t = 7 := by
      unfold chkP; rw [hkk]
      cases a : typeOk t <;> cases b : (decide (k = 3) && decide (t = 4)) <;> rw [a, b] at d3 <;> first | (exact absurd d3 (by decide)) | rfl
    rw [hc]
    simp only [f_R10_Decode, d1, d2, hN, e7, Bool.not_false, cond_true, D2, go_sem]
  | true =>
  rw [d3] at hN
  have hc : chkP k t = 0 := by
    unfold chkP; rw [hkk]
    cases a : typeOk t <;> cases b : (decide (k = 3) && decide (t = 4)) <;> rw [a, b] at d3 <;> first | (exact absurd d3 (by decide)) | rfl
  obtain ⟨hk, ht, h34⟩ := chk_zero hc
  rw [hc]
  simp only [e0, Bool.not_true, cond_false]
  cases d4 : decide (rows < 0) with
  | true => simp only [f_R10_Decode, d1, d2, hN, d4, Bool.true_or, cond_true, cond_false, D2, go_sem]
  | false =>
  cases d5 : decide (1024 < rows) with
  | true => simp only [f_R10_Decode, d1, d2, hN, d4, d5, Bool.or_true, cond_true, cond_false, D2, go_sem]
  | false =>
  obtain ⟨n, hn⟩ := Int.eq_ofNat_of_zero_le (show 0 ≤ rows by simp at d4; omega)
  subst hn
  have hn : n ≤ 1024 := by simp at d5; omega
  simp only [Bool.or_self, cond_false]
  have hP := R10_parse k b t n hb hn hk
  cases hp : parP ⟨k, n, b⟩ t with
  | none =>
    rw [hp] at hP
    simp only [parR] at hP
    simp only [f_R10_Decode, d1, d2, hN, d4, d5, hP, cond_false, D2, go_sem]
  | some L =>
    obtain ⟨hi, hLl⟩ := hin L hp
    rw [hp] at hP
    simp only [parR] at hP
    have hE := R10_Encode L t k hi (by simp at hLl; omega)
    have hel := hEl L hi
    simp only []
    generalize encP L t k = r at *
    obtain ⟨q, er⟩ := r
    simp only [P2] at hE hel ⊢
    have hS := R10_Same q ⟨k, n, b⟩ (by omega) (by simp only []; omega)
    unfold Pg.cells at hE hS
    cases de : decide (er = 0) with
    | false => simp only [f_R10_Decode, d1, d2, hN, d4, d5, hP, hE, de, Bool.false_and, cond_false, D2, go_sem]
    | true =>
      cases ds : samP q ⟨k, n, b⟩ <;> rw [ds] at hS <;>
      simp only [f_R10_Decode, d1, d2, hN, d4, d5, hP, hE, hS, de, Bool.true_and, cond_true, cond_false, D2, go_sem]
theorem decP_len (p : Pg) (t : Int) : (decP p t).1.length ≤ 1024 := by
  unfold decP
  cases decide (chkP p.kind t = 0) with
  | false => simp
  | true =>
    cases d1 : decide (p.rows < 0) <;> cases d2 : decide (1024 < p.rows) <;> simp only [Bool.not_true, cond_false, cond_true, Bool.or_true, Bool.true_or, Bool.or_self] <;> first | (simp; done) | skip
    cases hp : parP p t with
    | none => simp
    | some L =>
      have := (parP_in hp).2
      simp only []
      simp at d2
      cases (decide ((encP L t p.kind).2 = 0) && samP (encP L t p.kind).1 p) with
      | false => simp
      | true => simp only [cond_true]; omega
theorem L10_Decode (p : Pg) (t : Int) (hp : p.b.length ≤ 140737488351232) : Den prog 556 [.agg p.cells, .int .i64 t] [] = some (.bool true, []) := by
  rw [Den_ofK [] pr_L10_PageDecodeMatchesReference rfl]
  cases ds : decide (20000 < (p.b.length : Int)) with
  | true => simp only [f_L10_PageDecodeMatchesReference, Pg.cells, ds, go_sem]
  | false =>
    have hb : p.b.length ≤ 20000 := by simp at ds; omega
    have hD := page_Decode p t (by omega)
    have hR := R10_Decode p t (by omega)
    have hl := decP_len p t
    generalize decP p t = D at *
    obtain ⟨L, e⟩ := D
    simp only [] at hl
    have hS := R10_SameValues L L (by omega) (by omega)
    rw [decide_eq_true rfl] at hS
    have he : decide (e = e) = true := decide_eq_true rfl
    unfold D2 Pg.cells at hD hR
    simp only [] at hD hR
    simp only [f_L10_PageDecodeMatchesReference, Pg.cells, ds, hD, hR, hS, he, go_sem]
theorem row_DM (xs : List AV) (h : Args Tryz.prog [29, 3] xs) : Den prog 556 xs [] = some (.bool true, []) := by
  obtain ⟨n, x, ys, rfl, h1, h⟩ := h.one
  obtain ⟨n2, x2, ys2, rfl, h2, h⟩ := h.one
  cases h.none
  obtain ⟨p, rfl, _, _, hp⟩ := sh_page h1
  obtain ⟨t, rfl, _⟩ := sh_int h2
  simp only [avOf, Tryz.underlying29, Tryz.underlying3]
  exact L10_Decode p t hp
end Go.Den
