/- Package page: values read. -/
import Derived.Test.YtfjaimkpmehojaaGreatS10U
namespace Go.Den
open Go
set_option linter.unusedSimpArgs false
set_option linter.unusedVariables false
set_option maxRecDepth 100000
set_option maxHeartbeats 1000000
theorem page_read (b : List UInt8) (a t : Int) (hb : b.length < 10000000000) : Den prog 510 [.sl (b.map bcell), .int .i64 a, .int .i64 t] [] = some (.tup [.agg (readB b a t).1.cells, .int .i64 (readB b a t).2.1, .bool (decide ((readB b a t).2.2 = 0))], []) := by
  rw [Den_ofK [] pr_page_read rfl]
  unfold readB
  cases d : decide (t = 4) with
  | true =>
    have h := wire_ReadText b a (by omega)
    simp only [cond_true]
    generalize rT b a = r at *
    obtain ⟨s, nx, e⟩ := r
    simp only [Val.cells, ba] at h ⊢
    simp only [f_page_read, d, h, go_sem]
  | false =>
    have h := wire_ReadS b a (by omega)
    simp only [cond_false]
    generalize rS b a = r at *
    obtain ⟨s, nx, e⟩ := r
    simp only [Val.cells] at h ⊢
    simp only [f_page_read, d, h, go_sem]
theorem and1_u8_all : ∀ m : Fin 256, andI .u8 (m.val : Int) 1 = ((m.val % 2 : Nat) : Int) := by decide +kernel
theorem bit_run (c : UInt8) (j : Nat) (h : j < 8) : andI .u8 (shrI .u8 (c.toNat : Int) (j : Int)) 1 = ((c.toNat / 2 ^ j % 2 : Nat) : Int) := by
  rw [shr_nat .u8 c.toNat j (by show j ≤ 8; omega)]
  have hc := c.toNat_lt
  have : c.toNat / 2 ^ j ≤ c.toNat := Nat.div_le_self _ _
  exact and1_u8_all ⟨c.toNat / 2 ^ j, by omega⟩
theorem values_l0 (b : List UInt8) (t : Int) (n : Nat) (a0 : Int) (hb : (n + 7) / 8 ≤ b.length) (hbl : b.length < 1000000000) (hn : n ≤ 1024) {K : Ex × Env × St → Option (AV × St)} {Z : Option (AV × St)}
    (hS : ∀ L, getP b t n 0 a0 = some L → L.length = n → ∀ a' : Int, K (.exit 0, [(1, .sl (b.map bcell)), (3, .int .i64 t), (10, .int .i64 a'), (11, .osl 0 0 n 0 n), (26, .int .i64 n), (27, .int .i64 n), (28, .bool false)], [.arr 0 3 (L.map Val.cells)]) = Z)
    (hN : getP b t n 0 a0 = none → ∀ E o, K (.ret, [(8, .nils), (9, .bool false)], [.arr 0 3 E, o]) = Z) :
    ∀ (k : Nat) (done : List Val) (a : Int), done.length + k = n → getP b t n 0 a0 = (getP b t k done.length a).map (done ++ ·) →
    (Run prog 0 (.loop 1 [1, 3, 10, 11, 26, 27] f_page_masked_values_l0) [(1, .sl (b.map bcell)), (3, .int .i64 t), (10, .int .i64 a), (11, .osl 0 0 n 0 n), (26, .int .i64 n), (27, .int .i64 done.length)] [.arr 0 3 ((done ++ List.replicate k noVz).map Val.cells)]).bind K = Z := by
  intro k
  induction k with
  | zero =>
    intro done a h1 h2
    have hS := hS done (by rw [h2]; simp [getP]) (by omega) a
    have e : done.length = n := by omega
    have d : decide ((n : Int) < (n : Int)) = false := by simp
    rw [e]
    clear h1 h2 hN
    rw [List.replicate_zero, List.append_nil, Run_loop]
    generalize done.map Val.cells = E at *
    simp only [f_page_masked_values_l0_eq, f_page_masked_values_l0u, d, hS, go_sem]
  | succ k ih =>
    intro done a h1 h2
    rw [getP] at h2
    obtain ⟨i, hi⟩ : ∃ i, i = done.length := ⟨_, rfl⟩
    have hiI : (i : Int) < (n : Int) := by omega
    have d : decide ((i : Int) < (n : Int)) = true := by simp; omega
    have w1 : IntKind.wrap .i64 ((i : Int) + 1) = ((i + 1 : Nat) : Int) := by rw [wrap_i64 (by omega) (by omega)]; simp
    have wq : IntKind.wrap .i64 ((i : Int).tdiv 8) = ((i / 8 : Nat) : Int) := by rw [quo8, wrap_i64 (by omega) (by omega)]
    have rm := rem8 i
    obtain ⟨c, hc⟩ : ∃ c, b[i / 8]? = some c := ⟨_, List.getElem?_eq_getElem (by omega)⟩
    have hgc : getE b ((i / 8 : Nat) : Int) = some c := by rw [getE_nat]; exact hc
    have hbit := bit_run c (i % 8) (by omega)
    have hbB : bitB b i = decide (c.toNat / 2 ^ (i % 8) % 2 = 1) := by unfold bitB; rw [hc]; rfl
    have q1 : decide ((((c.toNat / 2 ^ (i % 8) % 2 : Nat)) : Int) = 1) = bitB b i := by
      rw [hbB, Bool.eq_iff_iff]; simp only [decide_eq_true_eq]; omega
    have hE : ((done ++ List.replicate (k + 1) noVz).map Val.cells).length = n := by simp; omega
    have hset : ∀ v : Val, ((done ++ List.replicate (k + 1) noVz).map Val.cells).set i v.cells = ((done ++ [v]) ++ List.replicate k noVz).map Val.cells := by
      intro v
      have : i = (done.map Val.cells).length := by simp [hi]
      rw [List.map_append, this, List.set_append_right _ _ (Nat.le_refl _), Nat.sub_self, List.replicate_succ, List.map_cons, List.set_cons_zero]
      simp
    have hget : ((done ++ List.replicate (k + 1) noVz).map Val.cells)[i]? = some [.bool false, .int .i64 0, .str ⟨#[]⟩] := by
      rw [List.getElem?_map, List.getElem?_append_right (by omega), show i - done.length = 0 by omega, List.replicate_succ]; rfl
    rw [← hi] at h2 ⊢
    rw [Run_loop]
    cases hbt : bitB b i with
    | true =>
      rw [hbt, cond_true] at h2
      have ih := ih (done ++ [nullV]) a (by simp; omega) (by
        rw [h2, List.length_append, List.length_singleton, ← hi]
        cases getP b t k (i + 1) a <;> simp)
      rw [hbt] at q1
      have hsn := hset nullV
      have el : (done ++ [nullV]).length = i + 1 := by simp [hi]
      rw [el] at ih
      clear hS hN h2 hset hbB hc h1
      generalize c.toNat / 2 ^ (i % 8) % 2 = x at *
      generalize i / 8 = i8 at *
      generalize i % 8 = j8 at *
      generalize (done ++ List.replicate (k + 1) noVz).map Val.cells = E at *
      generalize ((done ++ [nullV]) ++ List.replicate k noVz).map Val.cells = E2 at *
      simp only [Val.cells, nullV] at hsn
      simp only [go_sem] at ih
      simp only [f_page_masked_values_l0_eq, f_page_masked_values_l0u, d, w1, wq, rm, z8, hgc, getE_bytes, bcell, hbit, q1, hget, hsn, hE, hiI, ih, go_sem]
    | false =>
      rw [hbt, cond_false] at h2
      rw [hbt] at q1
      have hr := page_read b a t (by omega)
      generalize readB b a t = r at *
      obtain ⟨⟨nu, m, s⟩, nx, e⟩ := r
      simp only [Val.cells] at hr h2
      cases de : decide (e = 0) with
      | true =>
        rw [de, cond_true] at h2
        have ih := ih (done ++ [⟨nu, m, s⟩]) nx (by simp; omega) (by
          rw [h2, List.length_append, List.length_singleton, ← hi]
          cases getP b t k (i + 1) nx <;> simp)
        have hsn := hset ⟨nu, m, s⟩
        have el : (done ++ [(⟨nu, m, s⟩ : Val)]).length = i + 1 := by simp [hi]
        rw [el] at ih
        rw [de] at hr
        clear hS hN h2 hset hbB hc h1
        generalize c.toNat / 2 ^ (i % 8) % 2 = x at *
        generalize i / 8 = i8 at *
        generalize i % 8 = j8 at *
        generalize (done ++ List.replicate (k + 1) noVz).map Val.cells = E at *
        generalize ((done ++ [(⟨nu, m, s⟩ : Val)]) ++ List.replicate k noVz).map Val.cells = E2 at *
        simp only [Val.cells] at hsn
        simp only [go_sem] at ih
        simp only [f_page_masked_values_l0_eq, f_page_masked_values_l0u, d, w1, wq, rm, z8, hgc, getE_bytes, bcell, hbit, q1, hget, hsn, hE, hiI, hr, ih, go_sem]
      | false =>
        rw [de, cond_false, Option.map_none] at h2
        have hN := hN h2
        rw [de] at hr
        clear hS h2 hset hbB hc h1 ih
        generalize c.toNat / 2 ^ (i % 8) % 2 = x at *
        generalize i / 8 = i8 at *
        generalize i % 8 = j8 at *
        generalize (done ++ List.replicate (k + 1) noVz).map Val.cells = E at *
        simp only [f_page_masked_values_l0_eq, f_page_masked_values_l0u, d, w1, wq, rm, z8, hgc, getE_bytes, bcell, hbit, q1, hE, hiI, hr, hN, go_sem]
theorem fin_keepB (σ : St) (o ver n off len : Nat) (x : Bool) : fin .keep 0 (.tup [.osl o ver n off len, .bool x]) σ = finK (fun q => .tup [.osl q ver n off len, .bool x]) σ[o]? := by
  have h : (oslIn (.tup [.osl o ver n off len, .bool x])).filter (fun o => decide (0 ≤ o)) = [o] := by simp [oslIn, oslIn.oslIns]
  simp only [fin, h, keepO, arrsOf]
  rw [if_pos (by simp : [o].Nodup)]
  cases hx : σ[o]? with
  | none => rfl
  | some x => cases x <;> simp [finK, renD, frzDs, frzD.frzDs, AV.noref]
theorem fin_keepN (σ : St) (x : Bool) : fin .keep 0 (.tup [.nils, .bool x]) σ = some (.tup [.nils, .bool x], []) := by
  simp [fin, keepO, arrsOf, renD, oslIn, oslIn.oslIns, frzDs, frzD.frzDs, AV.noref]
theorem shift_bool (k : Nat) (x : Bool) : (AV.bool x).shift k = .bool x := (rfl)
theorem shift_nils (k : Nat) : AV.nils.shift k = .nils := (rfl)
theorem shift_str (k : Nat) (x : ByteArray) : (AV.str x).shift k = .str x := (rfl)
theorem shift_sl (k : Nat) (es : List (List AV)) : (AV.sl es).shift k = .sl es := (rfl)
attribute [go_sem] fin_keepB fin_keepN shift_bool shift_nils shift_str shift_sl
def valR (n : Nat) : Option (List Val) → AV × St
  | none => (.tup [.nils, .bool false], [])
  | some L => (.tup [.osl 0 0 n 0 n, .bool true], [.arr 0 3 (L.map Val.cells)])
theorem getP_len (b : List UInt8) (t : Int) : ∀ (k i : Nat) (a : Int) (L : List Val), getP b t k i a = some L → L.length = k
  | 0, _, _, L, h => by simp [getP] at h; subst h; rfl
  | k + 1, i, a, L, h => by
    rw [getP] at h
    cases hb : bitB b i with
    | true =>
      rw [hb, cond_true] at h
      obtain ⟨r, hr, e⟩ := Option.map_eq_some_iff.1 h
      subst e
      rw [List.length_cons, getP_len b t k _ _ r hr]
    | false =>
      rw [hb, cond_false] at h
      cases hd : decide ((readB b a t).2.2 = 0) with
      | false => rw [hd] at h; simp at h
      | true =>
        rw [hd, cond_true] at h
        obtain ⟨r, hr, e⟩ := Option.map_eq_some_iff.1 h
        subst e
        rw [List.length_cons, getP_len b t k _ _ r hr]
theorem valsP_len {b : List UInt8} {n : Nat} {t : Int} {L : List Val} (h : valsP b n t = some L) : L.length = n := by
  unfold valsP at h
  cases hd : decide (b.length < (n + 7) / 8) with
  | true => rw [hd] at h; simp at h
  | false => rw [hd] at h; exact getP_len _ _ _ _ _ _ h
theorem masked_values (b : List UInt8) (t : Int) (n : Nat) (hbl : b.length < 1000000000) (hn : n ≤ 1024) : Den prog 511 [.agg [], .sl (b.map bcell), .int .i64 n, .int .i64 t] [] = some (valR n (valsP b n t)) := by
  rw [Den_ofK [] pr_page_masked_values rfl]
  obtain ⟨m, hm⟩ : ∃ m, m = (n + 7) / 8 := ⟨_, rfl⟩
  have w1 : IntKind.wrap .i64 ((n : Int) + 7) = (n : Int) + 7 := wrap_i64 (by omega) (by omega)
  have w2 : IntKind.wrap .i64 (((n : Int) + 7).tdiv 8) = (m : Int) := by
    have : ((n : Int) + 7).tdiv 8 = (((n + 7) / 8 : Nat) : Int) := rfl
    rw [this, ← hm, wrap_i64 (by omega) (by omega)]
  unfold valsP
  rw [← hm]
  cases d : decide (b.length < m) with
  | true =>
    have d' : decide ((b.length : Int) < (m : Int)) = true := by simp at d ⊢; omega
    simp only [f_page_masked_values, w1, w2, z8, d', cond_true, valR, go_sem]
  | false =>
    have d' : decide ((b.length : Int) < (m : Int)) = false := by simp at d ⊢; omega
    have hml : (n + 7) / 8 ≤ b.length := by simp at d; omega
    have h2 : (n : Int) * 32 ≤ 140737488355328 := by omega
    have hl := fun K Z hS hN => values_l0 b t n (m : Int) hml hbl hn (K := K) (Z := Z) hS hN n [] (m : Int) (by simp) (by simp)
    rw [cond_false]
    have e : (([] : List Val) ++ List.replicate n noVz).map Val.cells = List.replicate n [AV.bool false, AV.int .i64 0, AV.str ⟨#[]⟩] := by simp [Val.cells, noVz]
    rw [e] at hl
    simp only [f_page_masked_values, w1, w2, z8, d', h2, List.length_replicate, go_sem]
    refine hl _ _ ?_ ?_
    · intro L hL hLl a'
      rw [hL]
      simp only [valR, go_sem]
    · intro hL E o
      rw [hL]
      simp only [valR, go_sem]
def parR : Option (List Val) → AV
  | none => .tup [.sl [], .bool false]
  | some L => .tup [.sl (L.map Val.cells), .bool true]
theorem plain_parse (b : List UInt8) (t : Int) (n : Nat) (hbl : b.length < 1000000000) (hn : n ≤ 1024) : Den prog 517 [.agg [], .sl (b.map bcell), .int .i64 n, .int .i64 t] [] = some (parR (valsP b n t), []) := by
  rw [Den_ofK [] pr_page_plain_parse rfl]
  have h := masked_values b t n hbl hn
  cases hv : valsP b n t with
  | none =>
    rw [hv] at h
    simp only [valR] at h
    simp only [f_page_plain_parse, h, parR, go_sem]
  | some L =>
    have hl := valsP_len hv
    rw [hv] at h
    simp only [valR] at h
    simp only [f_page_plain_parse, h, hl, parR, go_sem]
theorem delta_l0 (n : Nat) (t : Int) (L : List Val) (hL : L.length = n) (hn : n ≤ 1024) {K : Ex × Env × St → Option (AV × St)} {Z : Option (AV × St)}
    (hK : ∀ x : Int, K (.exit 0, [(10, .osl 0 0 n 0 n), (11, .bool true), (12, .int .i64 x), (24, .int .i64 n), (25, .int .i64 n), (26, .bool false)], [.arr 0 3 ((sumD 0 L).map Val.cells)]) = Z) :
    ∀ (rest done : List Val) (x : Int), done.length + rest.length = n → done ++ sumD x rest = sumD 0 L →
    (Run prog 0 (.loop 1 [10, 11, 12, 24, 25] f_page_delta_parse_l0) [(10, .osl 0 0 n 0 n), (11, .bool true), (12, .int .i64 x), (24, .int .i64 n), (25, .int .i64 done.length)] [.arr 0 3 ((done ++ rest).map Val.cells)]).bind K = Z := by
  intro rest
  induction rest with
  | nil =>
    intro done x h1 h2
    rw [sumD, List.append_nil] at h2
    have hK := hK x
    rw [← h2] at hK
    have e : done.length = n := by simp at h1; omega
    have d : decide ((n : Int) < (n : Int)) = false := by simp
    rw [e]
    clear h1 h2
    rw [List.append_nil, Run_loop]
    generalize done.map Val.cells = E at *
    simp only [f_page_delta_parse_l0_eq, f_page_delta_parse_l0u, d, hK, go_sem]
  | cons v rest ih =>
    intro done x h1 h2
    simp only [List.length_cons] at h1
    rw [sumD] at h2
    obtain ⟨i, hi⟩ : ∃ i, i = done.length := ⟨_, rfl⟩
    have hiI : (i : Int) < (n : Int) := by omega
    have d : decide ((i : Int) < (n : Int)) = true := by simp; omega
    have w1 : IntKind.wrap .i64 ((i : Int) + 1) = ((i + 1 : Nat) : Int) := by rw [wrap_i64 (by omega) (by omega)]; simp
    have hE : ((done ++ v :: rest).map Val.cells).length = n := by simp; omega
    have hget : ((done ++ v :: rest).map Val.cells)[i]? = some [.bool v.null, .int .i64 v.n, .str v.s] := by
      rw [List.getElem?_map, List.getElem?_append_right (by omega), show i - done.length = 0 by omega]; rfl
    have hset : ∀ u : Val, ((done ++ v :: rest).map Val.cells).set i u.cells = ((done ++ [u]) ++ rest).map Val.cells := by
      intro u
      have : i = (done.map Val.cells).length := by simp [hi]
      rw [List.map_append, this, List.set_append_right _ _ (Nat.le_refl _), Nat.sub_self, List.map_cons, List.set_cons_zero]
      simp
    rw [← hi]
    rw [Run_loop]
    obtain ⟨nu, m, s⟩ := v
    simp only [] at hget h2
    cases nu with
    | true =>
      rw [cond_true] at h2
      have ih := ih (done ++ [⟨true, m, s⟩]) x (by simp; omega) (by rw [← h2]; simp)
      have el : (done ++ [(⟨true, m, s⟩ : Val)]).length = i + 1 := by simp [hi]
      rw [el, show done ++ [(⟨true, m, s⟩ : Val)] ++ rest = done ++ ⟨true, m, s⟩ :: rest by simp] at ih
      clear hK h2 hset h1
      generalize (done ++ (⟨true, m, s⟩ : Val) :: rest).map Val.cells = E at *
      simp only [go_sem] at ih
      simp only [f_page_delta_parse_l0_eq, f_page_delta_parse_l0u, d, w1, hget, hE, hiI, ih, go_sem]
    | false =>
      rw [cond_false] at h2
      obtain ⟨y, hy⟩ : ∃ y, IntKind.wrap .i64 (x + m) = y := ⟨_, rfl⟩
      have hy2 : IntKind.wrap .i64 (m + x) = y := by rw [Int.add_comm]; exact hy
      rw [hy] at h2
      have ih := ih (done ++ [⟨false, y, s⟩]) y (by simp; omega) (by rw [← h2]; simp)
      have hsn := hset ⟨false, y, s⟩
      have el : (done ++ [(⟨false, y, s⟩ : Val)]).length = i + 1 := by simp [hi]
      rw [el] at ih
      have hE2 : (((done ++ [(⟨false, y, s⟩ : Val)]) ++ rest).map Val.cells).length = n := by simp; omega
      have hget2 : (((done ++ [(⟨false, y, s⟩ : Val)]) ++ rest).map Val.cells)[i]? = some [.bool false, .int .i64 y, .str s] := by
        rw [List.append_assoc, List.getElem?_map, List.getElem?_append_right (by omega), show i - done.length = 0 by omega]; rfl
      clear hK h2 hset h1
      generalize (done ++ (⟨false, m, s⟩ : Val) :: rest).map Val.cells = E at *
      generalize ((done ++ [(⟨false, y, s⟩ : Val)]) ++ rest).map Val.cells = E2 at *
      simp only [Val.cells] at hsn
      simp only [go_sem] at ih
      simp only [f_page_delta_parse_l0_eq, f_page_delta_parse_l0u, d, w1, hget, hget2, hsn, hE, hE2, hiI, hy2, ih, go_sem]
theorem sumD_len : ∀ (l : List Val) (x : Int), (sumD x l).length = l.length
  | [], _ => rfl
  | v :: r, x => by
    rw [sumD]
    cases v.null with
    | true => simp only [cond_true, List.length_cons, sumD_len r]
    | false => simp only [cond_false, List.length_cons, sumD_len r]
theorem delta_parse (b : List UInt8) (t : Int) (n : Nat) (hbl : b.length < 1000000000) (hn : n ≤ 1024) : Den prog 519 [.agg [], .sl (b.map bcell), .int .i64 n, .int .i64 t] [] = some (parR ((valsP b n t).map (sumD 0)), []) := by
  rw [Den_ofK [] pr_page_delta_parse rfl]
  have h := masked_values b t n hbl hn
  cases hv : valsP b n t with
  | none =>
    rw [hv] at h
    simp only [valR] at h
    simp only [f_page_delta_parse, h, parR, go_sem]
    rw [Run_loop]
    simp only [f_page_delta_parse_l0_eq, f_page_delta_parse_l0u, Option.map_none, parR, go_sem]
  | some L =>
    have hl := valsP_len hv
    rw [hv] at h
    simp only [valR] at h
    have k0 := fun K Z hK => delta_l0 n t L hl hn (K := K) (Z := Z) hK L [] 0 (by simpa using hl) rfl
    have hsl : (sumD 0 L).length = n := by rw [sumD_len, hl]
    simp only [List.nil_append, List.length_nil] at k0
    simp only [f_page_delta_parse, h, hl, go_sem]
    refine k0 _ _ ?_
    intro x
    simp only [hsl, Option.map_some, parR, go_sem]
end Go.Den
