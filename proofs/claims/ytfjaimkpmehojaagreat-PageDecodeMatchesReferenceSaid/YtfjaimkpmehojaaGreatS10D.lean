/- Ch. 10, plain: what a page holds is read back. -/
import Derived.Test.YtfjaimkpmehojaaGreatS10C
namespace Go.Den
open Go
set_option linter.unusedSimpArgs false
set_option linter.unusedVariables false
set_option maxRecDepth 100000
set_option maxHeartbeats 1000000
theorem okL_mem {l : List Val} {t : Int} (h : okL l t = true) : ∀ v ∈ l, okV v t = true := by
  intro v hv
  exact List.all_eq_true.1 h v hv
theorem bitB_mask (l : List Val) (rest : List UInt8) (i : Nat) (v : Val) (h : l[i]? = some v) : bitB (maskOf l ++ rest) i = v.null := by
  obtain ⟨c, h1, h2⟩ := maskB_bit (l.map (·.null)) i v.null (by rw [List.getElem?_map, h]; rfl)
  have hl : i / 8 < (maskB (l.map (·.null))).length := by
    rcases Nat.lt_or_ge (i / 8) (maskB (l.map (·.null))).length with h' | h'
    · exact h'
    · rw [List.getElem?_eq_none h'] at h1; simp at h1
  unfold bitB maskOf
  rw [List.getElem?_append_left hl, h1]
  have h3 : ((some c).getD 0 : UInt8) = c := rfl
  rw [h3]
  cases hn : v.null with
  | true => rw [hn] at h2; exact decide_eq_true h2
  | false => rw [hn] at h2; exact decide_eq_false (by simp only [cond_false] at h2; omega)
theorem getP_at (l : List Val) (t : Int) (ho : ∀ v ∈ l, okV v t = true) (hi : ∀ v ∈ l, InB v) : ∀ (n i : Nat), i + n = l.length → getP (plainP l t) t n i (posP l t i : Nat) = some (l.drop i)
  | 0, i, h => by rw [List.drop_of_length_le (by omega)]; rfl
  | n + 1, i, h => by
    have hlt : i < l.length := by omega
    obtain ⟨v, hv⟩ : ∃ v, l[i]? = some v := ⟨_, List.getElem?_eq_getElem hlt⟩
    have hm := List.mem_of_getElem? hv
    have hd : l.drop i = v :: l.drop (i + 1) := by
      rw [List.drop_eq_getElem_cons hlt]
      rw [List.getElem?_eq_getElem hlt] at hv
      simp only [Option.some.injEq] at hv
      rw [hv]
    have hb : bitB (plainP l t) i = v.null := bitB_mask l _ i v hv
    have ih := getP_at l t ho hi n (i + 1) (by omega)
    have hp := posP_next l t i v hv
    rw [getP, hb, hd]
    cases hn : v.null with
    | true =>
      rw [hn] at hp
      simp only [cond_true, Nat.add_zero] at hp ⊢
      rw [← hp, ih, okV5_null (ho v hm) hn]; rfl
    | false =>
      rw [hn] at hp
      rw [plainP_at l t i v hv hn (ho v hm) (hi v hm)]
      simp only [cond_false, decide_true, cond_true]
      rw [ih]; rfl
theorem maskOf_len (l : List Val) : (maskOf l).length = (l.length + 7) / 8 := by
  unfold maskOf; rw [maskB_len _ _ (Nat.le_refl _), List.length_map]
theorem vals_plain (l : List Val) (t : Int) (ho : ∀ v ∈ l, okV v t = true) (hi : ∀ v ∈ l, InB v) : valsP (plainP l t) l.length t = some l := by
  have h := getP_at l t ho hi l.length 0 (by omega)
  have h0 : posP l t 0 = (l.length + 7) / 8 := by unfold posP; rw [maskOf_len]; simp [bodyP]
  have hl : (l.length + 7) / 8 ≤ (plainP l t).length := by
    unfold plainP; rw [List.length_append, maskOf_len]; omega
  unfold valsP
  rw [decide_eq_false (by omega)]
  rw [h0] at h
  simpa using h
def diffV : Int → List Val → List Val
  | _, [] => []
  | last, v :: r => bif v.null then v :: diffV last r else ⟨false, IntKind.wrap .i64 (v.n - last), v.s⟩ :: diffV v.n r
theorem diff_null : ∀ (last : Int) (l : List Val), (diffV last l).map (·.null) = l.map (·.null)
  | _, [] => rfl
  | last, v :: r => by
    unfold diffV
    cases h : v.null with
    | true => simp only [cond_true, List.map_cons, diff_null last r]
    | false => simp only [cond_false, List.map_cons, diff_null v.n r, h]
theorem diff_len (last : Int) (l : List Val) : (diffV last l).length = l.length := by
  have := congrArg List.length (diff_null last l)
  simpa using this
theorem diff_body : ∀ (last : Int) (l : List Val), bodyP (diffV last l) 3 = bodyD last l
  | _, [] => rfl
  | last, v :: r => by
    unfold diffV bodyD
    cases h : v.null with
    | true =>
      simp only [cond_true]
      rw [← diff_body last r]
      simp [bodyP, h]
    | false =>
      simp only [cond_false]
      rw [← diff_body v.n r]
      simp [bodyP, bareB]
theorem delta_plain (l : List Val) : deltaP l = plainP (diffV 0 l) 3 := by
  unfold deltaP plainP maskOf
  rw [diff_null, diff_body]
theorem wrap_rng (a : Int) : -9223372036854775808 ≤ IntKind.wrap .i64 a ∧ IntKind.wrap .i64 a ≤ 9223372036854775807 := by
  simp [IntKind.wrap, IntKind.bits, IntKind.signed]
  omega
theorem wrap_back (a last : Int) (h0 : -9223372036854775808 ≤ a) (h1 : a ≤ 9223372036854775807) : IntKind.wrap .i64 (last + IntKind.wrap .i64 (a - last)) = a := by
  simp [IntKind.wrap, IntKind.bits, IntKind.signed]
  omega
theorem diff_ok : ∀ (t : Int) (_ : t ≠ 4) (last : Int) (l : List Val) (_ : ∀ v ∈ l, okV v t = true) (_ : ∀ v ∈ l, InB v), ∀ w ∈ diffV last l, okV w 3 = true ∧ InB w
  | t, h4, last, [], _, _ => by simp [diffV]
  | t, h4, last, v :: r, ho, hi => by
    unfold diffV
    cases h : v.null with
    | true =>
      simp only [cond_true, List.mem_cons]
      rintro w (rfl | hw)
      · have := okV5_null (ho _ (List.mem_cons_self ..)) h
        rw [this]; exact ⟨rfl, by decide, by decide⟩
      · exact diff_ok t h4 last r (fun v hv => ho v (List.mem_cons_of_mem _ hv)) (fun v hv => hi v (List.mem_cons_of_mem _ hv)) w hw
    | false =>
      simp only [cond_false, List.mem_cons]
      rintro w (rfl | hw)
      · have hs := okV5_num (ho v (List.mem_cons_self ..)) h h4
        refine ⟨?_, wrap_rng _⟩
        simp [okV, hs]
      · exact diff_ok t h4 v.n r (fun v hv => ho v (List.mem_cons_of_mem _ hv)) (fun v hv => hi v (List.mem_cons_of_mem _ hv)) w hw
theorem sum_diff : ∀ (last : Int) (l : List Val) (_ : ∀ v ∈ l, InB v), sumD last (diffV last l) = l
  | _, [], _ => rfl
  | last, v :: r, hi => by
    have hv := hi v (List.mem_cons_self ..)
    have hr : ∀ w ∈ r, InB w := fun w hw => hi w (List.mem_cons_of_mem _ hw)
    unfold diffV
    cases h : v.null with
    | true =>
      simp only [cond_true]
      rw [sumD, h, cond_true, sum_diff last r hr]
    | false =>
      simp only [cond_false]
      rw [sumD]
      simp only [cond_false]
      rw [wrap_back v.n last hv.1 hv.2, sum_diff v.n r hr]
      obtain ⟨a, b, c⟩ := v
      simp only [] at h
      rw [h]
theorem readB_num (b : List UInt8) (a t : Int) (h : t ≠ 4) : readB b a t = readB b a 3 := by
  unfold readB
  rw [decide_eq_false h]; rfl
theorem getP_num (b : List UInt8) (t : Int) (h : t ≠ 4) : ∀ (n i : Nat) (a : Int), getP b t n i a = getP b 3 n i a
  | 0, _, _ => rfl
  | n + 1, i, a => by
    unfold getP
    rw [readB_num b a t h, getP_num b t h n (i + 1) a, getP_num b t h n (i + 1) (readB b a 3).2.1]
theorem vals_delta (l : List Val) (t : Int) (h4 : t ≠ 4) (ho : ∀ v ∈ l, okV v t = true) (hi : ∀ v ∈ l, InB v) : (valsP (deltaP l) l.length t).map (sumD 0) = some l := by
  have hd := diff_ok t h4 0 l ho hi
  have h := vals_plain (diffV 0 l) 3 (fun v hv => (hd v hv).1) (fun v hv => (hd v hv).2)
  rw [diff_len, ← delta_plain] at h
  have e : valsP (deltaP l) l.length t = valsP (deltaP l) l.length 3 := by
    unfold valsP; rw [getP_num _ t h4]
  rw [e, h, Option.map_some, sum_diff 0 l hi]
theorem getV_at (t : Int) : ∀ (d : List Val) (pre rest : List UInt8), (∀ v ∈ d, okV v t = true) → (∀ v ∈ d, InB v) → (∀ v ∈ d, v.null = false) →
    getV (pre ++ (d.flatMap (bareB · t) ++ rest)) t d.length pre.length = some (d, (pre.length : Int) + (d.flatMap (bareB · t)).length)
  | [], pre, rest, _, _, _ => by simp [getV]
  | v :: d, pre, rest, ho, hi, hn => by
    have h := readB_bare pre (d.flatMap (bareB · t) ++ rest) v t (ho v (List.mem_cons_self ..)) (hn v (List.mem_cons_self ..)) (hi v (List.mem_cons_self ..))
    have ih := getV_at t d (pre ++ bareB v t) rest (fun w hw => ho w (List.mem_cons_of_mem _ hw)) (fun w hw => hi w (List.mem_cons_of_mem _ hw)) (fun w hw => hn w (List.mem_cons_of_mem _ hw))
    rw [List.flatMap_cons, List.append_assoc, List.length_cons, getV, h]
    simp only [decide_true, cond_true]
    rw [List.append_assoc, List.length_append, Int.natCast_add] at ih
    rw [ih]
    simp only [Option.map_some, List.length_append, Int.natCast_add]
    congr 2
    omega
theorem getX_at (D : List Val) (f : Val → Nat) (hf : ∀ v, f v < 18446744073709551616) : ∀ (l : List Val) (pre rest : List UInt8), (∀ v ∈ l, D[f v]? = some v) →
    getX (pre ++ (l.flatMap (fun v => leb (f v)) ++ rest)) D l.length pre.length = some l
  | [], pre, rest, _ => by simp [getX]
  | v :: l, pre, rest, hD => by
    have h := rU_leb pre (l.flatMap (fun v => leb (f v)) ++ rest) (f v) (hf v)
    have ih := getX_at D f hf l (pre ++ leb (f v)) rest (fun w hw => hD w (List.mem_cons_of_mem _ hw))
    rw [List.flatMap_cons, List.append_assoc, List.length_cons, getX, h]
    simp only [decide_true, cond_true]
    rw [hD v (List.mem_cons_self ..)]
    rw [List.append_assoc, List.length_append, Int.natCast_add] at ih
    simp only [ih, Option.map_some]
theorem idxD_le (d : List Val) (v : Val) : idxD d v ≤ d.length + 1 := by
  unfold idxD
  have := rankV_le d v
  cases v.null <;> simp <;> omega
theorem vals_dict (l : List Val) (t : Int) (hl : l.length < 100000) (ho : ∀ v ∈ l, okV v t = true) (hi : ∀ v ∈ l, InB v) : valsD (dictP l t) l.length t = some l := by
  have hdm : ∀ v ∈ distV l, v ∈ l ∧ v.null = false := fun v hv => (distV_mem l v).1 hv
  have hdl := distV_len l
  have h1 := rU_leb [] ((distV l).flatMap (bareB · t) ++ l.flatMap fun v => leb (idxD (distV l) v)) (distV l).length (by omega)
  rw [List.nil_append] at h1
  have h2 := getV_at t (distV l) (leb (distV l).length) (l.flatMap fun v => leb (idxD (distV l) v)) (fun v hv => ho v (hdm v hv).1) (fun v hv => hi v (hdm v hv).1) (fun v hv => (hdm v hv).2)
  have h3 := getX_at (nullV :: distV l) (idxD (distV l)) (fun v => by have := idxD_le (distV l) v; omega) l (leb (distV l).length ++ (distV l).flatMap (bareB · t)) [] (fun v hv => by
    unfold idxD
    cases hn : v.null with
    | true => simp only [cond_true]; rw [okV5_null (ho v hv) hn]; rfl
    | false =>
      simp only [cond_false, List.getElem?_cons_succ]
      exact rank_at (distV_inc l) v ((distV_mem l v).2 ⟨hv, hn⟩))
  rw [List.append_nil, List.append_assoc, List.length_append, Int.natCast_add] at h3
  have e : dictP l t = leb (distV l).length ++ ((distV l).flatMap (bareB · t) ++ l.flatMap fun v => leb (idxD (distV l) v)) := rfl
  rw [← e] at h1 h2 h3
  unfold valsD
  have h1' : rU (dictP l t) 0 = ((distV l).length, ((leb (distV l).length).length : Int), 0) := by
    have := h1
    simp only [List.length_nil] at this
    rw [show ((0 : Nat) : Int) = 0 from rfl, Int.zero_add] at this
    exact this
  rw [h1']
  simp only []
  rw [decide_eq_false (show ¬ l.length < (distV l).length by omega)]
  simp only [decide_true, Bool.not_true, Bool.or_self, cond_false]
  rw [h2]
  exact h3
def expand (rs : List (Nat × Val)) : List Val := rs.flatMap fun p => List.replicate p.1 p.2
theorem expand_runsA : ∀ (l : List Val) (v : Val) (n : Nat), expand (runsA v n l) = List.replicate n v ++ l
  | [], v, n => by simp [runsA, expand]
  | y :: r, v, n => by
    unfold runsA
    split
    · rename_i e
      subst e
      rw [expand_runsA r y (n + 1), List.replicate_succ', List.append_assoc]; rfl
    · have := expand_runsA r y 1
      unfold expand at this ⊢
      rw [List.flatMap_cons, this]; rfl
theorem expand_runs (l : List Val) : expand (runs l) = l := by
  cases l with
  | nil => rfl
  | cons v r => exact expand_runsA r v 1
theorem leb_pos (n : Nat) : 1 ≤ (leb n).length := by
  by_cases h : n < 128
  · rw [leb_small h]; simp
  · rw [leb_big h]; simp
theorem getR_at (t : Int) (rows : Nat) (ht : typeOk t = true) : ∀ (rs : List (Nat × Val)) (pre : List UInt8) (out : List Val) (f : Nat), (∀ p ∈ rs, okV p.2 t = true ∧ InB p.2) → out.length + (expand rs).length ≤ rows → rows < 100000 → rs.length ≤ f →
    getR (pre ++ rs.flatMap (runB t)) t rows f out pre.length = some (out ++ expand rs)
  | [], pre, out, 0, _, _, _, _ => by simp [getR, expand]
  | [], pre, out, f + 1, _, _, _, _ => by simp [getR, expand]
  | p :: rs, pre, out, 0, _, _, _, hf => by simp at hf
  | p :: rs, pre, out, f + 1, ho, hr, hr2, hf => by
    obtain ⟨n, v⟩ := p
    obtain ⟨ov, iv⟩ := ho (n, v) (List.mem_cons_self ..)
    simp only [] at ov iv
    have he : (expand ((n, v) :: rs)).length = n + (expand rs).length := by simp [expand]
    rw [he] at hr
    have e0 : pre ++ ((n, v) :: rs).flatMap (runB t) = pre ++ (leb n ++ (encV v t ++ rs.flatMap (runB t))) := by simp [runB]
    have h1 := rU_leb pre (encV v t ++ rs.flatMap (runB t)) n (by omega)
    have h2 := dec_enc (pre ++ leb n) (rs.flatMap (runB t)) v t ht ov iv
    have ih := getR_at t rows ht rs (pre ++ (leb n ++ encV v t)) (out ++ List.replicate n v) f (fun q hq => ho q (List.mem_cons_of_mem _ hq)) (by simp; omega) hr2 (by simp at hf; omega)
    have hlen : (pre.length : Int) < ((pre ++ (leb n ++ (encV v t ++ rs.flatMap (runB t)))).length : Int) := by
      have := leb_pos n
      simp only [List.length_append]; omega
    rw [List.append_assoc, List.length_append, Int.natCast_add] at h2
    simp only [List.append_assoc, List.length_append, Int.natCast_add] at ih
    rw [e0]
    generalize pre ++ (leb n ++ (encV v t ++ rs.flatMap (runB t))) = B at *
    rw [getR, decide_eq_true hlen, h1]
    simp only [decide_true, Bool.not_true, Bool.false_or, cond_true]
    rw [decide_eq_false (show ¬ rows - out.length < n by omega), h2]
    simp only [decide_true, cond_true, cond_false]
    rw [show (pre.length : Int) + ((leb n).length : Int) + ((encV v t).length : Int) = (pre.length : Int) + (((leb n).length : Int) + ((encV v t).length : Int)) by omega, ih]
    simp [expand]
theorem runsA_mem : ∀ (l : List Val) (v : Val) (n : Nat), ∀ p ∈ runsA v n l, p.2 ∈ v :: l
  | [], v, n, p, h => by simp [runsA] at h; subst h; simp
  | y :: r, v, n, p, h => by
    unfold runsA at h
    split at h
    · rename_i e
      subst e
      have := runsA_mem r y (n + 1) p h
      simp only [List.mem_cons] at this ⊢
      rcases this with h | h
      · exact .inl h
      · exact .inr (.inr h)
    · rcases List.mem_cons.1 h with rfl | h
      · simp
      · have := runsA_mem r y 1 p h
        simp only [List.mem_cons] at this ⊢
        exact .inr this
theorem runs_mem (l : List Val) : ∀ p ∈ runs l, p.2 ∈ l := by
  cases l with
  | nil => intro p h; simp [runs] at h
  | cons v r => exact runsA_mem r v 1
theorem runB_pos (t : Int) (p : Nat × Val) : 1 ≤ (runB t p).length := by
  have := leb_pos p.1
  unfold runB; rw [List.length_append]; omega
theorem flat_len {α : Type} (f : α → List UInt8) (h : ∀ x, 1 ≤ (f x).length) : ∀ l : List α, l.length ≤ (l.flatMap f).length
  | [] => by simp
  | x :: r => by
    have h1 := flat_len f h r
    have h2 := h x
    rw [List.flatMap_cons, List.length_append, List.length_cons]; omega
theorem vals_runs (l : List Val) (t : Int) (ht : typeOk t = true) (hl : l.length < 100000) (ho : ∀ v ∈ l, okV v t = true) (hi : ∀ v ∈ l, InB v) : getR (runsP l t) t l.length (runsP l t).length [] 0 = some l := by
  have h := getR_at t l.length ht (runs l) [] [] (runsP l t).length (fun p hp => ⟨ho _ (runs_mem l p hp), hi _ (runs_mem l p hp)⟩) (by rw [expand_runs]; simp) hl (flat_len _ (runB_pos t) _)
  rw [expand_runs] at h
  simpa [runsP] using h
theorem par_enc (l : List Val) (t k : Int) (hc : chkP k t = 0) (hl : l.length ≤ 1024) (ho : okL l t = true) (hi : ∀ v ∈ l, InB v) : parP ⟨k, l.length, conP l t k⟩ t = some l := by
  have ho := okL_mem ho
  have hk : kindOk k = true ∧ typeOk t = true ∧ ¬ (k = 3 ∧ t = 4) := by
    unfold chkP at hc
    cases h1 : kindOk k with
    | false => rw [h1] at hc; simp at hc
    | true =>
      rw [h1] at hc
      cases h2 : typeOk t with
      | false => rw [h2] at hc; simp at hc
      | true =>
        rw [h2] at hc
        refine ⟨rfl, rfl, ?_⟩
        rintro ⟨rfl, rfl⟩
        simp at hc
  obtain ⟨h1, h2, h3⟩ := hk
  simp only [kindOk, Bool.and_eq_true, decide_eq_true_eq] at h1
  have : k = 1 ∨ k = 2 ∨ k = 3 ∨ k = 4 := by omega
  unfold parP conP
  simp only [Int.toNat_natCast]
  rcases this with rfl | rfl | rfl | rfl
  · exact vals_plain l t ho hi
  · exact vals_dict l t (by omega) ho hi
  · exact vals_delta l t (fun h => h3 ⟨rfl, h⟩) ho hi
  · exact vals_runs l t h2 (by omega) ho hi
end Go.Den
