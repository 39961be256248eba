import Derived.Test.YtghipgdajgeoiaaGreatDoorS07V
/-! The reference of chapter 07: Put, Divide, Connect. -/
namespace Go.Den
open Go Go.Proofs
set_option linter.unusedSimpArgs false
set_option linter.unusedVariables false
set_option maxRecDepth 100000
set_option maxHeartbeats 1000000
/-- What the reference's Put builds. -/
def putG (id : Int) (v : Val) : Bool → List Cell → List Cell
  | d, [] => bif d then [] else [⟨id, v⟩]
  | d, c :: r => (bif !d && decide (id ≤ c.id) then [⟨id, v⟩] else []) ++ ((bif decide (c.id = id) then [] else [c]) ++ putG id v (d || decide (id ≤ c.id)) r)
theorem putG_done (id : Int) (v : Val) : ∀ {r : List Cell}, (∀ c ∈ r, c.id ≠ id) → putG id v true r = r
  | [], _ => rfl
  | c :: r, h => by
    rw [putG, Bool.true_or, putG_done id v fun x hx => h x (by simp [hx])]
    have : decide (c.id = id) = false := by simpa using h c (by simp)
    simp [this]
theorem putG_putL (id : Int) (v : Val) : ∀ {r : List Cell}, Srt r → putG id v v.null r = putL r id v
  | [], _ => rfl
  | c :: r, s => by
    obtain ⟨s1, s2⟩ := List.pairwise_cons.1 s
    have ih := putG_putL id v s2
    rw [putG, putL]
    by_cases h : c.id < id
    · have d1 : decide (id ≤ c.id) = false := by simp; omega
      have d2 : decide (c.id = id) = false := by simp; omega
      simp [d1, d2, h, ih]
    · have d1 : decide (id ≤ c.id) = true := by simp; omega
      have hd := putG_done id v (r := r) fun x hx => by have := s1 x hx; omega
      rw [d1, Bool.or_true, hd, if_neg h]
      by_cases h2 : c.id = id
      · simp [h2]
      · simp [h2]
theorem R07_Put (r : List Cell) (id : Int) (b : Bool) (n : Int) (s : ByteArray) (hs : Srt r) (hL : r.length < 1000000000000) :
    Den prog 258 [.agg [.sl (r.map Cell.cells)], .int .i64 id, .agg [.bool b, .int .i64 n, .str s]] [] = some (.agg [.sl ((putL r id ⟨b, n, s⟩).map Cell.cells)], []) := by
  rw [← putG_putL id ⟨b, n, s⟩ hs]
  rw [Den_ofK [] pr_R07_Put rfl]
  simp only [f_R07_Put, go_sem]
  refine range_ind r (by omega) (fun i (o : List Cell × Bool) => (Run prog 0 (.loop 3 [1, 3, 5, 6, 7, 8, 9] f_R07_Put_l0) [(1, .int .i64 id), (3, .rptr [.sl (r.map Cell.cells)]), (5, .rptr [.bool b, .int .i64 n, .str s]), (6, .ref 0 0), (7, .ref 2 0), (8, .bool o.2), (9, .int .i64 i)] [.cells [.nils], .arr 0 4 (o.1.map Cell.cells), .cells [.osl 1 0 o.1.length 0 o.1.length]]).bind _ = _)
    (fun i rest o => o.1 ++ putG id ⟨b, n, s⟩ o.2 rest = putG id ⟨b, n, s⟩ b r ∧ (o.1.length : Int) ≤ 2 * i) ?_ ?_ ([], b) ⟨by simp, by simp⟩
  · intro ⟨out, d⟩ ⟨h, hl⟩
    simp only [] at hl h ⊢
    rw [← h]
    have hb : (out.length + 1) * 40 ≤ 140737488355328 := by omega
    rw [Run_loop]
    cases d <;> simp only [f_R07_Put_l0_eq, f_R07_Put_l0u, putG, hb, cond_true, cond_false, go_sem]
  · intro i pre rest x ⟨out, d⟩ hp _ hi0 hi1 hx hc hw ⟨h, hl⟩ ih
    simp only [] at hl h
    rw [putG] at h
    have hb : ∀ m : Nat, m ≤ out.length + 2 → m * 40 ≤ 140737488355328 := fun m hm => by clear hw hx hc ih h hp; omega
    have q1 : out.length + 1 ≤ out.length + 2 := by omega
    have q2 : out.length + 1 + 1 ≤ out.length + 2 := by omega
    have hl0 : (out.length : Int) ≤ 2 * (i + 1) := by clear hw hx hc ih h hp; omega
    have hl1 : ((out.length + 1 : Nat) : Int) ≤ 2 * (i + 1) := by clear hw hx hc ih h hp; omega
    have hl2 : ((out.length + 1 + 1 : Nat) : Int) ≤ 2 * (i + 1) := by clear hw hx hc ih h hp; omega
    rw [Run_loop]
    cases d with
    | true =>
      cases d2 : decide (x.id = id) with
      | true =>
        have ih := ih (out, true) ⟨by rw [← h]; simp [d2], hl0⟩
        clear h hp
        simp only [f_R07_Put_l0_eq, f_R07_Put_l0u, hx, hc, hw, d2, hb, q1, ih, go_sem]
      | false =>
        have ih := ih (out ++ [x], true) ⟨by rw [← h]; simp [d2], by rw [List.length_append]; exact hl1⟩
        clear h hp
        simp only [go_sem] at ih
        simp only [f_R07_Put_l0_eq, f_R07_Put_l0u, hx, hc, hw, d2, hb, q1, ih, go_sem]
    | false => cases d1 : decide (id ≤ x.id) with
      | false =>
        have d2 : decide (x.id = id) = false := by simp at d1 ⊢; omega
        have ih := ih (out ++ [x], false) ⟨by rw [← h]; simp [d1, d2], by rw [List.length_append]; exact hl1⟩
        clear h hp
        simp only [go_sem] at ih
        simp only [f_R07_Put_l0_eq, f_R07_Put_l0u, hx, hc, hw, d1, d2, hb, q1, ih, go_sem]
      | true => cases d2 : decide (x.id = id) with
        | true =>
          have ih := ih (out ++ [⟨id, ⟨b, n, s⟩⟩], true) ⟨by rw [← h]; simp [d1, d2], by rw [List.length_append]; exact hl1⟩
          clear h hp
          simp only [go_sem] at ih
          simp only [f_R07_Put_l0_eq, f_R07_Put_l0u, hx, hc, hw, d1, d2, hb, q1, ih, go_sem]
        | false =>
          have ih := ih (out ++ [⟨id, ⟨b, n, s⟩⟩] ++ [x], true) ⟨by rw [← h]; simp [d1, d2], by rw [List.length_append, List.length_append]; exact hl2⟩
          clear h hp
          simp only [go_sem] at ih
          simp only [f_R07_Put_l0_eq, f_R07_Put_l0u, hx, hc, hw, d1, d2, hb, q1, q2, ih, go_sem]
@[go_sem] theorem R07_null : Den prog 257 [] [] = some (.agg [.bool true, .int .i64 0, .str ⟨#[]⟩], []) := by
  rw [Den_ofK [] pr_R07_null rfl]
  simp only [f_R07_null, go_sem]
theorem putL_zero {r : List Cell} (h : ∀ c ∈ r, 0 < c.id) : putL r 0 nullV = r := by
  cases r with
  | nil => rfl
  | cons c r =>
    have := h c (by simp)
    rw [putL, if_neg (by omega), if_neg (by omega)]
    rfl
theorem R07_Put0 (r : List Cell) (id : Int) (hs : Srt r) (hL : r.length < 1000000000000) :
    Den prog 258 [.agg [.sl (r.map Cell.cells)], .int .i64 id, .agg [.bool true, .int .i64 0, .str ⟨#[]⟩]] [] = some (.agg [.sl ((putL r id nullV).map Cell.cells)], []) := R07_Put r id true 0 ⟨#[]⟩ hs hL
theorem R07_PutV (r : List Cell) (id : Int) (v : Val) (hs : Srt r) (hL : r.length < 1000000000000) :
    Den prog 258 [.agg [.sl (r.map Cell.cells)], .int .i64 id, .agg [.bool v.null, .int .i64 v.n, .str v.s]] [] = some (.agg [.sl ((putL r id v).map Cell.cells)], []) := R07_Put r id v.null v.n v.s hs hL
/-! Divide. -/
theorem sstrV_both (s : ByteArray) (k k' : IntKind) (l h : Int) (σ : St) (h0 : 0 ≤ l) (h1 : l ≤ h) (h2 : h ≤ s.size) : sstrV (.str s) (some (.int k l)) (some (.int k' h)) σ = some (.str (s.extract l.toNat h.toNat), σ, false) := by
  have a1 : l.toNat ≤ h.toNat := by omega
  have a2 : h.toNat ≤ s.size := by omega
  have a3 : 0 ≤ h := by omega
  simp [sstrV, bnd, h0, a1, a2, a3]
theorem occ_extract {s t : ByteArray} {i : Nat} (h : i + t.size ≤ s.size) : decide (s.extract i (i + t.size) = t) = Lib.occAt s.data.toList t.data.toList i := by
  have e : (s.extract i (i + t.size)).data.toList = (s.data.toList.drop i).take t.size := by
    simp [ByteArray.data_extract, Array.toList_extract, List.extract_eq_take_drop]
  have hl : t.data.toList.length = t.size := by rw [Array.length_toList]; rfl
  unfold Lib.occAt
  rw [Bool.eq_iff_iff, List.isPrefixOf_iff_prefix, decide_eq_true_eq]
  constructor
  · intro h1
    rw [← h1, e]
    exact List.take_prefix _ _
  · intro h1
    refine bytes_ext ?_
    rw [e, ← hl]
    exact (List.prefix_iff_eq_take.1 h1).symm
theorem R07_Divide (s t : ByteArray) (h : s.size < 4294967281) (ht : t.size < 4294967281) : Den prog 259 [.str s, .str t] [] = some (.tup [.agg [.bool (divV s t).1.null, .int .i64 (divV s t).1.n, .str (divV s t).1.s], .agg [.bool (divV s t).2.null, .int .i64 (divV s t).2.n, .str (divV s t).2.s]], []) := by
  rw [Den_ofK [] pr_R07_Divide rfl]
  simp only [f_R07_Divide, go_sem]
  have ll : ∀ b : ByteArray, b.data.toList.length = b.size := fun b => by rw [Array.length_toList]; rfl
  have stop : ∀ i : Nat, s.size < i + t.size → (∀ j, j < i → Lib.occAt s.data.toList t.data.toList j = false) → divV s t = (⟨false, 0, s⟩, nullV) := by
    intro i h1 h2
    have : ixS s t = -1 := by
      refine Lib.index_none fun j hj => ?_
      rw [ll] at hj
      by_cases hji : j < i
      · exact h2 j hji
      · cases hb : Lib.occAt s.data.toList t.data.toList j with
        | false => rfl
        | true =>
          rcases Lib.occAt_room hb with g | g
          · rw [ll, ll] at g; omega
          · have := ll t; rw [g] at this; simp at this; omega
    unfold divV
    rw [this]; rfl
  have found : ∀ i : Nat, i + t.size ≤ s.size → Lib.occAt s.data.toList t.data.toList i = true → (∀ j, j < i → Lib.occAt s.data.toList t.data.toList j = false) → divV s t = (⟨false, 0, s.extract 0 i⟩, ⟨false, 0, s.extract (i + t.size) s.size⟩) := by
    intro i h1 h2 h3
    have : ixS s t = (i : Int) := Lib.index_first (by rw [ll]; omega) h2 h3
    unfold divV
    have e1 : decide (0 ≤ ((i : Nat) : Int)) = true := by simp
    have e2 : ((i : Int) + (t.size : Int)).toNat = i + t.size := by omega
    rw [this, e1, cond_true, e2, Int.toNat_natCast]
  refine range_ind (List.replicate (s.size + 1) ()) (by simp; omega) (fun i (_ : Unit) => (Run prog 0 (.loop 2 [0, 1, 4, 5, 6] f_R07_Divide_l0) [(0, .str s), (1, .str t), (4, .ref 0 0), (5, .ref 1 0), (6, .int .i64 i)] [.cells [.bool false, .int .i64 0, .str ⟨#[]⟩], .cells [.bool false, .int .i64 0, .str ⟨#[]⟩]]).bind _ = _)
    (fun i _ _ => ∀ j : Nat, j < i.toNat → Lib.occAt s.data.toList t.data.toList j = false) ?_ ?_ () (fun j hj => absurd hj (by simp))
  · intro _ hg
    simp only [List.length_replicate, Int.toNat_natCast] at hg ⊢
    have hd := stop (s.size + 1) (by omega) hg
    have w : IntKind.wrap .i64 (((s.size + 1 : Nat) : Int) + t.size) = ((s.size + 1 : Nat) : Int) + t.size := wrap_i64 (by omega) (by omega)
    have d1 : decide (((s.size + 1 : Nat) : Int) + t.size ≤ (s.size : Int)) = false := by simp only [decide_eq_false_iff_not]; omega
    clear stop found hg
    generalize ((s.size + 1 : Nat) : Int) = m at *
    rw [Run_loop]
    simp only [f_R07_Divide_l0_eq, f_R07_Divide_l0u, w, d1, hd, nullV, go_sem]
  · intro i pre rest x _ _ hi hi0 hi1 _ _ hw hg ih
    simp only [List.length_replicate] at hi1
    obtain ⟨n, rfl⟩ : ∃ n : Nat, i = (n : Int) := ⟨i.toNat, by omega⟩
    simp only [Int.toNat_natCast] at hg
    have w : IntKind.wrap .i64 ((n : Int) + t.size) = (n : Int) + t.size := wrap_i64 (by omega) (by omega)
    rw [Run_loop]
    by_cases h1 : n + t.size ≤ s.size
    · have d1 : decide ((n : Int) + t.size ≤ (s.size : Int)) = true := by simp only [decide_eq_true_eq]; omega
      have hx := occ_extract h1
      have g1 : (0 : Int) ≤ (n : Int) := by omega
      have g2 : (n : Int) ≤ (n : Int) + t.size := by omega
      have g3 : (n : Int) + t.size ≤ (s.size : Int) := by omega
      have g4 : (n : Int) ≤ (s.size : Int) := by omega
      have g5 : (0 : Int) ≤ (n : Int) + t.size := by omega
      have g6 : ((n : Int) + (t.size : Int)).toNat = n + t.size := by omega
      cases ho : Lib.occAt s.data.toList t.data.toList n with
      | true =>
        rw [ho] at hx
        have hd := found n h1 ho hg
        clear stop found hg ih
        simp only [f_R07_Divide_l0_eq, f_R07_Divide_l0u, sstrV_both, w, d1, hx, hd, g1, g2, g3, g4, g5, g6, go_sem]
      | false =>
        rw [ho] at hx
        have ih := ih () (fun j hj => by
          by_cases hj2 : j = n
          · rw [hj2]; exact ho
          · exact hg j (by omega))
        clear stop found hg
        simp only [f_R07_Divide_l0_eq, f_R07_Divide_l0u, sstrV_both, w, d1, hx, hw, g1, g2, g3, g4, g5, g6, ih, go_sem]
    · have d1 : decide ((n : Int) + t.size ≤ (s.size : Int)) = false := by simp only [decide_eq_false_iff_not]; omega
      have hd := stop n (by omega) hg
      clear stop found hg ih
      simp only [f_R07_Divide_l0_eq, f_R07_Divide_l0u, w, d1, hd, nullV, go_sem]
theorem R07_Connect (an : Bool) (ai : Int) (sa : ByteArray) (bn : Bool) (bi : Int) (sb t : ByteArray) (h : sa.size + t.size + sb.size < 4294967281) :
    Den prog 260 [.agg [.bool an, .int .i64 ai, .str sa], .agg [.bool bn, .int .i64 bi, .str sb], .str t] [] = some (.agg [.bool (conV ⟨an, ai, sa⟩ ⟨bn, bi, sb⟩ t).null, .int .i64 (conV ⟨an, ai, sa⟩ ⟨bn, bi, sb⟩ t).n, .str (conV ⟨an, ai, sa⟩ ⟨bn, bi, sb⟩ t).s], []) := by
  have k1 := bin_cat .num sa t (by omega)
  have k2 := bin_cat .num (sa ++ t) sb (by rw [ByteArray.size_append]; omega)
  rw [Den_ofK [] pr_R07_Connect rfl]
  simp only [conV]
  generalize sa ++ t ++ sb = w at *
  cases d : decide (200 < (w.size : Int)) with
  | true =>
    have hd : (200 : Int) < w.size := by simpa using d
    have e : cutS 200 w = w.extract 0 200 := by unfold cutS cutI; rw [if_pos hd]; rfl
    have h1 : (200 : Int) ≤ (w.size : Int) := by omega
    have h0 : (0 : Int) ≤ 200 := by decide
    have e2 : (200 : Int).toNat = 200 := rfl
    rw [e]
    cases an <;> cases bn <;> simp only [f_R07_Connect, k1, k2, h0, h1, e2, nullV, d, cond_true, cond_false, go_sem]
  | false =>
    have hd : ¬ (200 : Int) < w.size := by simpa using d
    have e : cutS 200 w = w := by unfold cutS cutI; rw [if_neg hd, Int.toNat_natCast]; exact ByteArray.extract_zero_size
    rw [e]
    cases an <;> cases bn <;> simp only [f_R07_Connect, k1, k2, nullV, d, cond_true, cond_false, go_sem]
end Go.Den

/-! The reference's Forward and Back. -/
namespace Go.Den
open Go Go.Proofs
set_option linter.unusedSimpArgs false
set_option linter.unusedVariables false
set_option maxRecDepth 100000
set_option maxHeartbeats 1000000
theorem R07_Forward {fs : List Fld} {next : Int} (s : SV fs next) (c : Chg) (hc : COK c) (r : List Cell) (hr : r.length < 1000000000000000) (hb : RB r) :
    Den prog 261 [.agg [.sl (fs.map Fld.cells), .int .i64 next], .agg c.cells, .agg [.sl (r.map Cell.cells)]] [] = some (.agg [.sl ((forwardL fs next c r).map Cell.cells)], []) := by
  have ha := R06_Apply fs next c s.i.ok hc
  have hf := R06_Fits fs next r (by have := s.i.len; omega) hr s.n.q.pos
  have hn0 := s.i.n0
  have hn1 := s.i.n1
  have hw : IntKind.wrap .i64 (next + 1) = next + 1 := wrap_i64 (by omega) (by omega)
  have hsep := @applyC_sep fs next c
  have hft := @ft_of fs r 0
  have hrk := @fits_rk fs next s r 0
  have hri := @fits_rise fs r 0
  unfold forwardL
  generalize applyC fs next c = q at *
  obtain ⟨f1, n1, e1⟩ := q
  rw [Den_ofK [] pr_R07_Forward rfl]
  rw [cells_chg] at ha ⊢
  simp only [SR.av] at ha hsep ⊢
  cases d : decide (e1 = 0) with
  | false => simp only [f_R07_Forward, ha, d, Bool.false_and, cond_false, List.map_nil, go_sem]
  | true => cases d2 : fitsS fs 0 r with
    | false =>
      rw [d2] at hf
      simp only [f_R07_Forward, ha, hf, d, Bool.and_false, cond_false, List.map_nil, go_sem]
    | true =>
      rw [d2] at hf
      have srt := (hft d2).srt
      have rk := hrk d2
      have pos := (hri d2).2
      have hsep := hsep (by simpa using d)
      have hl := rk.len
      have hg := fun id => R06_Get r id (by omega)
      have p0 := R07_Put0 r c.id srt (by omega)
      have s0 := putL_srt srt c.id nullV
      have l0 := putL_len r c.id nullV
      clear s hft hrk hri hb
      unfold fwdL
      simp only [Bool.and_self, cond_true]
      cases e2 : decide (c.kind = 2) with
      | true => simp only [f_R07_Forward, ha, hf, hg, d, e2, p0, cond_true, go_sem]
      | false => cases e6 : decide (c.kind = 6) with
        | true =>
          have hs := hsep (.inl (by simpa using e6))
          have hts := RK.get rk.str c.id
          have dv := R07_Divide (getC r c.id).s c.sep (by omega) (by omega)
          unfold apartL
          cases hn : (getC r c.id).null with
          | true => simp only [f_R07_Forward, ha, hf, hg, hn, d, e2, e6, p0, cond_true, cond_false, go_sem]
          | false =>
            generalize divV (getC r c.id).s c.sep = q at *
            obtain ⟨q1, q2⟩ := q
            have l1 := putL_len (putL r c.id nullV) next q1
            have p1 := R07_PutV (putL r c.id nullV) next q1 s0 (by omega)
            have p2 := R07_PutV (putL (putL r c.id nullV) next q1) (next + 1) q2 (putL_srt s0 next q1) (by omega)
            simp only [f_R07_Forward, ha, hf, hg, hn, hw, d, e2, e6, p0, dv, p1, p2, cond_true, cond_false, go_sem]
        | false => cases e7 : decide (c.kind = 7) with
          | true =>
            have hs := hsep (.inr (by simpa using e7))
            have hts := RK.get rk.str c.id
            have hts2 := RK.get rk.str c.wi
            have cn := R07_Connect (getC r c.id).null (getC r c.id).n (getC r c.id).s (getC r c.wi).null (getC r c.wi).n (getC r c.wi).s c.sep (by omega)
            have l1 := putL_len (putL r c.id nullV) c.wi nullV
            have p1 := R07_Put0 (putL r c.id nullV) c.wi s0 (by omega)
            have p2 := R07_PutV (putL (putL r c.id nullV) c.wi nullV) next (conV (getC r c.id) (getC r c.wi) c.sep) (putL_srt s0 c.wi nullV) (by omega)
            have eta : ∀ v : Val, (⟨v.null, v.n, v.s⟩ : Val) = v := fun _ => rfl
            simp only [eta] at cn
            generalize conV (getC r c.id) (getC r c.wi) c.sep = w at *
            simp only [f_R07_Forward, ha, hf, hg, d, e2, e6, e7, p0, p1, p2, cn, cond_true, cond_false, go_sem]
          | false =>
            have pz := R07_Put0 r 0 srt (by omega)
            rw [putL_zero fun c hc => (pos c hc).1] at pz
            simp only [f_R07_Forward, ha, hf, hg, d, e2, e6, e7, pz, cond_false, go_sem]
theorem R07_Back {fs : List Fld} {next : Int} (s : SV fs next) (c : Chg) (hc : COK c) (r : List Cell) (hr : r.length < 1000000000000000) (hb : RB r) :
    Den prog 262 [.agg [.sl (fs.map Fld.cells), .int .i64 next], .agg c.cells, .agg [.sl (r.map Cell.cells)]] [] = some (.agg [.sl ((backL fs next c r).map Cell.cells)], []) := by
  have ha := R06_Apply fs next c s.i.ok hc
  have hsv := applyC_sv s hc
  have hlen := applyC_fits s c hc
  have hf := fun (e : (applyC fs next c).e = 0) => R06_Fits (applyC fs next c).fs (applyC fs next c).next r (by omega) hr (hsv e).n.q.pos
  have hn0 := s.i.n0
  have hn1 := s.i.n1
  have hw : IntKind.wrap .i64 (next + 1) = next + 1 := wrap_i64 (by omega) (by omega)
  have hsep := @applyC_sep fs next c
  have hft := @ft_of (applyC fs next c).fs r 0
  have hrk := fun (e : (applyC fs next c).e = 0) => @fits_rk (applyC fs next c).fs (applyC fs next c).next (hsv e) r 0
  have hri := @fits_rise (applyC fs next c).fs r 0
  clear hsv
  unfold backL
  generalize applyC fs next c = q at *
  obtain ⟨f1, n1, e1⟩ := q
  rw [Den_ofK [] pr_R07_Back rfl]
  rw [cells_chg] at ha ⊢
  simp only [SR.av] at ha hsep hf hft hrk hri hlen ⊢
  cases d : decide (e1 = 0) with
  | false => simp only [f_R07_Back, ha, d, Bool.false_and, cond_false, List.map_nil, go_sem]
  | true =>
    have he : e1 = 0 := by simpa using d
    have hf := hf he
    have hrk := hrk he
    have hsep := hsep he
    cases d2 : fitsS f1 0 r with
    | false =>
      rw [d2] at hf
      simp only [f_R07_Back, ha, hf, d, Bool.and_false, cond_false, List.map_nil, go_sem]
    | true =>
      rw [d2] at hf
      have srt := (hft d2).srt
      have rk := hrk d2
      have pos := (hri d2).2
      have hl := rk.len
      have hg := fun id => R06_Get r id (by omega)
      have p0 := R07_Put0 r next srt (by omega)
      have s0 := putL_srt srt next nullV
      have l0 := putL_len r next nullV
      have pz := R07_Put0 r 0 srt (by omega)
      rw [putL_zero fun c hc => (pos c hc).1] at pz
      clear s hft hrk hri hb
      unfold bakL
      simp only [Bool.and_self, cond_true]
      cases e2 : decide (c.kind = 1) with
      | true => simp only [f_R07_Back, ha, hf, hg, d, e2, p0, cond_true, go_sem]
      | false => cases e4 : decide (c.kind = 4) with
        | true =>
          have p1 := R07_Put0 r c.id srt (by omega)
          unfold narrowL
          cases x1 : decide ((getC r c.id).n < -2147483648) with
          | true => simp only [f_R07_Back, ha, hf, hg, d, e2, e4, x1, p1, cond_true, cond_false, go_sem]
          | false => cases x2 : decide (2147483647 < (getC r c.id).n) <;> simp only [f_R07_Back, ha, hf, hg, d, e2, e4, x1, x2, p1, pz, cond_true, cond_false, go_sem]
        | false => cases e6 : decide (c.kind = 6) with
          | true =>
            have hs := hsep (.inl (by simpa using e6))
            have hts := RK.get rk.str next
            have hts2 := RK.get rk.str (next + 1)
            have cn := R07_Connect (getC r next).null (getC r next).n (getC r next).s (getC r (next + 1)).null (getC r (next + 1)).n (getC r (next + 1)).s c.sep (by omega)
            have l1 := putL_len (putL r next nullV) (next + 1) nullV
            have p1 := R07_Put0 (putL r next nullV) (next + 1) s0 (by omega)
            have s1 := putL_srt s0 (next + 1) nullV
            have p2 := R07_PutV (putL (putL r next nullV) (next + 1) nullV) c.id (getC r next) s1 (by omega)
            have p3 := R07_PutV (putL (putL r next nullV) (next + 1) nullV) c.id (conV (getC r next) (getC r (next + 1)) c.sep) s1 (by omega)
            have eta : ∀ v : Val, (⟨v.null, v.n, v.s⟩ : Val) = v := fun _ => rfl
            simp only [eta] at cn
            unfold conL
            generalize conV (getC r next) (getC r (next + 1)) c.sep = w at *
            cases hn : (getC r (next + 1)).null with
            | true => simp only [f_R07_Back, ha, hf, hg, hn, hw, d, e2, e4, e6, p0, p1, p2, cond_true, cond_false, go_sem]
            | false =>
              rw [hn] at cn
              simp only [f_R07_Back, ha, hf, hg, hn, hw, d, e2, e4, e6, p0, p1, p3, cn, cond_true, cond_false, go_sem]
          | false => cases e7 : decide (c.kind = 7) with
            | true =>
              have hs := hsep (.inr (by simpa using e7))
              have hts := RK.get rk.str next
              have dv := R07_Divide (getC r next).s c.sep (by omega) (by omega)
              unfold apartL
              cases hn : (getC r next).null with
              | true => simp only [f_R07_Back, ha, hf, hg, hn, d, e2, e4, e6, e7, p0, cond_true, cond_false, go_sem]
              | false =>
                generalize divV (getC r next).s c.sep = q at *
                obtain ⟨q1, q2⟩ := q
                have l1 := putL_len (putL r next nullV) c.id q1
                have p1 := R07_PutV (putL r next nullV) c.id q1 s0 (by omega)
                have p2 := R07_PutV (putL (putL r next nullV) c.id q1) c.wi q2 (putL_srt s0 c.id q1) (by omega)
                simp only [f_R07_Back, ha, hf, hg, hn, d, e2, e4, e6, e7, p0, dv, p1, p2, cond_true, cond_false, go_sem]
            | false => simp only [f_R07_Back, ha, hf, hg, d, e2, e4, e6, e7, pz, cond_false, go_sem]
end Go.Den

/-! Same rows; Lossless, in the package and in the reference. -/
namespace Go.Den
open Go Go.Proofs
set_option linter.unusedSimpArgs false
set_option linter.unusedVariables false
set_option maxRecDepth 100000
set_option maxHeartbeats 1000000
def eqC (x y : Cell) : Bool := decide (x.id = y.id) && ((x.v.null == y.v.null) && (decide (x.v.n = y.v.n) && decide (x.v.s = y.v.s)))
def sameL : List Cell → List Cell → Bool
  | [], [] => true
  | a :: r, b :: q => eqC a b && sameL r q
  | _, _ => false
theorem sameL_len : ∀ {a b : List Cell}, a.length ≠ b.length → sameL a b = false
  | [], [], h => absurd rfl h
  | [], _ :: _, _ => rfl
  | _ :: _, [], _ => rfl
  | a :: r, b :: q, h => by rw [sameL, sameL_len (a := r) (b := q) (by simpa using h), Bool.and_false]
theorem R06_SameRow (a b : List Cell) (hL : a.length < 1000000000000000) : Den prog 12 [.agg [.sl (a.map Cell.cells)], .agg [.sl (b.map Cell.cells)]] [] = some (.bool (sameL a b), []) := by
  rw [Den_ofK [] pr_R06_SameRow rfl]
  cases d : decide ((a.length : Int) = (b.length : Int)) with
  | false =>
    rw [sameL_len (by simp at d; omega)]
    simp only [f_R06_SameRow, d, go_sem]
  | true =>
    have hl : a.length = b.length := by simp at d; omega
    simp only [f_R06_SameRow, d, go_sem]
    refine range_ind a hL (fun i (_ : Unit) => (Run prog 0 (.loop 0 [2, 3, 5] f_R06_SameRow_l0) [(2, .rptr [.sl (a.map Cell.cells)]), (3, .rptr [.sl (b.map Cell.cells)]), (5, .int .i64 i)] []).bind _ = _) (fun i rest _ => ∃ p q, b = p ++ q ∧ (p.length : Int) = i ∧ rest.length = q.length ∧ sameL a b = sameL rest q) ?_ ?_ () ⟨[], b, rfl, rfl, hl, rfl⟩
    · intro _ ⟨p, q, hb, hp, hq, h⟩
      have : q = [] := List.length_eq_zero_iff.1 hq.symm
      subst this
      rw [h, Run_loop]
      simp only [f_R06_SameRow_l0_eq, f_R06_SameRow_l0u, sameL, go_sem]
    · intro i pre rest x _ _ _ _ _ hx hc hw ⟨p, q, hb, hp, hq, h⟩ ih
      cases q with
      | nil => simp at hq
      | cons y q =>
        have hy : getE b i = some y := by rw [← hp]; exact getE_at hb
        have ih := fun hh => ih () ⟨p ++ [y], q, by rw [hb]; simp, by simp; omega, by simpa using hq, hh⟩
        rw [sameL] at h
        clear hb hp hq hl
        obtain ⟨ci, vb, vn, vs⟩ := x
        obtain ⟨di, wb, wn, ws⟩ := y
        rw [Run_loop]
        cases e : eqC ⟨ci, ⟨vb, vn, vs⟩⟩ ⟨di, ⟨wb, wn, ws⟩⟩ with
        | true =>
          rw [e, Bool.true_and] at h
          have ih := ih h
          simp only [eqC] at e
          simp only [f_R06_SameRow_l0_eq, f_R06_SameRow_l0u, hx, hy, hc, hw, e, ih, go_sem]
        | false =>
          rw [e, Bool.false_and] at h
          simp only [eqC] at e
          simp only [f_R06_SameRow_l0_eq, f_R06_SameRow_l0u, hx, hy, hc, e, h, go_sem]
/-- Is a change lossless for a row? -/
def lossB (fs : List Fld) (next : Int) (c : Chg) (r : List Cell) : Bool := decide ((applyC fs next c).e = 0) && (fitsS fs 0 r && sameL (bakL c next (fwdL c next r)) r)
theorem fwd_fits {fs : List Fld} {next : Int} (s : SV fs next) {c : Chg} (hc : COK c) (he : (applyC fs next c).e = 0) {r : List Cell} (h : fitsS fs 0 r = true) : fitsS (applyC fs next c).fs 0 (fwdL c next r) = true :=
  of_ft (applyC_sv s hc he).n.q.pos (fwd_ft (eff_of s he) s.bd (ft_of h))
theorem R07_Lossless {fs : List Fld} {next : Int} (s : SV fs next) (c : Chg) (hc : COK c) (r : List Cell) (hr : r.length < 1000000000000000) (hb : RB r) :
    Den prog 263 [.agg [.sl (fs.map Fld.cells), .int .i64 next], .agg c.cells, .agg [.sl (r.map Cell.cells)]] [] = some (.bool (lossB fs next c r), []) := by
  have ha := R06_Apply fs next c s.i.ok hc
  have hf := R06_Fits fs next r (by have := s.i.len; omega) hr s.n.q.pos
  have hF := R07_Forward s c hc r hr hb
  have hrk := @fits_rk fs next s r 0
  have key : (applyC fs next c).e = 0 → fitsS fs 0 r = true → forwardL fs next c r = fwdL c next r ∧ (fwdL c next r).length < 10000000000 ∧ RB (fwdL c next r) ∧ backL fs next c (fwdL c next r) = bakL c next (fwdL c next r) ∧ (bakL c next (fwdL c next r)).length < 1000000000000000 := by
    intro he hft
    have f1 := fwd_fits s hc he hft
    have sv := applyC_sv s hc he
    have f2 : fitsS fs 0 (bakL c next (fwdL c next r)) = true := of_ft s.n.q.pos (bak_ft (eff_of s he) s.bd (ft_of f1))
    have he2 : decide ((applyC fs next c).e = 0) = true := by simpa using he
    refine ⟨by unfold forwardL; rw [he2, hft]; rfl, (fits_rk sv f1).len, fwd_b hb _ _, by unfold backL; rw [he2, f1]; rfl, ?_⟩
    have := (fits_rk s f2).len
    omega
  have hB := fun (hl : (fwdL c next r).length < 1000000000000000) (hb2 : RB (fwdL c next r)) => R07_Back s c hc (fwdL c next r) hl hb2
  rw [Den_ofK [] pr_R07_Lossless rfl]
  unfold lossB
  generalize hq : applyC fs next c = q at *
  obtain ⟨f1, n1, e1⟩ := q
  rw [cells_chg] at ha hF hB ⊢
  simp only [SR.av] at ha key ⊢
  cases d : decide (e1 = 0) with
  | false => simp only [f_R07_Lossless, ha, d, Bool.false_and, go_sem]
  | true => cases d2 : fitsS fs 0 r with
    | false =>
      rw [d2] at hf
      simp only [f_R07_Lossless, ha, hf, d, Bool.and_false, Bool.false_and, go_sem]
    | true =>
      rw [d2] at hf
      obtain ⟨k1, k2, k3, k4, k5⟩ := key (by simpa using d) d2
      have hB := hB (by omega) k3
      rw [k1] at hF
      rw [k4] at hB
      have hS := R06_SameRow (bakL c next (fwdL c next r)) r k5
      clear k1 k2 k3 k4 k5 hq hrk s hb
      simp only [f_R07_Lossless, ha, hf, hF, hB, hS, d, go_sem]
end Go.Den

/-! lens.Lossless. -/
namespace Go.Den
open Go Go.Proofs
set_option linter.unusedSimpArgs false
set_option linter.unusedVariables false
set_option maxRecDepth 100000
set_option maxHeartbeats 1000000
theorem fwdA_un (c : Chg) (n : Int) : ∃ f caps, fwdA c n = .fn f caps ∧ norefs caps = true ∧ unders 3 caps = true := by
  unfold fwdA
  cases decide (c.kind = 2) <;> cases decide (c.kind = 6) <;> cases decide (c.kind = 7) <;> exact ⟨_, _, rfl, rfl, rfl⟩
theorem bakA_un (c : Chg) (n : Int) : ∃ f caps, bakA c n = .fn f caps ∧ norefs caps = true ∧ unders 3 caps = true := by
  unfold bakA
  cases decide (c.kind = 1) <;> cases decide (c.kind = 4) <;> cases decide (c.kind = 6) <;> cases decide (c.kind = 7) <;> exact ⟨_, _, rfl, rfl, rfl⟩
theorem lens_Lossless {fs : List Fld} {next : Int} (s : SV fs next) (c : Chg) (hc : COK c) (r : List Cell) (hr : r.length < 1000000000000000) (hb : RB r) :
    Den prog 250 [.agg [.sl (fs.map Fld.cells), .int .i64 next], .agg c.cells, .agg [.sl (r.map Cell.cells)]] [] = some (.bool (lossB fs next c r), []) := by
  have ha := schema_Apply fs next c s.i s.n.q hc
  have hf := schema_Fits fs next r (by have := s.i.len; omega) hr hb
  have ho := lens_of c next
  have hn0 := s.i.n0
  have hn1 := s.i.n1
  have hsep := @applyC_sep fs next c
  have hcall := fun (e : (applyC fs next c).e = 0) (hft : fitsS fs 0 r = true) => call_fwd c next r (fits_rk s hft) (hsep e) (by omega) (by omega)
  have hcall2 := fun (e : (applyC fs next c).e = 0) (hft : fitsS fs 0 r = true) => call_bak c next (fwdL c next r) (fits_rk (applyC_sv s hc e) (fwd_fits s hc e hft)) (hsep e) (by omega) (by omega)
  have hlen : (applyC fs next c).e = 0 → fitsS fs 0 r = true → (bakL c next (fwdL c next r)).length < 1000000000000000 := by
    intro he hft
    have f2 : fitsS fs 0 (bakL c next (fwdL c next r)) = true := of_ft s.n.q.pos (bak_ft (eff_of s he) s.bd (ft_of (fwd_fits s hc he hft)))
    have := (fits_rk s f2).len
    omega
  unfold lossB
  generalize applyC fs next c = q at *
  obtain ⟨f1, n1, e1⟩ := q
  rw [Den_ofK [] pr_lens_Lossless rfl]
  rw [cells_chg] at ha ho ⊢
  simp only [SR.av] at ha hcall hcall2 hlen ⊢
  cases d : decide (e1 = 0) with
  | false => simp only [f_lens_Lossless, ha, d, Bool.false_and, go_sem]
  | true => cases d2 : fitsS fs 0 r with
    | false =>
      rw [d2] at hf
      simp only [f_lens_Lossless, ha, hf, d, Bool.and_false, Bool.false_and, go_sem]
    | true =>
      rw [d2] at hf
      have he : e1 = 0 := by simpa using d
      have hcall := hcall he d2
      have hcall2 := hcall2 he d2
      have hlen := hlen he d2
      clear s hb hsep hc hn0 hn1
      obtain ⟨x1, x2, xe, xn, xu⟩ := fwdA_un c next
      obtain ⟨y1, y2, ye, yn, yu⟩ := bakA_un c next
      rw [xe, ye] at ho
      rw [xe] at hcall
      rw [ye] at hcall2
      generalize bakL c next (fwdL c next r) = B at *
      generalize fwdL c next r = F at *
      simp only [Bool.true_and]
      cases dl : decide ((B.length : Int) = (r.length : Int)) with
      | false =>
        rw [sameL_len (a := B) (by simp at dl; omega)]
        simp only [f_lens_Lossless, ha, hf, ho, d, dl, xn, yn, hcall, hcall2, go_sem]
      | true =>
        have hl : B.length = r.length := by simp at dl; omega
        simp only [f_lens_Lossless, ha, hf, ho, d, dl, xn, yn, hcall, hcall2, go_sem]
        refine range_ind r hr (fun i (_ : Unit) => (Run prog 0 (.loop 3 [10, 46, 47, 48] f_lens_Lossless_l0) [(10, .ref 2 0), (46, .sl (r.map Cell.cells)), (47, .int .i64 r.length), (48, .int .i64 i)] [.cells [.sl (f1.map Fld.cells), .int .i64 n1], .cells [.fn x1 x2, .fn y1 y2], .cells [.sl (B.map Cell.cells)]]).bind _ = _) (fun i rest _ => ∃ p q, B = p ++ q ∧ (p.length : Int) = i ∧ q.length = rest.length ∧ sameL B r = sameL q rest) ?_ ?_ () ⟨[], B, rfl, rfl, hl, rfl⟩
        · intro _ ⟨p, q, hb, hp, hq, h⟩
          have : q = [] := List.length_eq_zero_iff.1 hq
          subst this
          rw [h, Run_loop]
          simp only [f_lens_Lossless_l0_eq, f_lens_Lossless_l0u, sameL, go_sem]
        · intro i pre rest x _ _ _ _ _ hx hc hw ⟨p, q, hb, hp, hq, h⟩ ih
          cases q with
          | nil => simp at hq
          | cons y q =>
            have hy : getE B i = some y := by rw [← hp]; exact getE_at hb
            have hby : decide (i < (B.length : Int)) = true := by rw [hl]; exact hc
            have ih := fun hh => ih () ⟨p ++ [y], q, by rw [hb]; simp, by simp; omega, by simpa using hq, hh⟩
            rw [sameL] at h
            clear hb hp hq hl
            obtain ⟨ci, vb, vn, vs⟩ := x
            obtain ⟨di, wb, wn, ws⟩ := y
            rw [Run_loop]
            cases e : eqC ⟨di, ⟨wb, wn, ws⟩⟩ ⟨ci, ⟨vb, vn, vs⟩⟩ with
            | true =>
              rw [e, Bool.true_and] at h
              have ih := ih h
              simp only [eqC] at e
              simp only [f_lens_Lossless_l0_eq, f_lens_Lossless_l0u, hx, hy, hc, hby, hw, e, xu, yu, ih, go_sem]
            | false =>
              rw [e, Bool.false_and] at h
              simp only [eqC] at e
              simp only [f_lens_Lossless_l0_eq, f_lens_Lossless_l0u, hx, hy, hc, hby, e, xu, yu, h, go_sem]
end Go.Den

/-! The reference's Translate. -/
namespace Go.Den
open Go Go.Proofs
set_option linter.unusedSimpArgs false
set_option linter.unusedVariables false
set_option maxRecDepth 100000
set_option maxHeartbeats 1000000
section
variable {β : Type} {K : Ex × Env × St → Option β} {Z : Option β}
theorem rtrans_fwd {L : List Chg} {m : Nat} (hL : L.length < 1000000000) (h : Chain L m) (o1 : Ob) (a b : Int) (hb : b ≤ m) :
    ∀ (k i : Nat) (r : List Cell), (b - (i : Int)).toNat = k → ftA L i r → RB r → (i : Int) ≤ m →
    K (.exit 0, [(0, .sl (L.map Chg.cells)), (5, .rptr [.int .i64 a, .int .i64 b]), (6, .ref 0 0), (11, .ref 2 0), (14, .ref 3 0), (15, .int .i64 ((i : Int) + k)), (78, .bool false)],
      [.cells [.nils], o1, .cells [.sl ((stA L (i + k)).fs.map Fld.cells), .int .i64 (stA L (i + k)).next], .cells [.sl ((fwdN L i k r).map Cell.cells)]]) = Z →
    (Run prog 0 (.loop 4 [0, 5, 6, 11, 14, 15] f_R07_Translate_l0) [(0, .sl (L.map Chg.cells)), (5, .rptr [.int .i64 a, .int .i64 b]), (6, .ref 0 0), (11, .ref 2 0), (14, .ref 3 0), (15, .int .i64 i)]
      [.cells [.nils], o1, .cells [.sl ((stA L i).fs.map Fld.cells), .int .i64 (stA L i).next], .cells [.sl (r.map Cell.cells)]]).bind K = Z := by
  intro k
  have hml := h.le
  induction k with
  | zero =>
    intro i r hk f hrb him hK
    have d : decide ((i : Int) < b) = false := by simp; omega
    simp only [Int.natCast_zero, Int.add_zero, Nat.add_zero, fwdN] at hK
    rw [Run_loop]
    simp only [f_R07_Translate_l0_eq, f_R07_Translate_l0u, d, hK, go_sem]
  | succ k ih =>
    intro i r hk f hrb him hK
    have d : decide ((i : Int) < b) = true := by simp; omega
    have hc1 := h.down (show i + 1 ≤ m by omega)
    obtain ⟨c, hc, hck, he, hf1, hn1⟩ := hc1.step
    have sv := (h.down (show i ≤ m by omega)).sv
    have hft := of_ft sv.n.q.pos f
    have hrk : RK r := fits_rk sv hft
    have hF := R07_Forward sv c hck r (by have := hrk.len; omega) hrb
    have hA := R06_Apply (stA L i).fs (stA L i).next c sv.i.ok hck
    have hfw : forwardL (stA L i).fs (stA L i).next c r = fwdL c (stA L i).next r := by
      unfold forwardL
      rw [hft]
      simp [he]
    have hg : getE L (i : Int) = some c := by rw [getE_nat]; exact hc
    have hw : IntKind.wrap .i64 ((i : Int) + 1) = (i : Int) + 1 := wrap_i64 (by omega) (by omega)
    have ih := ih (i + 1) (fwdL c (stA L i).next r) (by omega) (fwd_step hc1 hc f) (fwd_b hrb _ _) (by omega) (by
      rw [fwdN, hc] at hK
      have e : (((i + 1 : Nat) : Int) + (k : Int)) = (i : Int) + ((k + 1 : Nat) : Int) := by omega
      have e2 : i + 1 + k = i + (k + 1) := by omega
      rw [e, e2]; exact hK)
    rw [show (((i + 1 : Nat) : Int)) = (i : Int) + 1 from rfl] at ih
    simp only [SR.av] at hA
    rw [hf1, hn1] at hA
    rw [hfw] at hF
    rw [cells_chg] at hF hA
    have hcc := cells_chg c
    clear hK hrk sv he hck hf1 hn1 hfw hft f
    generalize fwdL c (stA L i).next r = r' at *
    generalize (stA L i).fs = fs at *
    generalize (stA L i).next = nx at *
    rw [Run_loop]
    simp only [f_R07_Translate_l0_eq, f_R07_Translate_l0u, d, hg, hF, hA, hw, hcc, ih, go_sem]
theorem rtrans_bak {L : List Chg} {m : Nat} (hL : L.length < 1000000000) (h : Chain L m) (o1 : Ob) (a b : Int) (hb0 : 0 ≤ b) :
    ∀ (k i : Nat) (r : List Cell) (fs : List Fld) (nx : Int), ((i : Int) - b).toNat = k → (ftA L i r ∨ k = 0) → RB r → i ≤ m →
    (∀ (fs : List Fld) (nx : Int), K (.exit 2, [(0, .sl (L.map Chg.cells)), (5, .rptr [.int .i64 a, .int .i64 b]), (6, .ref 0 0), (11, .ref 2 0), (14, .ref 3 0), (16, .int .i64 ((i : Int) - k)), (102, .bool false)],
      [.cells [.nils], o1, .cells [.sl (fs.map Fld.cells), .int .i64 nx], .cells [.sl ((bakN L i k r).map Cell.cells)]]) = Z) →
    (Run prog 0 (.loop 4 [0, 5, 6, 11, 14, 16] f_R07_Translate_l1) [(0, .sl (L.map Chg.cells)), (5, .rptr [.int .i64 a, .int .i64 b]), (6, .ref 0 0), (11, .ref 2 0), (14, .ref 3 0), (16, .int .i64 i)]
      [.cells [.nils], o1, .cells [.sl (fs.map Fld.cells), .int .i64 nx], .cells [.sl (r.map Cell.cells)]]).bind K = Z := by
  intro k
  have hml := h.le
  induction k with
  | zero =>
    intro i r fs nx hk f hrb him hK
    have d : decide (b < (i : Int)) = false := by simp; omega
    have e : bakN L i 0 r = r := by cases i <;> rfl
    have hK := hK fs nx
    simp only [Int.natCast_zero, Int.sub_zero, e] at hK
    rw [Run_loop]
    simp only [f_R07_Translate_l1_eq, f_R07_Translate_l1u, d, hK, go_sem]
  | succ k ih =>
    intro i r fs nx hk f hrb him hK
    have f : ftA L i r := f.resolve_right (by omega)
    have d : decide (b < (i : Int)) = true := by simp; omega
    obtain ⟨i, rfl⟩ : ∃ i', i = i' + 1 := ⟨i - 1, by omega⟩
    have hc1 := h.down (show i + 1 ≤ m by omega)
    obtain ⟨c, hc, hck, he, hf1, hn1⟩ := hc1.step
    have sv := (h.down (show i ≤ m by omega)).sv
    have sv1 := hc1.sv
    have hft := of_ft sv1.n.q.pos f
    have hrk : RK r := fits_rk sv1 hft
    have hB := R07_Back sv c hck r (by have := hrk.len; omega) hrb
    have hbk : backL (stA L i).fs (stA L i).next c r = bakL c (stA L i).next r := by
      unfold backL
      rw [hf1, hft]
      simp [he]
    have hAf := R06_After (L.take i) (by rw [List.length_take]; omega) (fun c hc => h.ok c (List.mem_of_mem_take hc))
    rw [show AR.av (afterS [] 1 0 (L.take i)) = .tup [.agg [.sl ((stA L i).fs.map Fld.cells), .int .i64 (stA L i).next], .int .i64 (stA L i).at_, .int .i64 (stA L i).e] from rfl] at hAf
    have hg : getE L (i : Int) = some c := by rw [getE_nat]; exact hc
    have hw : IntKind.wrap .i64 ((i : Int) + 1 - 1) = (i : Int) := by rw [show ((i : Int) + 1 - 1) = i by omega]; exact wrap_i64 (by omega) (by omega)
    have ih := ih i (bakL c (stA L i).next r) (stA L i).fs (stA L i).next (by omega) (.inl (bak_step hc1 hc f)) (bak_b hrb _ _) (by omega) (by
      intro fs nx
      have hK := hK fs nx
      rw [bakN, hc] at hK
      have e : ((i : Int) - (k : Int)) = ((i + 1 : Nat) : Int) - ((k + 1 : Nat) : Int) := by omega
      rw [e]; exact hK)
    have hi0 : (0 : Int) ≤ (i : Int) := by omega
    have hi1 : (i : Int) ≤ (L.length : Int) := by omega
    have hlt : decide ((i : Int) < (L.length : Int)) = true := by simp; omega
    have hzL := szOK_map 8 Chg.cells L (fun x => rfl)
    have htk : (L.map Chg.cells).take i = (L.take i).map Chg.cells := (List.map_take ..).symm
    rw [show (((i + 1 : Nat) : Int)) = (i : Int) + 1 from rfl] at d ⊢
    rw [hbk] at hB
    rw [cells_chg] at hB
    have hcc := cells_chg c
    clear hK hrk sv sv1 he hck hf1 hn1 hbk hft f
    generalize bakL c (stA L i).next r = r' at *
    generalize (stA L i).fs = fs at *
    generalize (stA L i).next = nx at *
    rw [Run_loop]
    simp only [f_R07_Translate_l1_eq, f_R07_Translate_l1u, d, hg, hi0, hi1, hlt, hzL, htk, hAf, hB, hw, hcc, ih, go_sem]
end
theorem fwdN_rb {L : List Chg} : ∀ (k i : Nat) {r : List Cell}, RB r → RB (fwdN L i k r)
  | 0, i, r, h => h
  | k + 1, i, r, h => by
    rw [fwdN]
    split
    · exact fwdN_rb k (i + 1) (fwd_b h _ _)
    · exact fwdN_rb k (i + 1) h
theorem R07_Translate (L : List Chg) (r : List Cell) (a b : Int) (hL : L.length < 1000000000) (hc : ∀ c ∈ L, COK c) (hr : r.length < 1000000000000000) (hb : RB r) :
    Den prog 264 [.sl (L.map Chg.cells), .agg [.sl (r.map Cell.cells)], .agg [.int .i64 a, .int .i64 b]] [] = some (.tup [.agg [.sl ((transL L r a b).1.map Cell.cells)], .int .i64 (transL L r a b).2], []) := by
  rw [Den_ofK [] pr_R07_Translate rfl]
  unfold transL
  cases a1 : decide (a < 0) with
  | true => simp only [f_R07_Translate, a1, Bool.true_or, cond_true, List.map_nil, go_sem]
  | false => cases a2 : decide ((L.length : Int) < a) with
    | true => simp only [f_R07_Translate, a1, a2, Bool.true_or, Bool.false_or, cond_true, List.map_nil, go_sem]
    | false => cases b1 : decide (b < 0) with
      | true => simp only [f_R07_Translate, a1, a2, b1, Bool.true_or, Bool.false_or, cond_true, List.map_nil, go_sem]
      | false => cases b2 : decide ((L.length : Int) < b) with
        | true => simp only [f_R07_Translate, a1, a2, b1, b2, Bool.true_or, Bool.false_or, cond_true, List.map_nil, go_sem]
        | false =>
          have ha0 : 0 ≤ a := by simp at a1; omega
          have hb0 : 0 ≤ b := by simp at b1; omega
          have ha2 : a ≤ (L.length : Int) := by simp at a2; omega
          have hb2 : b ≤ (L.length : Int) := by simp at b2; omega
          obtain ⟨m, hm⟩ : ∃ m : Nat, mxI a b = (m : Int) := ⟨(mxI a b).toNat, by unfold mxI; split <;> omega⟩
          have ham : a ≤ (m : Int) := by rw [← hm]; unfold mxI; split <;> omega
          have hbm : b ≤ (m : Int) := by rw [← hm]; unfold mxI; split <;> omega
          have hmL : m ≤ L.length := by
            have : mxI a b ≤ (L.length : Int) := by unfold mxI; split <;> omega
            omega
          rw [hm]
          unfold mxI at hm
          obtain ⟨na, rfl⟩ : ∃ n : Nat, a = (n : Int) := ⟨a.toNat, by omega⟩
          obtain ⟨nb, rfl⟩ : ∃ n : Nat, b = (n : Int) := ⟨b.toNat, by omega⟩
          have hm0 : (0 : Int) ≤ (m : Int) := by omega
          have hmi : (m : Int) ≤ (L.length : Int) := by omega
          have hzL := szOK_map 8 Chg.cells L (fun x => rfl)
          have htk : (L.map Chg.cells).take m = (L.take m).map Chg.cells := (List.map_take ..).symm
          have hta : (L.map Chg.cells).take na = (L.take na).map Chg.cells := (List.map_take ..).symm
          have hAm := R06_After (L.take m) (by rw [List.length_take]; omega) (fun c hx => hc c (List.mem_of_mem_take hx))
          rw [show AR.av (afterS [] 1 0 (L.take m)) = .tup [.agg [.sl ((stA L m).fs.map Fld.cells), .int .i64 (stA L m).next], .int .i64 (stA L m).at_, .int .i64 (stA L m).e] from rfl] at hAm
          have hAa := R06_After (L.take na) (by rw [List.length_take]; omega) (fun c hx => hc c (List.mem_of_mem_take hx))
          rw [show AR.av (afterS [] 1 0 (L.take na)) = .tup [.agg [.sl ((stA L na).fs.map Fld.cells), .int .i64 (stA L na).next], .int .i64 (stA L na).at_, .int .i64 (stA L na).e] from rfl] at hAa
          simp only [Bool.or_self, cond_false, Int.toNat_natCast]
          cases d : decide ((stA L m).e = 0) with
          | false => simp only [f_R07_Translate, a1, a2, b1, b2, hm, hm0, hmi, hzL, htk, hAm, d, Bool.not_false, cond_true, List.map_nil, go_sem]
          | true =>
            have hch : Chain L m := ⟨hmL, hc, by simpa using d⟩
            have sv := (hch.down (show na ≤ m by omega)).sv
            have hft := R06_Fits (stA L na).fs (stA L na).next r (by have := sv.i.len; omega) hr sv.n.q.pos
            cases ft : fitsS (stA L na).fs 0 r with
            | false =>
              rw [ft] at hft
              simp only [f_R07_Translate, a1, a2, b1, b2, hm, hm0, hmi, ha0, ha2, hzL, htk, hta, hAm, hAa, hft, d, Bool.not_false, Bool.not_true, cond_true, cond_false, List.map_nil, go_sem]
            | true =>
              rw [ft] at hft
              have hfA : ftA L na r := ft_of ft
              have rk := fits_rk sv ft
              have pz := R07_Put0 r 0 hfA.srt (by have := rk.len; omega)
              rw [putL_zero fun c hc => ((fits_rise ft).2 c hc).1] at pz
              simp only [Bool.not_true, cond_false]
              simp only [f_R07_Translate, a1, a2, b1, b2, hm, hm0, hmi, ha0, ha2, hzL, htk, hta, hAm, hAa, hft, pz, d, go_sem]
              refine rtrans_fwd hL hch _ (na : Int) (nb : Int) hbm ((nb : Int) - (na : Int)).toNat na r rfl hfA hb ham ?_
              have hfF : ftA L na (fwdN L na ((nb : Int) - (na : Int)).toNat r) ∨ ((na : Int) - (nb : Int)).toNat = 0 := by
                by_cases h : nb ≤ na
                · left
                  rw [show ((nb : Int) - (na : Int)).toNat = 0 by omega]; exact hfA
                · right; omega
              have hrb := fwdN_rb (L := L) ((nb : Int) - (na : Int)).toNat na hb
              simp only [go_sem]
              generalize fwdN L na ((nb : Int) - (na : Int)).toNat r = R at *
              refine rtrans_bak hL hch _ (na : Int) (nb : Int) (by omega) ((na : Int) - (nb : Int)).toNat na R _ _ rfl hfF hrb (by omega) ?_
              intro fs nx
              simp only [go_sem]
end Go.Den
