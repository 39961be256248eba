/- Package page: rows of values: deleting, compacting, searching, repeating. -/
import Derived.Test.YtfjaimkpmehojaaGreatS10P
namespace Go.Den
open Go
set_option linter.unusedSimpArgs false
set_option linter.unusedVariables false
set_option maxRecDepth 100000
set_option maxHeartbeats 1000000
def noVz : Val := ⟨false, 0, ⟨#[]⟩⟩
section
variable (σ : St)
theorem lenO_part (ver n sz off len : Nat) (es : List (List AV)) (h : es.length = n) (h2 : off + len ≤ n) : lenO ver n off len σ (some (.arr ver sz es)) = some (.int .i64 len, σ, true) := by
  have : min len (es.length - off) = len := by omega
  simp [lenO, h, h2]; omega
theorem idxO_part (sz o ver n off len : Nat) (i : Int) (es : List (List AV)) (h : es.length = n) (h0 : 0 ≤ i) (h1 : i < len) (h2 : off + len ≤ n) : idxO sz o ver n off len i σ (some (.arr ver sz es)) = some (.eref o ver n (off + i.toNat) 0, σ, true) := by
  simp only [idxO]
  rw [if_pos ⟨trivial, h, trivial, h0, by omega, h2⟩]
theorem sliceO_low (sz o ver n off len : Nat) (k : IntKind) (l : Int) (es : List (List AV)) (h0 : 0 ≤ l) (h1 : l ≤ len) (h2 : es.length = n) (h3 : off + len ≤ n) : sliceO sz o ver n off len (some (.int k l)) none σ (some (.arr ver sz es)) = some (.osl o ver n (off + l.toNat) (len - l.toNat), σ, true) := by
  have : l.toNat ≤ len := by omega
  simp [sliceO, bnd, h0, this, h2, h3]
theorem appV_part (pr : Bool) (sz bytes o ver n len : Nat) (ys es : List (List AV)) (t : Bool) (h : szOKb sz ys = true) (ho : σ[o]? = some (.arr ver sz es)) (h1 : es.length = n) (h2 : len < n) (h0 : 0 < sz) (hb : (len + ys.length) * bytes ≤ 140737488355328) :
    appV pr sz bytes (.osl o ver n 0 len) σ (some (ys, t)) = some (.osl o (ver + 1) (len + ys.length) 0 (len + ys.length), σ.set o (.arr (ver + 1) sz (es.take len ++ ys)), true) := by
  have h3 : ¬ (len = n) := by omega
  have h4 : len ≤ n := by omega
  simp [appV, h, ho, h1, h3, h4, h0, hb]
end
theorem IndexFunc_Val (L : List Val) (hL : L.length < 1000000000000000) (f : Nat) (caps : List AV) (p : Val → Bool) (hcn : norms caps = caps) (hcr : norefs caps = true)
    (hp : ∀ x ∈ L, Den prog f (.agg [.bool x.null, .int .i64 x.n, .str x.s] :: caps) [] = some (.bool (p x), [])) : Den prog 273 [.sl (L.map Val.cells), .fn f caps] [] = some (.int .i64 (idxF p 0 L), []) := by
  rw [Den_ofK [] pr_slices_IndexFunc_api_Value_api_Value rfl]
  simp only [f_slices_IndexFunc_api_Value_api_Value, go_sem]
  refine range_ind L hL (fun i (_ : Unit) => (Run prog 0 (.loop 0 [0, 1, 7, 8] f_slices_IndexFunc_api_Value_api_Value_l0) [(0, .sl (L.map Val.cells)), (1, .fn f caps), (7, .int .i64 L.length), (8, .int .i64 i)] []).bind _ = _)
    (fun i rest _ => idxF p i rest = idxF p 0 L) ?_ ?_ () rfl
  · intro _ h
    rw [← h, Run_loop]
    simp only [f_slices_IndexFunc_api_Value_api_Value_l0_eq, f_slices_IndexFunc_api_Value_api_Value_l0u, idxF, go_sem]
  · intro i pre rest x _ hq _ hi0 hi1 hx hc hw h ih
    have hm := hp x (by rw [hq]; simp)
    rw [idxF] at h
    rw [Run_loop]
    cases d : p x with
    | true =>
      rw [d, cond_true] at h
      rw [← h]
      rw [d] at hm
      simp only [f_slices_IndexFunc_api_Value_api_Value_l0_eq, f_slices_IndexFunc_api_Value_api_Value_l0u, hx, hc, hw, hcn, hcr, hm, List.cons_append, List.nil_append, go_sem]
    | false =>
      rw [d, cond_false] at h
      rw [d] at hm
      have ih := ih () h
      simp only [f_slices_IndexFunc_api_Value_api_Value_l0_eq, f_slices_IndexFunc_api_Value_api_Value_l0u, hx, hc, hw, hcn, hcr, hm, ih, List.cons_append, List.nil_append, go_sem]
section
variable (v f : Nat) (caps : List AV) (p : Val → Bool) (tl : List Val) (n : Nat)
theorem delete_l0 {β : Type} {K : Ex × Env × St → Option β} {Z : Option β} (hcn : norms caps = caps) (hcr : norefs caps = true) (hcu : unders 1 caps = true) (hn : n < 1000000000000) (len : Nat) (hln : len + tl.length = n) (fin : List Val)
    (hK : ∀ E2 : List (List AV), (∃ mid' : List Val, fin.length + mid'.length = len ∧ E2 = (fin ++ mid' ++ tl).map Val.cells) → K (.exit 0, [(0, .osl 0 v n 0 len), (1, .fn f caps), (5, .int .i64 fin.length), (6, .int .i64 len), (19, .bool false)], [.arr v 3 E2]) = Z) :
    ∀ (rest kept mid : List Val) (i j : Nat), i = kept.length → j = i + mid.length → 0 < mid.length → j + rest.length = len → fin = kept ++ rest.filter (fun x => !p x) →
    (∀ x ∈ rest, Den prog f (.agg [.bool x.null, .int .i64 x.n, .str x.s] :: caps) [] = some (.bool (p x), [])) →
    (Run prog 1 (.loop 0 [0, 1, 5, 6] f_slices_DeleteFunc_api_Value_api_Value_l0) [(0, .osl 0 v n 0 len), (1, .fn f caps), (5, .int .i64 i), (6, .int .i64 j)]
      [.arr v 3 ((kept ++ mid ++ rest ++ tl).map Val.cells)]).bind K = Z := by
  intro rest
  induction rest with
  | nil =>
    intro kept mid i j hi hj hm hl hf hp
    simp only [List.filter_nil, List.append_nil] at hf
    subst hf
    have hK := hK _ ⟨mid, by simp at hl; omega, rfl⟩
    simp only [List.length_nil, Nat.add_zero] at hl
    subst hl
    rw [Run_loop]
    have h2 : j ≤ n := by omega
    have h3 : ((fin ++ mid ++ [] ++ tl).map Val.cells).length = n := by simp; omega
    have hlt : decide ((j : Int) < (j : Int)) = false := by simp
    simp only [List.append_nil] at h3 ⊢
    subst hi
    generalize (fin ++ mid ++ tl).map Val.cells = E at *
    simp only [f_slices_DeleteFunc_api_Value_api_Value_l0_eq, f_slices_DeleteFunc_api_Value_api_Value_l0u, lenO_part, h2, h3, hlt, hK, go_sem]
  | cons x rest ih =>
    intro kept mid i j hi hj hm hl hf hp
    have hpx := hp x (by simp)
    simp only [List.length_cons] at hl
    have hjl : j < len := by omega
    have hil : i < len := by omega
    have hln2 : len ≤ n := by omega
    have hE : ((kept ++ mid ++ (x :: rest) ++ tl).map Val.cells).length = n := by simp; omega
    have hdq : decide ((j : Int) < (len : Int)) = true := by simp; omega
    have hw1 : IntKind.wrap .i64 ((j : Int) + 1) = ((j + 1 : Nat) : Int) := by rw [wrap_i64 (by omega) (by omega)]; simp
    have hw2 : IntKind.wrap .i64 ((i : Int) + 1) = ((i + 1 : Nat) : Int) := by rw [wrap_i64 (by omega) (by omega)]; simp
    have hget : ((kept ++ mid ++ (x :: rest) ++ tl).map Val.cells)[j]? = some [.bool x.null, .int .i64 x.n, .str x.s] := by
      rw [List.getElem?_map, List.append_assoc, List.getElem?_append_right (by simp; omega)]
      have : j - (kept ++ mid).length = 0 := by simp; omega
      rw [this]; simp [Val.cells]
    obtain ⟨y, m, rfl⟩ : ∃ y m, mid = y :: m := by cases mid with | nil => simp at hm | cons y m => exact ⟨y, m, rfl⟩
    have hgk : ((kept ++ (y :: m) ++ (x :: rest) ++ tl).map Val.cells)[i]? = some y.cells := by
      subst hi
      rw [List.getElem?_map, List.append_assoc, List.append_assoc, List.getElem?_append_right (by simp)]
      simp
    have hset : ((kept ++ (y :: m) ++ (x :: rest) ++ tl).map Val.cells).set i [.bool x.null, .int .i64 x.n, .str x.s] = ((kept ++ [x]) ++ (m ++ [x]) ++ rest ++ tl).map Val.cells := by
      have : i = (kept.map Val.cells).length := by simp [hi]
      rw [show (kept ++ (y :: m) ++ (x :: rest) ++ tl) = kept ++ (y :: (m ++ (x :: rest) ++ tl)) by simp, List.map_append, this, List.set_append_right _ _ (Nat.le_refl _)]
      simp [Val.cells]
    have hyl : y.cells.length = 3 := rfl
    have hty : y.cells.drop 3 = [] := rfl
    have hjI : (j : Int) < (len : Int) := by omega
    have hiI : (i : Int) < (len : Int) := by omega
    rw [Run_loop]
    cases d : p x with
    | true =>
      have ih := ih kept (y :: m ++ [x]) i (j + 1) hi (by simp at hj ⊢; omega) (by simp) (by omega) (by simpa [d] using hf) (fun z hz => hp z (by simp [hz]))
      rw [show kept ++ (y :: m ++ [x]) ++ rest ++ tl = kept ++ (y :: m) ++ (x :: rest) ++ tl by simp] at ih
      rw [d] at hpx
      clear hset hf hp hj hm hl hi hil
      generalize (kept ++ (y :: m) ++ (x :: rest) ++ tl).map Val.cells = E at *
      simp only [go_sem] at ih
      simp only [f_slices_DeleteFunc_api_Value_api_Value_l0_eq, f_slices_DeleteFunc_api_Value_api_Value_l0u, lenO_part, idxO_part, hln2, hE, hdq, hjI, hiI, hget, hpx, hw1, ih, hcn, hcr, hcu, go_sem]
    | false =>
      have ih := ih (kept ++ [x]) (m ++ [x]) (i + 1) (j + 1) (by simp [hi]) (by simp at hj ⊢; omega) (by simp) (by omega) (by simpa [d] using hf) (fun z hz => hp z (by simp [hz]))
      rw [d] at hpx
      clear hf hp hj hm hl hi
      generalize (kept ++ (y :: m) ++ (x :: rest) ++ tl).map Val.cells = E at *
      generalize ((kept ++ [x]) ++ (m ++ [x]) ++ rest ++ tl).map Val.cells = E2 at *
      simp only [go_sem] at ih
      simp only [f_slices_DeleteFunc_api_Value_api_Value_l0_eq, f_slices_DeleteFunc_api_Value_api_Value_l0u, lenO_part, idxO_part, hln2, hE, hdq, hjI, hiI, hil, hget, hgk, hset, hyl, hty, hpx, hw1, hw2, ih, hcn, hcr, hcu, go_sem]
theorem idxF_cases {α : Type} (p : α → Bool) : ∀ (L : List α) (i : Int), 0 ≤ i → (idxF p i L = -1 ∧ ∀ x ∈ L, p x = false) ∨ ∃ pre x post, L = pre ++ x :: post ∧ (∀ y ∈ pre, p y = false) ∧ p x = true ∧ idxF p i L = i + pre.length
  | [], i, h => .inl ⟨rfl, by simp⟩
  | x :: r, i, h => by
    rw [idxF]
    cases hx : p x with
    | true => exact .inr ⟨[], x, r, rfl, by simp, hx, by simp⟩
    | false =>
      rcases idxF_cases p r (i + 1) (by omega) with ⟨h1, h2⟩ | ⟨pre, y, post, h1, h2, h3, h4⟩
      · refine .inl ⟨h1, fun z hz => ?_⟩
        rcases List.mem_cons.1 hz with rfl | hz
        · exact hx
        · exact h2 z hz
      · refine .inr ⟨x :: pre, y, post, by rw [h1]; rfl, fun z hz => ?_, h3, by simp only [cond_false, h4, List.length_cons]; simp; omega⟩
        rcases List.mem_cons.1 hz with rfl | hz
        · exact hx
        · exact h2 z hz
theorem filter_none {α : Type} {p : α → Bool} {L : List α} (h : ∀ x ∈ L, p x = false) : L.filter (fun x => !p x) = L := by
  rw [List.filter_eq_self]; intro x hx; simp [h x hx]
theorem delete_val (hcn : norms caps = caps) (hcr : norefs caps = true) (hcu : unders 1 caps = true) (fs : List Val) (hn : n < 1000000000000) (hln : fs.length + tl.length = n)
    (hp : ∀ x ∈ fs, Den prog f (.agg [.bool x.null, .int .i64 x.n, .str x.s] :: caps) [] = some (.bool (p x), [])) :
    ∃ tl' : List Val, (fs.filter fun x => !p x).length + tl'.length = n ∧ Den prog 537 [.osl 0 v n 0 fs.length, .fn f caps] [.arr v 3 ((fs ++ tl).map Val.cells)] =
      some (.osl 0 v n 0 (fs.filter fun x => !p x).length, [.arr v 3 (((fs.filter fun x => !p x) ++ tl').map Val.cells)]) := by
  have hI := IndexFunc_Val fs (by omega) f caps p hcn hcr hp
  have hE : ((fs ++ tl).map Val.cells).length = n := by simp; omega
  have htk : ((fs ++ tl).map Val.cells).take fs.length = fs.map Val.cells := by
    rw [List.map_append, List.take_left' (by simp)]
  have hln2 : fs.length ≤ n := by omega
  have hfb : ∀ (k : Nat) (τ : St), fin .yes 1 (.osl 0 v n 0 k) τ = some (.osl 0 v n 0 k, τ.take 1) := fun k τ => fin_back τ 1 0 v n 0 k (by omega)
  rw [Den_ofK _ pr_slices_DeleteFunc_api_Value_api_Value rfl]
  rcases idxF_cases p fs 0 (by omega) with ⟨h1, h2⟩ | ⟨pre, x, post, h1, h2, h3, h4⟩
  · refine ⟨tl, by rw [filter_none h2]; omega, ?_⟩
    rw [filter_none h2]
    rw [h1] at hI
    have d : decide ((-1 : Int) = -1) = true := rfl
    generalize (fs ++ tl).map Val.cells = E at *
    simp only [f_slices_DeleteFunc_api_Value_api_Value, hI, hE, htk, hln2, frzO_part, d, hfb, hcn, hcr, go_sem]
  · have hfin : (fs.filter fun x => !p x) = pre ++ post.filter fun x => !p x := by
      rw [h1, List.filter_append, filter_none h2, List.filter_cons]; simp [h3]
    have hlf : fs.length = pre.length + 1 + post.length := by simp [h1]; omega
    rw [h4] at hI
    rw [hfin]
    obtain ⟨out, hout⟩ : ∃ out, out = pre ++ post.filter fun x => !p x := ⟨_, rfl⟩
    rw [← hout]
    have hol : out.length ≤ fs.length := by rw [hout, hlf, List.length_append]; have := List.length_filter_le (fun x => !p x) post; omega
    refine ⟨List.replicate (fs.length - out.length) noVz ++ tl, by simp; omega, ?_⟩
    have d : decide ((pre.length : Int) = -1) = false := by rw [decide_eq_false_iff_not]; omega
    have hw : IntKind.wrap .i64 ((pre.length : Int) + 1) = ((pre.length + 1 : Nat) : Int) := by rw [wrap_i64 (by omega) (by omega)]; simp
    have hl := fun (K : Ex × Env × St → Option (AV × St)) Z hK => delete_l0 v f caps p tl n (K := K) (Z := Z) hcn hcr hcu hn fs.length hln out hK post pre [x] pre.length (pre.length + 1) rfl (by simp) (by simp) (by omega) hout (fun z hz => hp z (by rw [h1]; simp [hz]))
    rw [show pre ++ [x] ++ post ++ tl = fs ++ tl by simp [h1]] at hl
    generalize (fs ++ tl).map Val.cells = E at *
    simp only [go_sem] at hl hI
    simp only [f_slices_DeleteFunc_api_Value_api_Value, hI, hE, htk, hln2, frzO_part, d, hw, hfb, hcn, hcr, go_sem]
    refine hl _ _ ?_
    rintro E2 ⟨mid', hm', hE2⟩
    have hl2 : E2.length = n := by rw [hE2]; simp; omega
    have hol2 : (out.length : Int) ≤ (fs.length : Int) := by omega
    have hsum : out.length + (fs.length - out.length) ≤ n := by omega
    have hclr : E2.take out.length ++ (List.replicate (fs.length - out.length) [AV.bool false, AV.int .i64 0, AV.str ⟨#[]⟩] ++ E2.drop (out.length + (fs.length - out.length))) =
        (out ++ (List.replicate (fs.length - out.length) noVz ++ tl)).map Val.cells := by
      have e1 : E2.take out.length = out.map Val.cells := by
        rw [hE2, List.take_left' (by simp)]
      have e2 : E2.drop (out.length + (fs.length - out.length)) = tl.map Val.cells := by
        rw [hE2, ← List.append_assoc, List.drop_left' (by simp; omega)]
      rw [e1, e2]
      simp [Val.cells, noVz]
    clear hE2 hl
    have hE3 : ((out ++ (List.replicate (fs.length - out.length) noVz ++ tl)).map Val.cells).length = n := by simp; omega
    obtain ⟨E3, he3⟩ : ∃ E3, E3 = (out ++ (List.replicate (fs.length - out.length) noVz ++ tl)).map Val.cells := ⟨_, rfl⟩
    rw [← he3] at hE3 hclr
    simp only [List.map_append] at he3
    simp only [← he3, sliceO_low, sliceO_to, hl2, hE3, hol2, hln2, hsum, hclr, hfb, go_sem]
end
end Go.Den
