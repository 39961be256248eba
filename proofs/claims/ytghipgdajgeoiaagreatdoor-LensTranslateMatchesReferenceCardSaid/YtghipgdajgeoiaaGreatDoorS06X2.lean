/- Package schema: on a state with 2 objects behind it (mk06.py). -/
import Derived.Test.YtghipgdajgeoiaaGreatDoorS06E
namespace Go.Den
open Go
set_option linter.unusedSimpArgs false
set_option linter.unusedVariables false
set_option maxRecDepth 100000
set_option maxHeartbeats 1000000
theorem finV_nil4X2 (σ : St) : finV .no 6 σ [] = some (.tup [], σ.take 6) := rfl
attribute [go_sem] finV_nil4X2
section
variable (o0 o1 x4 x5 : Ob) (fs : List Fld) (next : Int) (v : Nat)
theorem schema_takenX2 (par : Int) (nm : ByteArray) (wo : List Int) (hL : fs.length < 1000000000000) (hn : nm.size < 1000000000000000) (hw : wo.length < 1000000000000000) :
    Den prog 183 [.ref 3 0, .int .i64 par, .str nm, .sl (wo.map icell)] ([o0, o1, Ob.arr v 4 (fs.map Fld.cells), Ob.cells [AV.osl 2 v fs.length 0 fs.length, AV.int IntKind.i64 next], x4, x5] : St) = some (.bool (tk fs par nm wo), ([o0, o1, Ob.arr v 4 (fs.map Fld.cells), Ob.cells [AV.osl 2 v fs.length 0 fs.length, AV.int IntKind.i64 next], x4, x5] : St)) := by
  have h := ContainsFunc_Fld fs (by omega) 179 [.rptr [.int .i64 par], .rptr [.str nm], .rptr [.sl (wo.map icell)]] (tkB par nm wo) rfl rfl (fun x _ => schema_taken_1 x par nm wo hw)
  rw [Den_ofK _ pr_schema_state_taken rfl]
  unfold tk
  cases d : nameOk nm with
  | false => simp only [f_schema_state_taken, hn, d, go_sem]
  | true => simp only [f_schema_state_taken, hn, d, h, List.take_length, go_sem]
theorem schema_fullX2 (n : Int) (h0 : 0 ≤ n) (h1 : n < 1000) : Den prog 184 [.ref 3 0, .int .i64 n] ([o0, o1, Ob.arr v 4 (fs.map Fld.cells), Ob.cells [AV.osl 2 v fs.length 0 fs.length, AV.int IntKind.i64 next], x4, x5] : St) = some (.bool (decide (64 ≤ (fs.length : Int)) || decide (1073741824 - n < next)), ([o0, o1, Ob.arr v 4 (fs.map Fld.cells), Ob.cells [AV.osl 2 v fs.length 0 fs.length, AV.int IntKind.i64 next], x4, x5] : St)) := by
  rw [Den_ofK _ pr_schema_state_full rfl]
  have hw : IntKind.wrap .i64 (1073741824 - n) = 1073741824 - n := wrap_i64 (by omega) (by omega)
  cases d : decide (64 ≤ (fs.length : Int)) with
  | true => simp only [f_schema_state_full, hw, d, go_sem]
  | false => simp only [f_schema_state_full, hw, d, go_sem]
theorem schema_plusX2 (nm : ByteArray) (ty pa : Int) (hL : fs.length < 1000000000000) (h0 : 0 ≤ next) (h1 : next < 1000000000000) :
    Den prog 185 [.ref 3 0, .str nm, .int .i64 ty, .int .i64 pa] ([o0, o1, Ob.arr v 4 (fs.map Fld.cells), Ob.cells [AV.osl 2 v fs.length 0 fs.length, AV.int IntKind.i64 next], x4, x5] : St) =
      some (.tup [], [o0, o1, Ob.arr v 4 ((fs ++ [(⟨next, nm, ty, pa⟩ : Fld)]).map Fld.cells), Ob.cells [AV.osl 2 v (fs ++ [(⟨next, nm, ty, pa⟩ : Fld)]).length 0 (fs ++ [(⟨next, nm, ty, pa⟩ : Fld)]).length, AV.int IntKind.i64 (next + 1)], x4, x5]) := by
  rw [Den_ofK _ pr_schema_state_plus rfl]
  have hw : IntKind.wrap .i64 (next + 1) = next + 1 := wrap_i64 (by omega) (by omega)
  have hb : (fs.length + 1) * 40 ≤ 140737488355328 := by omega
  simp only [f_schema_state_plus, hw, hb, go_sem]
theorem ancestors_l0X2 {β : Type} {K : Ex × Env × St → Option β} {Z : Option β} (hL : fs.length < 1000000000000) (b2 b3 : Nat) : ∀ (k : Nat) (id : Int) (out : List Int), out.length + k = 9 → 0 < k →
    K (.exit 0, [(1, .int .i64 (anc fs k id out).2), (2, .ref 6 0), (6, .osl 7 0 (anc fs k id out).1.length 0 (anc fs k id out).1.length), (10, .bool false)], ([o0, o1, Ob.arr v 4 (fs.map Fld.cells), Ob.cells [AV.osl 2 v fs.length 0 fs.length, AV.int IntKind.i64 next], x4, x5] : St) ++ [.cells [.osl 2 v fs.length 0 fs.length, .int .i64 next], .arr 0 1 ((anc fs k id out).1.map icell)]) = Z →
    K (.exit 0, [(1, .int .i64 (anc fs k id out).2), (6, .osl 7 0 (anc fs k id out).1.length 0 (anc fs k id out).1.length)], ([o0, o1, Ob.arr v 4 (fs.map Fld.cells), Ob.cells [AV.osl 2 v fs.length 0 fs.length, AV.int IntKind.i64 next], x4, x5] : St) ++ [.cells [.osl 2 v fs.length 0 fs.length, .int .i64 next], .arr 0 1 ((anc fs k id out).1.map icell), .cells [.int .i64 (getF fs (anc fs k id out).2).id, .str (getF fs (anc fs k id out).2).name, .int .i64 (getF fs (anc fs k id out).2).type, .int .i64 (getF fs (anc fs k id out).2).par]]) = Z →
    (Run prog 6 (.loop 2 [1, 2, 6] f_schema_ancestors_l0) [(1, .int .i64 id), (2, .ref 6 0), (6, .osl 7 0 out.length 0 out.length)] (([o0, o1, Ob.arr v 4 (fs.map Fld.cells), Ob.cells [AV.osl 2 v fs.length 0 fs.length, AV.int IntKind.i64 next], x4, x5] : St) ++ [.cells [.osl 2 v fs.length 0 fs.length, .int .i64 next], .arr 0 1 (out.map icell)])).bind K = Z := by
  intro k
  induction k with
  | zero => intro id out _ h0; exact absurd h0 (by omega)
  | succ k ih =>
    intro id out ho _ hK hK2
    rw [anc] at hK hK2
    rw [Run_loop]
    have hb : (out.length + 1) * 8 ≤ 140737488355328 := by omega
    cases d0 : decide (id = 0) with
    | true =>
      rw [d0, cond_true] at hK hK2
      simp only [go_sem] at hK hK2
      simp only [f_schema_ancestors_l0_eq, f_schema_ancestors_l0u, d0, hK, go_sem]
    | false =>
      rw [d0, cond_false] at hK hK2
      have hF := schema_Field fs next id (by omega)
      cases d1 : hasF fs id with
      | false =>
        rw [d1, Bool.not_false, Bool.true_or, cond_true] at hK hK2
        rw [d1] at hF
        simp only [List.length_append, List.length_cons, List.length_nil, List.map_append, List.map_cons, List.map_nil, icell, go_sem] at hK hK2
        simp only [f_schema_ancestors_l0_eq, f_schema_ancestors_l0u, d0, d1, hF, hb, hK2, icell, go_sem]
      | true =>
        rw [d1, Bool.not_true, Bool.false_or] at hK hK2
        rw [d1] at hF
        cases d2 : decide ((out.length : Int) = 8) with
        | true =>
          rw [d2, cond_true] at hK hK2
          simp only [List.length_append, List.length_cons, List.length_nil, List.map_append, List.map_cons, List.map_nil, icell, go_sem] at hK hK2
          simp only [f_schema_ancestors_l0_eq, f_schema_ancestors_l0u, d0, d1, d2, hF, hb, hK2, icell, go_sem]
        | false =>
          rw [d2, cond_false] at hK hK2
          have h8 : (out.length : Int) ≠ 8 := by simpa using d2
          have ih := ih (getF fs id).par (out ++ [id]) (by simp; omega) (by omega) hK hK2
          simp only [List.length_append, List.length_cons, List.length_nil, List.map_append, List.map_cons, List.map_nil, icell, go_sem] at ih
          simp only [f_schema_ancestors_l0_eq, f_schema_ancestors_l0u, d0, d1, d2, hF, hb, ih, icell, go_sem]
theorem schema_ancestorsX2 (id : Int) (hL : fs.length < 1000000000000) :
    Den prog 181 [.agg [.osl 2 v fs.length 0 fs.length, .int .i64 next], .int .i64 id] ([o0, o1, Ob.arr v 4 (fs.map Fld.cells), Ob.cells [AV.osl 2 v fs.length 0 fs.length, AV.int IntKind.i64 next], x4, x5] : St) = some (.tup [.sl ((anc fs 9 id []).1.map icell), .bool (decide ((anc fs 9 id []).2 = 0))], ([o0, o1, Ob.arr v 4 (fs.map Fld.cells), Ob.cells [AV.osl 2 v fs.length 0 fs.length, AV.int IntKind.i64 next], x4, x5] : St)) := by
  rw [Den_ofK _ pr_schema_ancestors rfl]
  have hl := fun (K : Ex × Env × St → Option (AV × St)) Z => ancestors_l0X2 o0 o1 x4 x5 fs next v (K := K) (Z := Z) hL 0 0 9 id [] rfl (by omega)
  simp only [go_sem] at hl
  simp only [f_schema_ancestors, go_sem]
  refine hl _ _ ?_ ?_
  · simp only [go_sem]
  · simp only [go_sem]
end
section
variable (o0 o1 o3 x4 x5 : Ob) (v f : Nat) (caps : List AV) (p : Fld → Bool) (tl : List Fld) (n : Nat)
theorem delete_l0X2 {β : Type} {K : Ex × Env × St → Option β} {Z : Option β} (hcn : norms caps = caps) (hcr : norefs caps = true) (hcu : unders 6 caps = true) (hn : n < 1000000000000) (len : Nat) (hln : len + tl.length = n) (fin : List Fld)
    (hK : ∀ E2 : List (List AV), (∃ mid' : List Fld, fin.length + mid'.length = len ∧ E2 = (fin ++ mid' ++ tl).map Fld.cells) → K (.exit 0, [(0, .osl 2 v n 0 len), (1, .fn f caps), (5, .int .i64 fin.length), (6, .int .i64 len), (19, .bool false)], [o0, o1, .arr v 4 E2, o3, x4, x5]) = Z) :
    ∀ (rest kept mid : List Fld) (i j : Nat), i = kept.length → j = i + mid.length → 0 < mid.length → j + rest.length = len → fin = kept ++ rest.filter (fun x => !p x) →
    (∀ x ∈ rest, Den prog f (.agg [.int .i64 x.id, .str x.name, .int .i64 x.type, .int .i64 x.par] :: caps) [] = some (.bool (p x), [])) →
    (Run prog 6 (.loop 0 [0, 1, 5, 6] f_slices_DeleteFunc_api_Field_api_Field_l0) [(0, .osl 2 v n 0 len), (1, .fn f caps), (5, .int .i64 i), (6, .int .i64 j)]
      [o0, o1, .arr v 4 ((kept ++ mid ++ rest ++ tl).map Fld.cells), o3, x4, x5]).bind K = Z := by
  intro rest
  induction rest with
  | nil =>
    intro kept mid i j hi hj hm hl hf hp
    simp only [List.filter_nil, List.append_nil] at hf
    subst hf
    have hK := hK _ ⟨mid, by simp at hl; omega, rfl⟩
    simp only [List.length_nil, Nat.add_zero] at hl
    subst hl
    rw [Run_loop]
    have h2 : j ≤ n := by omega
    have h3 : ((fin ++ mid ++ [] ++ tl).map Fld.cells).length = n := by simp; omega
    have hlt : decide ((j : Int) < (j : Int)) = false := by simp
    simp only [List.append_nil] at h3 ⊢
    subst hi
    generalize (fin ++ mid ++ tl).map Fld.cells = E at *
    simp only [f_slices_DeleteFunc_api_Field_api_Field_l0_eq, f_slices_DeleteFunc_api_Field_api_Field_l0u, lenO_part, h2, h3, hlt, hK, go_sem]
  | cons x rest ih =>
    intro kept mid i j hi hj hm hl hf hp
    have hpx := hp x (by simp)
    simp only [List.length_cons] at hl
    have hjl : j < len := by omega
    have hil : i < len := by omega
    have hln2 : len ≤ n := by omega
    have hE : ((kept ++ mid ++ (x :: rest) ++ tl).map Fld.cells).length = n := by simp; omega
    have hdq : decide ((j : Int) < (len : Int)) = true := by simp; omega
    have hw1 : IntKind.wrap .i64 ((j : Int) + 1) = ((j + 1 : Nat) : Int) := by rw [wrap_i64 (by omega) (by omega)]; simp
    have hw2 : IntKind.wrap .i64 ((i : Int) + 1) = ((i + 1 : Nat) : Int) := by rw [wrap_i64 (by omega) (by omega)]; simp
    have hget : ((kept ++ mid ++ (x :: rest) ++ tl).map Fld.cells)[j]? = some [.int .i64 x.id, .str x.name, .int .i64 x.type, .int .i64 x.par] := by
      rw [List.getElem?_map, List.append_assoc, List.getElem?_append_right (by simp; omega)]
      have : j - (kept ++ mid).length = 0 := by simp; omega
      rw [this]; simp [Fld.cells]
    obtain ⟨y, m, rfl⟩ : ∃ y m, mid = y :: m := by cases mid with | nil => simp at hm | cons y m => exact ⟨y, m, rfl⟩
    have hgk : ((kept ++ (y :: m) ++ (x :: rest) ++ tl).map Fld.cells)[i]? = some y.cells := by
      subst hi
      rw [List.getElem?_map, List.append_assoc, List.append_assoc, List.getElem?_append_right (by simp)]
      simp
    have hset : ((kept ++ (y :: m) ++ (x :: rest) ++ tl).map Fld.cells).set i [.int .i64 x.id, .str x.name, .int .i64 x.type, .int .i64 x.par] = ((kept ++ [x]) ++ (m ++ [x]) ++ rest ++ tl).map Fld.cells := by
      have : i = (kept.map Fld.cells).length := by simp [hi]
      rw [show (kept ++ (y :: m) ++ (x :: rest) ++ tl) = kept ++ (y :: (m ++ (x :: rest) ++ tl)) by simp, List.map_append, this, List.set_append_right _ _ (Nat.le_refl _)]
      simp [Fld.cells]
    have hyl : y.cells.length = 4 := rfl
    have hty : y.cells.drop 4 = [] := rfl
    have hjI : (j : Int) < (len : Int) := by omega
    have hiI : (i : Int) < (len : Int) := by omega
    rw [Run_loop]
    cases d : p x with
    | true =>
      have ih := ih kept (y :: m ++ [x]) i (j + 1) hi (by simp at hj ⊢; omega) (by simp) (by omega) (by simpa [d] using hf) (fun z hz => hp z (by simp [hz]))
      rw [show kept ++ (y :: m ++ [x]) ++ rest ++ tl = kept ++ (y :: m) ++ (x :: rest) ++ tl by simp] at ih
      rw [d] at hpx
      clear hset hf hp hj hm hl hi hil
      generalize (kept ++ (y :: m) ++ (x :: rest) ++ tl).map Fld.cells = E at *
      simp only [go_sem] at ih
      simp only [f_slices_DeleteFunc_api_Field_api_Field_l0_eq, f_slices_DeleteFunc_api_Field_api_Field_l0u, lenO_part, idxO_part, hln2, hE, hdq, hjI, hiI, hget, hpx, hw1, ih, hcn, hcr, hcu, go_sem]
    | false =>
      have ih := ih (kept ++ [x]) (m ++ [x]) (i + 1) (j + 1) (by simp [hi]) (by simp at hj ⊢; omega) (by simp) (by omega) (by simpa [d] using hf) (fun z hz => hp z (by simp [hz]))
      rw [d] at hpx
      clear hf hp hj hm hl hi
      generalize (kept ++ (y :: m) ++ (x :: rest) ++ tl).map Fld.cells = E at *
      generalize ((kept ++ [x]) ++ (m ++ [x]) ++ rest ++ tl).map Fld.cells = E2 at *
      simp only [go_sem] at ih
      simp only [f_slices_DeleteFunc_api_Field_api_Field_l0_eq, f_slices_DeleteFunc_api_Field_api_Field_l0u, lenO_part, idxO_part, hln2, hE, hdq, hjI, hiI, hil, hget, hgk, hset, hyl, hty, hpx, hw1, hw2, ih, hcn, hcr, hcu, go_sem]
theorem delete_fieldX2 (hcn : norms caps = caps) (hcr : norefs caps = true) (hcu : unders 6 caps = true) (fs : List Fld) (hn : n < 1000000000000) (hln : fs.length + tl.length = n)
    (hp : ∀ x ∈ fs, Den prog f (.agg [.int .i64 x.id, .str x.name, .int .i64 x.type, .int .i64 x.par] :: caps) [] = some (.bool (p x), [])) :
    ∃ tl' : List Fld, (fs.filter fun x => !p x).length + tl'.length = n ∧ Den prog 187 [.osl 2 v n 0 fs.length, .fn f caps] [o0, o1, .arr v 4 ((fs ++ tl).map Fld.cells), o3, x4, x5] =
      some (.osl 2 v n 0 (fs.filter fun x => !p x).length, [o0, o1, .arr v 4 (((fs.filter fun x => !p x) ++ tl').map Fld.cells), o3, x4, x5]) := by
  have hI := IndexFunc_Fld fs (by omega) f caps p hcn hcr hp
  have hE : ((fs ++ tl).map Fld.cells).length = n := by simp; omega
  have htk : ((fs ++ tl).map Fld.cells).take fs.length = fs.map Fld.cells := by
    rw [List.map_append, List.take_left' (by simp)]
  have hln2 : fs.length ≤ n := by omega
  have hfb : ∀ (k : Nat) (τ : St), fin .yes 6 (.osl 2 v n 0 k) τ = some (.osl 2 v n 0 k, τ.take 6) := fun k τ => fin_back τ 6 2 v n 0 k (by omega)
  rw [Den_ofK _ pr_slices_DeleteFunc_api_Field_api_Field rfl]
  rcases idxF_cases p fs 0 (by omega) with ⟨h1, h2⟩ | ⟨pre, x, post, h1, h2, h3, h4⟩
  · refine ⟨tl, by rw [filter_none h2]; omega, ?_⟩
    rw [filter_none h2]
    rw [h1] at hI
    have d : decide ((-1 : Int) = -1) = true := rfl
    generalize (fs ++ tl).map Fld.cells = E at *
    simp only [f_slices_DeleteFunc_api_Field_api_Field, hI, hE, htk, hln2, frzO_part, d, hfb, hcn, hcr, go_sem]
  · have hfin : (fs.filter fun x => !p x) = pre ++ post.filter fun x => !p x := by
      rw [h1, List.filter_append, filter_none h2, List.filter_cons]; simp [h3]
    have hlf : fs.length = pre.length + 1 + post.length := by simp [h1]; omega
    rw [h4] at hI
    rw [hfin]
    obtain ⟨out, hout⟩ : ∃ out, out = pre ++ post.filter fun x => !p x := ⟨_, rfl⟩
    rw [← hout]
    have hol : out.length ≤ fs.length := by rw [hout, hlf, List.length_append]; have := List.length_filter_le (fun x => !p x) post; omega
    refine ⟨List.replicate (fs.length - out.length) noF ++ tl, by simp; omega, ?_⟩
    have d : decide ((pre.length : Int) = -1) = false := by rw [decide_eq_false_iff_not]; omega
    have hw : IntKind.wrap .i64 ((pre.length : Int) + 1) = ((pre.length + 1 : Nat) : Int) := by rw [wrap_i64 (by omega) (by omega)]; simp
    have hl := fun (K : Ex × Env × St → Option (AV × St)) Z hK => delete_l0X2 o0 o1 o3 x4 x5 v f caps p tl n (K := K) (Z := Z) hcn hcr hcu hn fs.length hln out hK post pre [x] pre.length (pre.length + 1) rfl (by simp) (by simp) (by omega) hout (fun z hz => hp z (by rw [h1]; simp [hz]))
    rw [show pre ++ [x] ++ post ++ tl = fs ++ tl by simp [h1]] at hl
    generalize (fs ++ tl).map Fld.cells = E at *
    simp only [go_sem] at hl hI
    simp only [f_slices_DeleteFunc_api_Field_api_Field, hI, hE, htk, hln2, frzO_part, d, hw, hfb, hcn, hcr, go_sem]
    refine hl _ _ ?_
    rintro E2 ⟨mid', hm', hE2⟩
    have hl2 : E2.length = n := by rw [hE2]; simp; omega
    have hol2 : (out.length : Int) ≤ (fs.length : Int) := by omega
    have hsum : out.length + (fs.length - out.length) ≤ n := by omega
    have hclr : E2.take out.length ++ (List.replicate (fs.length - out.length) [AV.int .i64 0, AV.str ⟨#[]⟩, AV.int .i64 0, AV.int .i64 0] ++ E2.drop (out.length + (fs.length - out.length))) =
        (out ++ (List.replicate (fs.length - out.length) noF ++ tl)).map Fld.cells := by
      have e1 : E2.take out.length = out.map Fld.cells := by
        rw [hE2, List.take_left' (by simp)]
      have e2 : E2.drop (out.length + (fs.length - out.length)) = tl.map Fld.cells := by
        rw [hE2, ← List.append_assoc, List.drop_left' (by simp; omega)]
      rw [e1, e2]
      simp [Fld.cells, noF]
    clear hE2 hl
    have hE3 : ((out ++ (List.replicate (fs.length - out.length) noF ++ tl)).map Fld.cells).length = n := by simp; omega
    obtain ⟨E3, he3⟩ : ∃ E3, E3 = (out ++ (List.replicate (fs.length - out.length) noF ++ tl)).map Fld.cells := ⟨_, rfl⟩
    rw [← he3] at hE3 hclr
    simp only [List.map_append] at he3
    simp only [← he3, sliceO_low, sliceO_to, hl2, hE3, hol2, hln2, hsum, hclr, hfb, go_sem]
end
section
variable (o0 o1 x4 x5 : Ob) (next : Int) (v n : Nat) (tl : List Fld) (fs : List Fld)
theorem schema_removeX2 (id : Int) (hn : n < 1000000000000) (hln : fs.length + tl.length = n) :
    ∃ tl' : List Fld, (less fs id).length + tl'.length = n ∧ Den prog 189 [.ref 3 0, .int .i64 id] [o0, o1, .arr v 4 ((fs ++ tl).map Fld.cells), .cells [.osl 2 v n 0 fs.length, .int .i64 next], x4, x5] =
      some (.tup [], [o0, o1, .arr v 4 ((less fs id ++ tl').map Fld.cells), .cells [.osl 2 v n 0 (less fs id).length, .int .i64 next], x4, x5]) := by
  obtain ⟨tl', h1, h2⟩ := delete_fieldX2 o0 o1 (.cells [.osl 2 v n 0 fs.length, .int .i64 next]) x4 x5 v 186 [.rptr [.int .i64 id]] (fun x => decide (x.id = id)) tl n rfl rfl rfl fs hn hln (fun x _ => schema_remove_1 x id)
  refine ⟨tl', h1, ?_⟩
  unfold less
  rw [Den_ofK _ pr_schema_state_remove rfl]
  generalize ((fs.filter fun x => !decide (x.id = id)) ++ tl').map Fld.cells = E2 at *
  generalize (fs ++ tl).map Fld.cells = E at *
  simp only [f_schema_state_remove, h2, go_sem]
theorem schema_plusTX2 (nm : ByteArray) (ty pa : Int) (hn : n < 1000000000000) (hln : fs.length + tl.length = n) (ht : 0 < tl.length) (h0 : 0 ≤ next) (h1 : next < 1000000000000) :
    Den prog 185 [.ref 3 0, .str nm, .int .i64 ty, .int .i64 pa] [o0, o1, .arr v 4 ((fs ++ tl).map Fld.cells), .cells [.osl 2 v n 0 fs.length, .int .i64 next], x4, x5] =
      some (.tup [], [o0, o1, Ob.arr (v + 1) 4 ((fs ++ [(⟨next, nm, ty, pa⟩ : Fld)]).map Fld.cells), Ob.cells [AV.osl 2 (v + 1) (fs ++ [(⟨next, nm, ty, pa⟩ : Fld)]).length 0 (fs ++ [(⟨next, nm, ty, pa⟩ : Fld)]).length, AV.int IntKind.i64 (next + 1)], x4, x5]) := by
  rw [Den_ofK _ pr_schema_state_plus rfl]
  have hw : IntKind.wrap .i64 (next + 1) = next + 1 := wrap_i64 (by omega) (by omega)
  have hb : (fs.length + 1) * 40 ≤ 140737488355328 := by omega
  have hE : ((fs ++ tl).map Fld.cells).length = n := by simp; omega
  have htk : ((fs ++ tl).map Fld.cells).take fs.length = fs.map Fld.cells := by
    rw [List.map_append, List.take_left' (by simp)]
  have hlt : fs.length < n := by omega
  have happ : ∀ (τ : St) (pr : Bool) (ys : List (List AV)) (t : Bool), szOKb 4 ys = true → ys.length = 1 → τ[2]? = some (.arr v 4 ((fs ++ tl).map Fld.cells)) → appV pr 4 40 (.osl 2 v n 0 fs.length) τ (some (ys, t)) = some (.osl 2 (v + 1) (fs.length + 1) 0 (fs.length + 1), τ.set 2 (.arr (v + 1) 4 (fs.map Fld.cells ++ ys)), true) := by
    intro τ pr ys t hs hy ho
    rw [appV_part τ pr 4 40 2 v n fs.length ys _ t hs ho hE hlt (by decide) (by rw [hy]; omega), htk, hy]
  clear htk
  generalize (fs ++ tl).map Fld.cells = E at *
  simp only [f_schema_state_plus, hw, happ, go_sem]
end
end Go.Den
