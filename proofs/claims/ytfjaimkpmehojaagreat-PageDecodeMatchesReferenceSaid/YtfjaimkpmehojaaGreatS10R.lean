/- Package page: sorting, compacting, searching. -/
import Derived.Test.YtfjaimkpmehojaaGreatS10Q
namespace Go.Den
open Go
set_option linter.unusedSimpArgs false
set_option linter.unusedVariables false
set_option maxRecDepth 100000
set_option maxHeartbeats 1000000
theorem Clone_val (l : List Val) (hl : l.length < 100000000) : Den prog 536 [.sl (l.map Val.cells)] [] = some (.osl 0 0 l.length 0 l.length, [.arr 0 3 (l.map Val.cells)]) := by
  have hz : szOKb 3 (l.map Val.cells) = true := szOKb_map 3 Val.cells l (fun _ => rfl)
  cases l with
  | nil =>
    refine Den_two [] pr_slices_Clone_api_Value_api_Value rfl rfl ?_ ?_ ?_ ?_ <;> simp only [f_slices_Clone_api_Value_api_Value, AV.alike, alikes, beq_self_eq_true, List.map_nil, List.length_nil, go_sem]
  | cons c l =>
    rw [List.map_cons, Den_one [] pr_slices_Clone_api_Value_api_Value rfl]
    have hb : (l.length + 1) * 32 ≤ 140737488355328 := by simp at hl; omega
    rw [List.map_cons] at hz
    simp only [f_slices_Clone_api_Value_api_Value, hb, hz, go_sem]
theorem null_closure (x : Val) : Den prog 538 [.agg [.bool x.null, .int .i64 x.n, .str x.s]] [] = some (.bool x.null, []) := by
  rw [Den_ofK [] pr_page_dict_encode_1 rfl]
  simp only [f_page_dict_encode_1, go_sem]
theorem vals_map : ∀ l : List Val, valsOf (l.map Val.cells) = some l
  | [] => rfl
  | v :: r => by
    show (valsOf (r.map Val.cells)).map _ = _
    rw [vals_map r]; rfl
theorem sort_val (v n : Nat) (fs tl : List Val) (h : fs.length + tl.length = n) (hn : n < 1000000000) : Den prog 539 [.osl 0 v n 0 fs.length, .fn 282 []] [.arr v 3 ((fs ++ tl).map Val.cells)] = some (.tup [], [.arr v 3 ((sortV fs ++ tl).map Val.cells)]) := by
  rw [Den_x _ pr_slices_SortFunc_api_Value_api_Value rfl]
  unfold xrun xSort
  have h1 : ((fs ++ tl).map Val.cells).length = n := by simp; omega
  have h2 : ((((fs ++ tl).map Val.cells).drop 0).take fs.length) = fs.map Val.cells := by
    rw [List.drop_zero, List.map_append, List.take_left' (by simp)]
  have h3 : ((fs ++ tl).map Val.cells).drop (0 + fs.length) = tl.map Val.cells := by
    rw [List.map_append, List.drop_left' (by simp)]
  simp only [List.getElem?_cons_zero]
  rw [if_pos ⟨trivial, trivial, h1, trivial, by omega, by omega⟩, h2, vals_map, h3]
  simp
theorem val_eq (a b : Val) : (a.null == b.null && (decide (a.n = b.n) && decide (a.s = b.s))) = decide (a = b) := by
  obtain ⟨a1, a2, a3⟩ := a
  obtain ⟨b1, b2, b3⟩ := b
  rw [Bool.eq_iff_iff]
  simp [Val.mk.injEq]
theorem compact_l1 (v n : Nat) (tl : List Val) {β : Type} {K : Ex × Env × St → Option β} {Z : Option β} (hn : n < 1000000000) (len k0 l2 : Nat) (hl2 : k0 + l2 = len) (hln : len + tl.length = n) (fin : List Val)
    (hK : ∀ E2 : List (List AV), (∃ mid' : List Val, fin.length + mid'.length = len ∧ E2 = (fin ++ mid' ++ tl).map Val.cells) → K (.exit 2, [(0, .osl 0 v n 0 len), (3, .int .i64 fin.length), (4, .osl 0 v n k0 l2), (5, .int .i64 l2), (32, .bool false)], [.arr v 3 E2]) = Z) :
    ∀ (rest out mid : List Val) (q : Val) (k2 j k : Nat), k = out.length → k2 = j + 1 → (out ++ mid).length = k0 + j → (out ++ mid).length + 1 + rest.length = len → fin = out ++ cmpct q rest →
    (Run prog 1 (.loop 0 [0, 3, 4, 5] f_slices_Compact_api_Value_api_Value_l1) [(0, .osl 0 v n 0 len), (3, .int .i64 k), (4, .osl 0 v n k0 l2), (5, .int .i64 k2)]
      [.arr v 3 ((out ++ mid ++ (q :: rest) ++ tl).map Val.cells)]).bind K = Z := by
  intro rest
  induction rest with
  | nil =>
    intro out mid q k2 j k hk hk2 hm hl hf
    rw [cmpct, List.append_nil] at hf
    subst hf
    have hK := hK _ ⟨mid ++ [q], by simp at hl ⊢; omega, rfl⟩
    have h2 : k0 + l2 ≤ n := by omega
    have h3 : ((fin ++ mid ++ [q] ++ tl).map Val.cells).length = n := by simp at hl ⊢; omega
    have e5 : k2 = l2 := by simp at hl hm; omega
    subst e5
    have hlt : decide ((k2 : Int) < (k2 : Int)) = false := by simp
    rw [show fin ++ (mid ++ [q]) ++ tl = fin ++ mid ++ [q] ++ tl by simp] at hK
    rw [Run_loop]
    subst hk
    generalize (fin ++ mid ++ [q] ++ tl).map Val.cells = E at *
    simp only [f_slices_Compact_api_Value_api_Value_l1_eq, f_slices_Compact_api_Value_api_Value_l1u, lenO_part, h2, h3, hlt, hK, go_sem]
  | cons z rest ih =>
    intro out mid q k2 j k hk hk2 hm hl hf
    simp only [List.length_cons] at hl
    have hk2l : k2 < l2 := by omega
    have hE : ((out ++ mid ++ (q :: z :: rest) ++ tl).map Val.cells).length = n := by simp at hl ⊢; omega
    have hd : decide ((k2 : Int) < (l2 : Int)) = true := by simp; omega
    have hw1 : IntKind.wrap .i64 ((k2 : Int) + 1) = ((k2 + 1 : Nat) : Int) := by rw [wrap_i64 (by omega) (by omega)]; simp
    have hw2 : IntKind.wrap .i64 ((k2 : Int) - 1) = (j : Int) := by rw [wrap_i64 (by omega) (by omega)]; omega
    have hw3 : IntKind.wrap .i64 ((k : Int) + 1) = ((k + 1 : Nat) : Int) := by
      have : k ≤ len := by simp at hl; omega
      rw [wrap_i64 (by omega) (by omega)]; simp
    have hgz : ((out ++ mid ++ (q :: z :: rest) ++ tl).map Val.cells)[k0 + k2]? = some [.bool z.null, .int .i64 z.n, .str z.s] := by
      rw [List.getElem?_map, List.append_assoc, List.getElem?_append_right (by omega), show k0 + k2 - (out ++ mid).length = 1 by omega]; rfl
    have hgq : ((out ++ mid ++ (q :: z :: rest) ++ tl).map Val.cells)[k0 + j]? = some [.bool q.null, .int .i64 q.n, .str q.s] := by
      rw [List.getElem?_map, List.append_assoc, List.getElem?_append_right (by omega), show k0 + j - (out ++ mid).length = 0 by omega]; rfl
    have hkI : (k2 : Int) < (l2 : Int) := by omega
    have hjI : (j : Int) < (l2 : Int) := by omega
    have h2 : k0 + l2 ≤ n := by omega
    have hle : len ≤ n := by omega
    have hve := val_eq z q
    obtain ⟨y, m, hym⟩ : ∃ y m, mid ++ [q] = y :: m := by
      cases mid with
      | nil => exact ⟨q, [], rfl⟩
      | cons y m => exact ⟨y, m ++ [q], rfl⟩
    have hgk : ((out ++ mid ++ (q :: z :: rest) ++ tl).map Val.cells)[k]? = some y.cells := by
      rw [show out ++ mid ++ (q :: z :: rest) ++ tl = out ++ ((mid ++ [q]) ++ (z :: rest ++ tl)) by simp, hym, List.getElem?_map, List.getElem?_append_right (by omega), show k - out.length = 0 by omega]; rfl
    have hset : ((out ++ mid ++ (q :: z :: rest) ++ tl).map Val.cells).set k [.bool z.null, .int .i64 z.n, .str z.s] = ((out ++ [z]) ++ m ++ (z :: rest) ++ tl).map Val.cells := by
      have : k = (out.map Val.cells).length := by simp [hk]
      rw [show out ++ mid ++ (q :: z :: rest) ++ tl = out ++ ((mid ++ [q]) ++ (z :: rest ++ tl)) by simp, hym, List.map_append, this, List.set_append_right _ _ (Nat.le_refl _)]
      simp [Val.cells]
    have hyl : y.cells.length = 3 := rfl
    have hty : y.cells.drop 3 = [] := rfl
    have hkn : (k : Int) < (len : Int) := by simp at hl; omega
    rw [cmpct] at hf
    rw [Run_loop]
    by_cases d : z = q
    · rw [if_pos d] at hf
      rw [decide_eq_true d] at hve
      have ih := ih out (mid ++ [q]) z (k2 + 1) k2 k hk rfl (by simp at hm ⊢; omega) (by simp at hl ⊢; omega) (by rw [d]; exact hf)
      rw [show out ++ (mid ++ [q]) ++ (z :: rest) ++ tl = out ++ mid ++ (q :: z :: rest) ++ tl by simp] at ih
      clear hset hf hm hl hk hgk
      generalize (out ++ mid ++ (q :: z :: rest) ++ tl).map Val.cells = E at *
      simp only [go_sem] at ih
      simp only [f_slices_Compact_api_Value_api_Value_l1_eq, f_slices_Compact_api_Value_api_Value_l1u, lenO_part, idxO_part, h2, hle, hE, hd, hkI, hjI, hgz, hgq, hve, hw1, hw2, ih, go_sem]
    · rw [if_neg d] at hf
      rw [decide_eq_false d] at hve
      have hml : mid.length = m.length := by have := congrArg List.length hym; simp at this; omega
      have ih := ih (out ++ [z]) m z (k2 + 1) k2 (k + 1) (by simp [hk]) rfl (by simp at hm ⊢; omega) (by simp at hl ⊢; omega) (by rw [hf]; simp)
      clear hf hm hl hk
      generalize (out ++ mid ++ (q :: z :: rest) ++ tl).map Val.cells = E at *
      generalize ((out ++ [z]) ++ m ++ (z :: rest) ++ tl).map Val.cells = E2 at *
      simp only [go_sem] at ih
      simp only [f_slices_Compact_api_Value_api_Value_l1_eq, f_slices_Compact_api_Value_api_Value_l1u, lenO_part, idxO_part, h2, hle, hE, hd, hkI, hjI, hkn, hgz, hgq, hgk, hset, hyl, hty, hve, hw1, hw2, hw3, ih, go_sem]
theorem compact_l0 (v n : Nat) (tl : List Val) (hn : n < 1000000000) {β : Type} {K : Ex × Env × St → Option β} {Z : Option β} (fs : List Val) (hln : fs.length + tl.length = n) (dl : Nat) (F : List (List AV)) (hdl : dl = (dedup fs).length)
    (hF : F = ((dedup fs) ++ (List.replicate (fs.length - (dedup fs).length) noVz ++ tl)).map Val.cells)
    (hA : dedup fs = fs → ∀ k : Int, K (.exit 0, [(0, .osl 0 v n 0 fs.length), (3, .int .i64 k), (13, .bool false)], [.arr v 3 ((fs ++ tl).map Val.cells)]) = Z)
    (hB : K (.ret, [(2, .osl 0 v n 0 dl)], [.arr v 3 F]) = Z) : ∀ (rest pre : List Val) (p : Val) (k j : Nat), k = pre.length + 1 → j = pre.length → fs = pre ++ p :: rest → dedup fs = pre ++ p :: cmpct p rest →
      (Run prog 1 (.loop 0 [0, 3] f_slices_Compact_api_Value_api_Value_l0) [(0, .osl 0 v n 0 fs.length), (3, .int .i64 k)] [.arr v 3 ((fs ++ tl).map Val.cells)]).bind K = Z := by
  have hE : ((fs ++ tl).map Val.cells).length = n := by simp; omega
  have hle : fs.length ≤ n := by omega
  intro rest
  induction rest with
  | nil =>
    intro pre p k j hk hj hfs hd
    have hA := hA (by rw [hd, hfs]; rfl) k
    have e : k = fs.length := by rw [hfs]; simp [hk]
    subst e
    have hlt : decide ((fs.length : Int) < (fs.length : Int)) = false := by simp
    clear hfs
    rw [Run_loop]
    generalize (fs ++ tl).map Val.cells = E at *
    simp only [f_slices_Compact_api_Value_api_Value_l0_eq, f_slices_Compact_api_Value_api_Value_l0u, lenO_part, hE, hle, hlt, hA, go_sem]
  | cons y rest ih =>
    intro pre p k j hk hj hfs hd
    have hlf : fs.length = pre.length + 1 + (1 + rest.length) := by rw [hfs]; simp; omega
    have hlt : decide ((k : Int) < (fs.length : Int)) = true := by simp; omega
    have hkI : (k : Int) < (fs.length : Int) := by omega
    have hjI : (j : Int) < (fs.length : Int) := by omega
    have hw1 : IntKind.wrap .i64 ((k : Int) - 1) = (j : Int) := by rw [wrap_i64 (by omega) (by omega)]; omega
    have hw2 : IntKind.wrap .i64 ((k : Int) + 1) = ((k + 1 : Nat) : Int) := by rw [wrap_i64 (by omega) (by omega)]; simp
    have hgy : ((fs ++ tl).map Val.cells)[k]? = some [.bool y.null, .int .i64 y.n, .str y.s] := by
      rw [hfs, List.getElem?_map, List.append_assoc, List.getElem?_append_right (by omega), show k - pre.length = 1 by omega]; rfl
    have hgp : ((fs ++ tl).map Val.cells)[j]? = some [.bool p.null, .int .i64 p.n, .str p.s] := by
      rw [hfs, List.getElem?_map, List.append_assoc, List.getElem?_append_right (by omega), show j - pre.length = 0 by omega]; rfl
    have hve := val_eq y p
    rw [Run_loop]
    by_cases d : y = p
    · rw [decide_eq_true d] at hve
      have hkle : (k : Int) ≤ (fs.length : Int) := by omega
      have hdd : dedup fs = (pre ++ [p]) ++ cmpct y rest := by
        rw [hd, cmpct, if_pos d, d]; simp
      have hdlen : (dedup fs).length ≤ fs.length := dedup_len fs
      have hl1 := fun (K' : Ex × Env × St → Option β) hK' => compact_l1 v n tl (K := K') (Z := Z) hn fs.length k (fs.length - k) (by omega) hln (dedup fs) hK' rest (pre ++ [p]) [] y 1 0 k (by simp [hk]) rfl (by simp; omega) (by simp; omega) hdd
      have el : pre ++ [p] ++ [] ++ y :: rest ++ tl = fs ++ tl := by rw [hfs]; simp
      rw [el] at hl1
      clear hfs hd hdd el
      generalize hEE : (fs ++ tl).map Val.cells = E at *
      simp only [go_sem] at hl1
      simp only [f_slices_Compact_api_Value_api_Value_l0_eq, f_slices_Compact_api_Value_api_Value_l0u, lenO_part, idxO_part, sliceO_low, hE, hle, hlt, hkI, hjI, hkle, hgy, hgp, hve, hw1, go_sem]
      refine hl1 _ ?_
      rintro E2 ⟨mid', hm', hE2⟩
      have hl2 : E2.length = n := by rw [hE2]; simp; omega
      have hclr : E2.take dl ++ (List.replicate (fs.length - dl) [AV.bool false, AV.int .i64 0, AV.str ⟨#[]⟩] ++ E2.drop (dl + (fs.length - dl))) = F := by
        rw [hF]
        have e1 : E2.take dl = (dedup fs).map Val.cells := by
          rw [hE2, List.take_left' (by simp [hdl])]
        have e2 : E2.drop (dl + (fs.length - dl)) = tl.map Val.cells := by
          rw [hE2, ← List.append_assoc, List.drop_left' (by simp; omega)]
        rw [e1, e2, ← hdl]
        simp [Val.cells, noVz]
      rw [← hdl]
      have hFl : F.length = n := by rw [hF]; simp; omega
      have hol2 : (dl : Int) ≤ (fs.length : Int) := by omega
      have hsum : dl + (fs.length - dl) ≤ n := by omega
      clear hE2 hl1 hF hA ih
      simp only [sliceO_low, sliceO_to, hl2, hFl, hol2, hle, hsum, hclr, hB, go_sem]
    · rw [decide_eq_false d] at hve
      have ih := ih (pre ++ [p]) y (k + 1) k (by simp [hk]) (by simp [hk]) (by rw [hfs]; simp) (by rw [hd, cmpct, if_neg d]; simp)
      clear hfs hd hF
      generalize (fs ++ tl).map Val.cells = E at *
      simp only [go_sem] at ih
      simp only [f_slices_Compact_api_Value_api_Value_l0_eq, f_slices_Compact_api_Value_api_Value_l0u, lenO_part, idxO_part, hE, hle, hlt, hkI, hjI, hgy, hgp, hve, hw1, hw2, ih, go_sem]
theorem slices_Compact (v n : Nat) (fs tl : List Val) (hn : n < 1000000000) (hln : fs.length + tl.length = n) : ∃ tl' : List Val, (dedup fs).length + tl'.length = n ∧
    Den prog 540 [.osl 0 v n 0 fs.length] [.arr v 3 ((fs ++ tl).map Val.cells)] = some (.osl 0 v n 0 (dedup fs).length, [.arr v 3 ((dedup fs ++ tl').map Val.cells)]) := by
  have hE : ((fs ++ tl).map Val.cells).length = n := by simp; omega
  have hln2 : fs.length ≤ n := by omega
  have hfb : ∀ (k : Nat) (τ : St), fin .yes 1 (.osl 0 v n 0 k) τ = some (.osl 0 v n 0 k, τ.take 1) := fun k τ => fin_back τ 1 0 v n 0 k (by omega)
  rw [Den_ofK _ pr_slices_Compact_api_Value_api_Value rfl]
  cases d2 : decide ((fs.length : Int) < 2) with
  | true =>
    have hd : dedup fs = fs := by
      match fs, d2 with
      | [], _ => rfl
      | [x], _ => rfl
      | x :: y :: r, h => simp at h; omega
    refine ⟨tl, by rw [hd]; exact hln, ?_⟩
    rw [hd]
    generalize (fs ++ tl).map Val.cells = E at *
    simp only [f_slices_Compact_api_Value_api_Value, lenO_part, hE, hln2, d2, hfb, go_sem]
  | false =>
    have hol : (dedup fs).length ≤ fs.length := dedup_len fs
    refine ⟨List.replicate (fs.length - (dedup fs).length) noVz ++ tl, by simp; omega, ?_⟩
    obtain ⟨x0, fr, hfs⟩ : ∃ x0 fr, fs = x0 :: fr := by
      cases fs with
      | nil => simp at d2
      | cons x r => exact ⟨x, r, rfl⟩
    obtain ⟨F, hF⟩ : ∃ F, F = ((dedup fs) ++ (List.replicate (fs.length - (dedup fs).length) noVz ++ tl)).map Val.cells := ⟨_, rfl⟩
    obtain ⟨dl, hdl⟩ : ∃ dl, dl = (dedup fs).length := ⟨_, rfl⟩
    have same : dedup fs = fs → (fs ++ tl).map Val.cells = F ∧ fs.length = dl := by
      intro e; rw [hF, hdl, e, Nat.sub_self]; exact ⟨rfl, rfl⟩
    have hl0 := fun K hA hB => compact_l0 v n tl hn (K := K) (Z := some (AV.osl 0 v n 0 dl, [Ob.arr v 3 F])) fs hln dl F hdl hF hA hB fr [] x0 1 0 rfl rfl hfs (by rw [hfs]; rfl)
    have hFl : F.length = n := by rw [hF]; simp; omega
    rw [← hF, ← hdl]
    clear hF
    generalize (fs ++ tl).map Val.cells = E at *
    simp only [go_sem] at hl0
    simp only [f_slices_Compact_api_Value_api_Value, lenO_part, hE, hln2, d2, go_sem]
    refine hl0 _ ?_ ?_
    · intro e k
      obtain ⟨e1, e2⟩ := same e
      subst e1
      rw [← e2]
      simp only [hfb, go_sem]
    · simp only [hfb, go_sem]
theorem BinarySearch_val (d : List Val) (v : Val) (hd : d.Pairwise (fun a b => cmpV a b ≤ 0)) (hl : d.length < 1000000000) : ∃ b : Bool, Den prog 541 [.sl (d.map Val.cells), .agg [.bool v.null, .int .i64 v.n, .str v.s], .fn 282 []] [] = some (.tup [.int .i64 (rankV d v), .bool b], []) := by
  obtain ⟨b, hb⟩ : ∃ b : Bool, b = bif decide ((rankV d v : Int) < (d.length : Int)) then decide (cmpV (d[rankV d v]?.getD v) v = 0) else false := ⟨_, rfl⟩
  refine ⟨b, ?_⟩
  rw [Den_ofK [] pr_slices_BinarySearchFunc_api_Value_api_Value_api_Value rfl]
  have hrl := rankV_le d v
  have hc := fun a : Val => value_Compare a v
  simp only [f_slices_BinarySearchFunc_api_Value_api_Value_api_Value, go_sem]
  refine fuel_ind (fun f (a : Nat × Nat) => a.1 ≤ rankV d v → rankV d v ≤ a.2 → a.2 ≤ d.length → a.2 < a.1 + f → (Run prog 0 (.loop 0 [0, 2, 4, 8, 9, 10] f_slices_BinarySearchFunc_api_Value_api_Value_api_Value_l0) [(0, .sl (d.map Val.cells)), (2, .fn 282 []), (4, .rptr [.bool v.null, .int .i64 v.n, .str v.s]), (8, .int .i64 d.length), (9, .int .i64 a.1), (10, .int .i64 a.2)] []).bind _ = some (AV.tup [.int .i64 (rankV d v), .bool b], [])) ?_ ?_ (d.length + 1) (0, d.length) (Nat.zero_le _) hrl (Nat.le_refl _) (by simp only []; omega)
  · intro a h1 h2 _ h3
    omega
  · intro f ⟨i, j⟩ ih h1 h2 h3 h4
    simp only [] at h1 h2 h3 h4 ih ⊢
    rw [Run_loop]
    by_cases hij : i < j
    · have dij : decide ((i : Int) < (j : Int)) = true := by simp; omega
      obtain ⟨h, hh⟩ : ∃ h, h = (i + j) / 2 := ⟨_, rfl⟩
      have w1 : IntKind.wrap .i64 ((i : Int) + (j : Int)) = ((i + j : Nat) : Int) := by rw [wrap_i64 (by omega) (by omega)]; simp
      have w2 : IntKind.wrap .u64 ((i + j : Nat) : Int) = ((i + j : Nat) : Int) := wrap_u64 (by omega) (by omega)
      have w3 : shrI .u64 ((i + j : Nat) : Int) 1 = (h : Int) := by
        have := shr_nat .u64 (i + j) 1 (by decide)
        rw [hh]; exact this
      have w4 : IntKind.wrap .i64 (h : Int) = (h : Int) := wrap_i64 (by omega) (by omega)
      have w5 : IntKind.wrap .i64 ((h : Int) + 1) = ((h + 1 : Nat) : Int) := by rw [wrap_i64 (by omega) (by omega)]; simp
      obtain ⟨x, hx⟩ : ∃ x, d[h]? = some x := ⟨_, List.getElem?_eq_getElem (by omega)⟩
      have hgx : getE d (h : Int) = some x := by rw [getE_nat]; exact hx
      have hr := rank_iff hd v h x hx
      have hcx := hc x
      generalize ((i + j : Nat) : Int) = s at *
      cases dl : decide (cmpV x v < 0) with
      | true =>
        have : h < rankV d v := hr.1 (by simpa using dl)
        have ih := ih (h + 1, j) (by simp only []; omega) h2 h3 (by simp only []; omega)
        simp only [go_sem] at ih
        simp only [f_slices_BinarySearchFunc_api_Value_api_Value_api_Value_l0_eq, f_slices_BinarySearchFunc_api_Value_api_Value_api_Value_l0u, dij, w1, w2, w3, w4, w5, hgx, hcx, dl, ih, Val.cells, go_sem]
      | false =>
        have : ¬ h < rankV d v := fun q => by have := hr.2 q; simp at dl; omega
        have ih := ih (i, h) h1 (by simp only []; omega) (by simp only []; omega) (by simp only []; omega)
        simp only [go_sem] at ih
        simp only [f_slices_BinarySearchFunc_api_Value_api_Value_api_Value_l0_eq, f_slices_BinarySearchFunc_api_Value_api_Value_api_Value_l0u, dij, w1, w2, w3, w4, hgx, hcx, dl, ih, Val.cells, go_sem]
    · have dij : decide ((i : Int) < (j : Int)) = false := by simp; omega
      have e1 : i = rankV d v := by omega
      subst e1
      clear ih
      cases dn : decide ((rankV d v : Int) < (d.length : Int)) with
      | false =>
        rw [dn, cond_false] at hb
        subst hb
        simp only [f_slices_BinarySearchFunc_api_Value_api_Value_api_Value_l0_eq, f_slices_BinarySearchFunc_api_Value_api_Value_api_Value_l0u, dij, dn, go_sem]
      | true =>
        rw [dn, cond_true] at hb
        obtain ⟨x, hx⟩ : ∃ x, d[rankV d v]? = some x := ⟨_, List.getElem?_eq_getElem (by simpa using dn)⟩
        have hgx : getE d (rankV d v : Int) = some x := by rw [getE_nat]; exact hx
        have hcx := hc x
        rw [hx, Option.getD_some] at hb
        subst hb
        simp only [f_slices_BinarySearchFunc_api_Value_api_Value_api_Value_l0_eq, f_slices_BinarySearchFunc_api_Value_api_Value_api_Value_l0u, dij, dn, hgx, hcx, Val.cells, go_sem]
end Go.Den
