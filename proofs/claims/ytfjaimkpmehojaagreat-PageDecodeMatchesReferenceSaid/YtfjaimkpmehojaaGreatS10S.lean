/- Package page: Dict pages. -/
import Derived.Test.YtfjaimkpmehojaaGreatS10R
namespace Go.Den
open Go
set_option linter.unusedSimpArgs false
set_option linter.unusedVariables false
set_option maxRecDepth 100000
set_option maxHeartbeats 1000000
theorem flatB_len (t : Int) : ∀ {l : List Val}, Col l t → (l.flatMap (bareB · t)).length ≤ 210 * l.length
  | [], _ => by simp
  | v :: l, h => by
    have h1 := flatB_len t h.tail
    have h2 := bareB_len (h v (List.mem_cons_self ..)).1 (h v (List.mem_cons_self ..)).2
    rw [List.flatMap_cons, List.length_append, List.length_cons]; omega
theorem flatX_len (D : List Val) (hD : D.length < 100000) : ∀ l : List Val, (l.flatMap fun v => leb (idxD D v)).length ≤ 10 * l.length
  | [] => by simp
  | v :: l => by
    have h1 := flatX_len D hD l
    have h2 := leb_len10 (show idxD D v < 18446744073709551616 by have := idxD_le D v; omega)
    rw [List.flatMap_cons, List.length_append, List.length_cons]; omega
theorem dict_l1 (l D tl : List Val) (n : Nat) (t : Int) (O0 : List UInt8) (hl : l.length ≤ 1024) (hD : SInc D) (hDl : D.length + tl.length = n) (hn : n ≤ 1024) (hO : O0.length < 10000000) {K : Ex × Env × St → Option (AV × St)} {Z : Option (AV × St)}
    (hK : K (.exit 2, [(7, .osl 0 0 n 0 D.length), (8, .sl ((O0 ++ l.flatMap fun v => leb (idxD D v)).map bcell)), (36, .sl (l.map Val.cells)), (37, .int .i64 l.length), (38, .int .i64 l.length), (39, .bool false)], [.arr 0 3 ((D ++ tl).map Val.cells), .dead]) = Z) :
    (Run prog 0 (.loop 2 [7, 8, 36, 37, 38] f_page_dict_encode_l1) [(7, .osl 0 0 n 0 D.length), (8, .sl (O0.map bcell)), (36, .sl (l.map Val.cells)), (37, .int .i64 l.length), (38, .int .i64 0)] [.arr 0 3 ((D ++ tl).map Val.cells), .dead]).bind K = Z := by
  have hE : ((D ++ tl).map Val.cells).length = n := by simp; omega
  have hle : D.length ≤ n := by omega
  have htk : frzO 0 n 0 D.length (some (.arr 0 3 ((D ++ tl).map Val.cells))) = some (.sl (D.map Val.cells)) := by
    rw [frzO_part 0 n 3 0 D.length _ hE (by omega), List.drop_zero, List.map_append, List.take_left' (by simp)]
  generalize (D ++ tl).map Val.cells = E at *
  refine range_ind l (by omega) (fun i (O : List UInt8) => (Run prog 0 (.loop 2 [7, 8, 36, 37, 38] f_page_dict_encode_l1) [(7, .osl 0 0 n 0 D.length), (8, .sl (O.map bcell)), (36, .sl (l.map Val.cells)), (37, .int .i64 l.length), (38, .int .i64 i)] [.arr 0 3 E, .dead]).bind K = Z)
    (fun i rest O => ∃ pre, l = pre ++ rest ∧ i = pre.length ∧ O = O0 ++ pre.flatMap fun v => leb (idxD D v)) ?_ ?_ O0 ⟨[], rfl, rfl, by simp⟩
  · intro O ⟨pre, h1, h2, h3⟩
    rw [List.append_nil] at h1
    subst h1
    rw [← h3] at hK
    clear h3
    rw [Run_loop]
    simp only [f_page_dict_encode_l1_eq, f_page_dict_encode_l1u, hK, go_sem]
  · intro i pre0 rest x O _ _ hi0 hi1 hx hcx hw ⟨pre, h1, h2, h3⟩ ih
    have hpl : pre.length ≤ 1024 := by
      have := congrArg List.length h1
      simp only [List.length_append] at this; omega
    have hfl := flatX_len D (by omega) pre
    have hO2 : O.length < 100000000 := by rw [h3, List.length_append]; omega
    obtain ⟨nu, m, s⟩ := x
    have hix := idxD_le D ⟨nu, m, s⟩
    have hu := wire_U2 O (idxD D ⟨nu, m, s⟩) (by omega) (by omega)
    have ih := ih (O ++ leb (idxD D ⟨nu, m, s⟩)) ⟨pre ++ [⟨nu, m, s⟩], by simp [h1], by simp; omega, by rw [h3]; simp⟩
    clear h1 h2 h3 hfl
    obtain ⟨b, hb⟩ := BinarySearch_val D ⟨nu, m, s⟩ hD.le (by omega)
    rw [Run_loop]
    cases nu with
    | true =>
      have e : idxD D ⟨true, m, s⟩ = 0 := rfl
      rw [e] at hu ih
      generalize O ++ leb 0 = O2 at *
      have w0 : IntKind.wrap .u64 0 = 0 := rfl
      simp only [go_sem] at hu
      simp only [f_page_dict_encode_l1_eq, f_page_dict_encode_l1u, hx, hcx, hw, hu, ih, w0, Val.cells, go_sem]
    | false =>
      have e : idxD D ⟨false, m, s⟩ = rankV D ⟨false, m, s⟩ + 1 := rfl
      rw [e] at hu ih hix
      generalize rankV D ⟨false, m, s⟩ = r at *
      generalize O ++ leb (r + 1) = O2 at *
      have w1 : IntKind.wrap .i64 ((r : Int) + 1) = (r : Int) + 1 := wrap_i64 (by omega) (by omega)
      have w2 : IntKind.wrap .u64 ((r : Int) + 1) = (r : Int) + 1 := wrap_u64 (by omega) (by omega)
      simp only [go_sem] at hu
      simp only [f_page_dict_encode_l1_eq, f_page_dict_encode_l1u, hx, hcx, hw, hu, hb, ih, w1, w2, htk, hE, hle, Val.cells, go_sem]
theorem dict_l0 (l D tl : List Val) (n : Nat) (t : Int) (O0 : List UInt8) (hc : Col D t) (hDl : D.length + tl.length = n) (hn : n ≤ 1024) (hO : O0.length < 1000000) {K : Ex × Env × St → Option (AV × St)} {Z : Option (AV × St)}
    (hK : K (.exit 0, [(1, .sl (l.map Val.cells)), (2, .int .i64 t), (7, .osl 0 0 n 0 D.length), (8, .sl ((O0 ++ D.flatMap (bareB · t)).map bcell)), (25, .osl 0 0 n 0 D.length), (26, .int .i64 D.length), (27, .int .i64 D.length), (28, .bool false)], [.arr 0 3 ((D ++ tl).map Val.cells), .dead]) = Z) :
    (Run prog 0 (.loop 2 [1, 2, 7, 8, 25, 26, 27] f_page_dict_encode_l0) [(1, .sl (l.map Val.cells)), (2, .int .i64 t), (7, .osl 0 0 n 0 D.length), (8, .sl (O0.map bcell)), (25, .osl 0 0 n 0 D.length), (26, .int .i64 D.length), (27, .int .i64 0)] [.arr 0 3 ((D ++ tl).map Val.cells), .dead]).bind K = Z := by
  have hE : ((D ++ tl).map Val.cells).length = n := by simp; omega
  have hle : D.length ≤ n := by omega
  have hge : ∀ (k : Nat) (x : Val), D[k]? = some x → ((D ++ tl).map Val.cells)[k]? = some x.cells := by
    intro k x h
    have := (List.getElem?_eq_some_iff.1 h).1
    rw [List.getElem?_map, List.getElem?_append_left this, h]; rfl
  generalize (D ++ tl).map Val.cells = E at *
  refine range_ind D (by omega) (fun i (O : List UInt8) => (Run prog 0 (.loop 2 [1, 2, 7, 8, 25, 26, 27] f_page_dict_encode_l0) [(1, .sl (l.map Val.cells)), (2, .int .i64 t), (7, .osl 0 0 n 0 D.length), (8, .sl (O.map bcell)), (25, .osl 0 0 n 0 D.length), (26, .int .i64 D.length), (27, .int .i64 i)] [.arr 0 3 E, .dead]).bind K = Z)
    (fun i rest O => ∃ pre, D = pre ++ rest ∧ i = pre.length ∧ O = O0 ++ pre.flatMap (bareB · t)) ?_ ?_ O0 ⟨[], rfl, rfl, by simp⟩
  · intro O ⟨pre, h1, h2, h3⟩
    rw [List.append_nil] at h1
    subst h1
    rw [← h3] at hK
    clear h3
    rw [Run_loop]
    simp only [f_page_dict_encode_l0_eq, f_page_dict_encode_l0u, hK, go_sem]
  · intro i pre0 rest x O _ _ hi0 hi1 hx hcx hw ⟨pre, h1, h2, h3⟩ ih
    have hcp : Col pre t := (h1 ▸ hc : Col (pre ++ x :: rest) t).left
    have hcv := (h1 ▸ hc : Col (pre ++ x :: rest) t).right x (List.mem_cons_self ..)
    have hpl : pre.length ≤ 1024 := by
      have := congrArg List.length h1
      simp only [List.length_append] at this; omega
    have hfl := flatB_len t hcp
    have hO2 : O.length < 100000000 := by rw [h3, List.length_append]; omega
    have hsz := okV_size hcv.1
    subst h2
    rw [getE_nat] at hx
    have hgx := hge _ x hx
    obtain ⟨nu, m, s⟩ := x
    have hb := page_bare O nu m s t (by omega) (by simp only [] at hsz; omega) hcv.2
    have ih := ih (O ++ bareB ⟨nu, m, s⟩ t) ⟨pre ++ [⟨nu, m, s⟩], by simp [h1], by simp, by rw [h3]; simp⟩
    have hil : (pre.length : Int) < (D.length : Int) := by rw [h1]; simp; omega
    clear h1 h3 hfl
    generalize O ++ bareB ⟨nu, m, s⟩ t = O2 at *
    rw [Run_loop]
    simp only [f_page_dict_encode_l0_eq, f_page_dict_encode_l0u, hgx, hcx, hw, hb, ih, hE, hle, hil, idxO_part, Val.cells, go_sem]
theorem dict_encode (l : List Val) (t : Int) (hl : l.length ≤ 1024) (hc : Col l t) : Den prog 542 [.agg [], .sl (l.map Val.cells), .int .i64 t] [] = some (.sl ((dictP l t).map bcell), []) := by
  rw [Den_ofK [] pr_page_dict_encode rfl]
  have h1 := Clone_val l (by omega)
  obtain ⟨t1, e1, h2⟩ := delete_val 0 538 [] (fun x => x.null) [] l.length rfl rfl rfl l (by omega) (by simp) (fun x _ => null_closure x)
  rw [List.append_nil] at h2
  have h3 := sort_val 0 l.length (l.filter fun x => !x.null) t1 e1 (by omega)
  have e2 : (sortV (l.filter fun x => !x.null)).length + t1.length = l.length := by rw [sortV_len]; exact e1
  obtain ⟨t2, e3, h4⟩ := slices_Compact 0 l.length (sortV (l.filter fun x => !x.null)) t1 (by omega) e2
  rw [sortV_len] at h4
  have eD : dedup (sortV (l.filter fun x => !x.null)) = distV l := rfl
  rw [eD] at h4 e3
  have hdl := distV_len l
  have hu := wire_U2 [] (distV l).length (by omega) (by simp)
  rw [List.map_nil, List.nil_append] at hu
  have hlb := leb_len10 (show (distV l).length < 18446744073709551616 by omega)
  have hcd : Col (distV l) t := fun v hv => hc v ((distV_mem l v).1 hv).1
  have k0 := fun K Z => dict_l0 l (distV l) t2 l.length t (leb (distV l).length) hcd e3 (by omega) (by omega) (K := K) (Z := Z)
  have hf := flatB_len t hcd
  have k1 := fun K Z => dict_l1 l (distV l) t2 l.length t (leb (distV l).length ++ (distV l).flatMap (bareB · t)) hl (distV_inc l) e3 (by omega) (by rw [List.length_append]; omega) (K := K) (Z := Z)
  have eP : (leb (distV l).length ++ (distV l).flatMap (bareB · t)) ++ (l.flatMap fun v => leb (idxD (distV l) v)) = dictP l t := by rw [List.append_assoc]; rfl
  rw [eP] at k1
  have hE : ((distV l ++ t2).map Val.cells).length = l.length := by simp; omega
  have w1 : IntKind.wrap .u64 ((distV l).length : Int) = ((distV l).length : Int) := wrap_u64 (by omega) (by omega)
  clear e1 e2 e3 eD eP hcd hf
  generalize leb (distV l).length ++ (distV l).flatMap (bareB · t) = O1 at *
  generalize leb (distV l).length = O0 at *
  generalize (distV l ++ t2).map Val.cells = E at *
  generalize (sortV (l.filter fun x => !x.null) ++ t1).map Val.cells = E2 at *
  generalize ((l.filter fun x => !x.null) ++ t1).map Val.cells = E3 at *
  generalize (l.filter fun x => !x.null).length = dl1 at *
  have hle : (distV l).length ≤ l.length := hdl
  simp only [f_page_dict_encode, h1, h2, h3, h4, hu, hE, hle, w1, lenO_part, go_sem]
  refine k0 _ _ ?_
  simp only [hE, hle, lenO_part, go_sem]
  refine k1 _ _ ?_
  simp only [go_sem]
end Go.Den
