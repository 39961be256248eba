/- Ch. 10: the reference's dictionary. -/
import Derived.Test.YtfjaimkpmehojaaGreatS10T
namespace Go.Den
open Go
set_option linter.unusedSimpArgs false
set_option linter.unusedVariables false
set_option maxRecDepth 100000
set_option maxHeartbeats 1000000
theorem z2 : (2 : Int) ≠ 0 := by decide
theorem R05_SameV (an : Bool) (ai : Int) (as : ByteArray) (bn : Bool) (bi : Int) (bs : ByteArray) (hL : as.size < 1000000000000000) : Den prog 367 [.agg [.bool an, .int .i64 ai, .str as], .agg [.bool bn, .int .i64 bi, .str bs]] [] = some (.bool (decide ((⟨an, ai, as⟩ : Val) = ⟨bn, bi, bs⟩)), []) := by
  rw [Den_ofK [] pr_R05_Same rfl]
  have h := R05_Compare an ai as bn bi bs hL
  have e : decide (cmpV ⟨an, ai, as⟩ ⟨bn, bi, bs⟩ = 0) = decide ((⟨an, ai, as⟩ : Val) = ⟨bn, bi, bs⟩) := by
    rw [Bool.eq_iff_iff]; simp only [decide_eq_true_eq]
    constructor
    · exact cmpV_zero
    · intro h; rw [h]; exact cmpV_self _
  generalize decide ((⟨an, ai, as⟩ : Val) = ⟨bn, bi, bs⟩) = r at *
  simp only [f_R05_Same, h, e, go_sem]
theorem R10_place (d : List Val) (v : Val) (hd : d.Pairwise (fun a b => cmpV a b ≤ 0)) (hl : d.length < 1000000000) (hs : ∀ x ∈ d, x.s.size < 1000000000000000) : Den prog 495 [.sl (d.map Val.cells), .agg [.bool v.null, .int .i64 v.n, .str v.s]] [] = some (.int .i64 (rankV d v), []) := by
  rw [Den_ofK [] pr_R10_place rfl]
  have hrl := rankV_le d v
  simp only [f_R10_place, go_sem]
  refine fuel_ind (fun f (a : Nat × Nat) => a.1 ≤ rankV d v → rankV d v ≤ a.2 → a.2 ≤ d.length → a.2 < a.1 + f → (Run prog 0 (.loop 0 [0, 3, 5, 6] f_R10_place_l0) [(0, .sl (d.map Val.cells)), (3, .rptr [.bool v.null, .int .i64 v.n, .str v.s]), (5, .int .i64 a.1), (6, .int .i64 a.2)] []).bind _ = some (AV.int .i64 (rankV d v), [])) ?_ ?_ (d.length + 1) (0, d.length) (Nat.zero_le _) hrl (Nat.le_refl _) (by simp only []; omega)
  · intro a h1 h2 _ h3
    omega
  · intro f ⟨i, j⟩ ih h1 h2 h3 h4
    simp only [] at h1 h2 h3 h4 ih ⊢
    rw [Run_loop]
    by_cases hij : i < j
    · have dij : decide ((i : Int) < (j : Int)) = true := by simp; omega
      obtain ⟨h, hh⟩ : ∃ h, h = (i + j) / 2 := ⟨_, rfl⟩
      have w1 : IntKind.wrap .i64 ((i : Int) + (j : Int)) = ((i + j : Nat) : Int) := by rw [wrap_i64 (by omega) (by omega)]; simp
      have w3 : IntKind.wrap .i64 (((i + j : Nat) : Int).tdiv 2) = (h : Int) := by
        have e : ((i + j : Nat) : Int).tdiv 2 = (((i + j) / 2 : Nat) : Int) := rfl
        rw [e, hh]; exact wrap_i64 (by omega) (by omega)
      have w5 : IntKind.wrap .i64 ((h : Int) + 1) = ((h + 1 : Nat) : Int) := by rw [wrap_i64 (by omega) (by omega)]; simp
      obtain ⟨x, hx⟩ : ∃ x, d[h]? = some x := ⟨_, List.getElem?_eq_getElem (by omega)⟩
      have hgx : getE d (h : Int) = some x := by rw [getE_nat]; exact hx
      have hr := rank_iff hd v h x hx
      have hcx := R05_Compare x.null x.n x.s v.null v.n v.s (hs x (List.mem_of_getElem? hx))
      change Den prog 70 _ _ = some (.int .i64 (cmpV x v), []) at hcx
      generalize ((i + j : Nat) : Int) = s at *
      cases dl : decide (cmpV x v < 0) with
      | true =>
        have : h < rankV d v := hr.1 (by simpa using dl)
        have ih := ih (h + 1, j) (by simp only []; omega) h2 h3 (by simp only []; omega)
        simp only [go_sem] at ih
        simp only [f_R10_place_l0_eq, f_R10_place_l0u, dij, w1, w3, w5, z2, hgx, hcx, dl, ih, Val.cells, go_sem]
      | false =>
        have : ¬ h < rankV d v := fun q => by have := hr.2 q; simp at dl; omega
        have ih := ih (i, h) h1 (by simp only []; omega) (by simp only []; omega) (by simp only []; omega)
        simp only [go_sem] at ih
        simp only [f_R10_place_l0_eq, f_R10_place_l0u, dij, w1, w3, z2, hgx, hcx, dl, ih, Val.cells, go_sem]
    · have dij : decide ((i : Int) < (j : Int)) = false := by simp; omega
      have e1 : i = rankV d v := by omega
      subst e1
      clear ih
      simp only [f_R10_place_l0_eq, f_R10_place_l0u, dij, go_sem]
theorem Distinct_l1 (A : AV) (D : List Val) (k N i : Nat) (hA : A.noref = true) (hk : k < N) (hn : N = D.length + 1) (hD : N < 1000000) {K : Ex × Env × St → Option (AV × St)} {Z : Option (AV × St)}
    (hK : ∀ y : Val, K (.exit 2, [(0, A), (3, .osl 0 0 N 0 N), (4, .int .i64 i), (5, .int .i64 k), (6, .int .i64 k), (51, .bool false)], [.arr 0 3 ((D.take k ++ y :: D.drop k).map Val.cells)]) = Z) :
    ∀ (m j : Nat) (y : Val), j = k + m → j < N → (Run prog 0 (.loop 1 [0, 3, 4, 5, 6] f_R10_Distinct_l1) [(0, A), (3, .osl 0 0 N 0 N), (4, .int .i64 i), (5, .int .i64 k), (6, .int .i64 j)] [.arr 0 3 ((D.take j ++ y :: D.drop j).map Val.cells)]).bind K = Z
  | 0, j, y, hj, hjn => by
    have e : j = k := by omega
    subst e
    have d : decide ((j : Int) < (j : Int)) = false := by simp
    have hK := hK y
    rw [Run_loop]
    generalize (D.take j ++ y :: D.drop j).map Val.cells = E at *
    simp only [f_R10_Distinct_l1_eq, f_R10_Distinct_l1u, d, hK, hA, go_sem]
  | m + 1, j, y, hj, hjn => by
    obtain ⟨j', hj'⟩ : ∃ j', j = j' + 1 := ⟨j - 1, by omega⟩
    have d : decide ((k : Int) < (j : Int)) = true := by simp; omega
    have w1 : IntKind.wrap .i64 ((j : Int) - 1) = (j' : Int) := by rw [wrap_i64 (by omega) (by omega)]; omega
    obtain ⟨x, hx⟩ : ∃ x, D[j']? = some x := ⟨_, List.getElem?_eq_getElem (by omega)⟩
    have hlen : ((D.take j ++ y :: D.drop j).map Val.cells).length = N := by simp; omega
    have hg1 : ((D.take j ++ y :: D.drop j).map Val.cells)[j']? = some [.bool x.null, .int .i64 x.n, .str x.s] := by
      rw [List.getElem?_map, List.getElem?_append_left (by simp; omega), List.getElem?_take_of_lt (by omega), hx]; rfl
    have hg2 : ((D.take j ++ y :: D.drop j).map Val.cells)[j]? = some y.cells := by
      rw [List.getElem?_map, List.getElem?_append_right (by simp; omega)]
      simp; rw [show j - min j D.length = 0 by omega]; simp
    have hset : ((D.take j ++ y :: D.drop j).map Val.cells).set j [.bool x.null, .int .i64 x.n, .str x.s] = (D.take j' ++ x :: D.drop j').map Val.cells := by
      have e1 : ((D.take j).map Val.cells).length = j := by simp; omega
      rw [List.map_append, List.set_append_right _ _ (by omega), e1, Nat.sub_self]
      have e2 : D.drop j' = x :: D.drop j := by
        subst hj'
        have q : j' < D.length := by omega
        have := List.getElem?_eq_getElem q
        rw [hx] at this
        rw [List.drop_eq_getElem_cons q, ← Option.some.inj this]
      have e3 : D.take j = D.take j' ++ [x] := by
        rw [hj', List.take_add_one, hx]; rfl
      rw [e2, e3]
      simp [Val.cells]
    have hyl : y.cells.length = 3 := rfl
    have hty : y.cells.drop 3 = [] := rfl
    have hi1 : (j : Int) < (N : Int) := by omega
    have hi0 : (j' : Int) < (N : Int) := by omega
    have ih := Distinct_l1 A D k N i hA hk hn hD hK m j' x (by omega) (by omega)
    rw [← hset] at ih
    clear hset hK
    rw [Run_loop]
    generalize (D.take j ++ y :: D.drop j).map Val.cells = E at *
    simp only [f_R10_Distinct_l1_eq, f_R10_Distinct_l1u, d, w1, hlen, hg1, hg2, hyl, hty, hi0, hi1, hA, ih, go_sem]
theorem R10_Distinct (l : List Val) (hl : l.length < 100000) (hs : ∀ x ∈ l, x.s.size < 1000000000000000) : Den prog 496 [.sl (l.map Val.cells)] [] = some (.sl ((distV l).map Val.cells), []) := by
  rw [Den_ofK [] pr_R10_Distinct rfl]
  simp only [f_R10_Distinct, go_sem]
  refine range_ind l (by omega) (fun i (D : List Val) => (Run prog 0 (.loop 1 [0, 3, 4] f_R10_Distinct_l0) [(0, .sl (l.map Val.cells)), (3, .osl 0 0 D.length 0 D.length), (4, .int .i64 i)] [.arr 0 3 (D.map Val.cells)]).bind _ = some (AV.sl ((distV l).map Val.cells), []))
    (fun i rest D => ∃ p, l = p ++ rest ∧ i = p.length ∧ D = distV p) ?_ ?_ [] ⟨[], rfl, rfl, rfl⟩
  · intro D ⟨p, h1, h2, h3⟩
    have e : p = l := by rw [h1]; simp
    subst e
    subst h3
    rw [Run_loop]
    simp only [f_R10_Distinct_l0_eq, f_R10_Distinct_l0u, go_sem]
  · intro i pre rest v D _ _ hi0 hi1 hx hc hw ⟨p, h1, h2, h3⟩ ih
    have hinc : SInc D := by rw [h3]; exact distV_inc p
    have hDl : D.length ≤ p.length := by rw [h3]; exact distV_len p
    have hpl : p.length < l.length := by rw [h1]; simp
    have hDs : ∀ x ∈ D, x.s.size < 1000000000000000 := fun x hx => hs x (by rw [h1]; exact List.mem_append_left _ ((distV_mem p x).1 (by rw [← h3]; exact hx)).1)
    have hadd := distV_add p v
    rw [← h3] at hadd
    have hP := R10_place D v hinc.le (by omega) hDs
    have hrk := rankV_le D v
    have ih := fun D' (h : D' = distV (p ++ [v])) => ih D' ⟨p ++ [v], by rw [h1]; simp, by simp; omega, h⟩
    obtain ⟨ii, rfl⟩ : ∃ ii : Nat, i = ii := ⟨p.length, h2⟩
    obtain ⟨k, hk⟩ : ∃ k, rankV D v = k := ⟨_, rfl⟩
    rw [hk] at hP hadd hrk
    obtain ⟨vb, vn, vs⟩ := v
    rw [Run_loop]
    cases vb with
    | true =>
      rw [if_pos (.inl rfl)] at hadd
      have ih := ih D hadd.symm
      clear hadd
      simp only [f_R10_Distinct_l0_eq, f_R10_Distinct_l0u, hx, hc, hw, hP, ih, Val.cells, go_sem]
    | false =>
      have hfin : ∀ y : Val, ((D.take k ++ y :: D.drop k).map Val.cells).set k [.bool false, .int .i64 vn, .str vs] = (D.take k ++ ⟨false, vn, vs⟩ :: D.drop k).map Val.cells := by
        intro y
        have e1 : ((D.take k).map Val.cells).length = k := by simp; omega
        rw [List.map_append, List.set_append_right _ _ (by omega), e1, Nat.sub_self]
        simp [Val.cells]
      have hgy : ∀ y : Val, ((D.take k ++ y :: D.drop k).map Val.cells)[k]? = some y.cells := by
        intro y
        rw [List.getElem?_map, List.getElem?_append_right (by simp; omega)]
        simp; rw [show k - min k D.length = 0 by omega]; simp
      have hly : ∀ y : Val, ((D.take k ++ y :: D.drop k).map Val.cells).length = D.length + 1 := by
        intro y; simp; omega
      have hty : ∀ y : Val, y.cells.drop 3 = [] := fun _ => rfl
      have hyl : ∀ y : Val, y.cells.length = 3 := fun _ => rfl
      have hb : (D.length + 1) * 32 ≤ 140737488355328 := by omega
      have wl : IntKind.wrap .i64 ((D.length : Int) + 1 - 1) = (D.length : Int) := by rw [wrap_i64 (by omega) (by omega)]; omega
      have hkN : (k : Int) < (D.length : Int) + 1 := by omega
      have he : (D.take D.length ++ (⟨false, 0, ⟨#[]⟩⟩ : Val) :: D.drop D.length).map Val.cells = D.map Val.cells ++ [[.bool false, .int .i64 0, .str ⟨#[]⟩]] := by
        simp [Val.cells]
      have hl1 := fun K Z hK => Distinct_l1 (.sl (l.map Val.cells)) D k (D.length + 1) ii rfl (by omega) rfl (by omega) (K := K) (Z := Z) hK (D.length - k) D.length ⟨false, 0, ⟨#[]⟩⟩ (by omega) (by omega)
      rw [he] at hl1
      have hlN : (D.take k ++ (⟨false, vn, vs⟩ : Val) :: D.drop k).length = D.length + 1 := by simp; omega
      have ihS := ih D
      have ihN := ih (D.take k ++ ⟨false, vn, vs⟩ :: D.drop k)
      rw [hlN] at ihN
      clear ih he
      cases dk : decide ((k : Int) < (D.length : Int)) with
      | false =>
        have hno : D[k]? = none := List.getElem?_eq_none (by simp at dk; omega)
        rw [hno] at hadd
        rw [if_neg (by simp)] at hadd
        have ihN := ihN hadd.symm
        clear hadd
        simp only [f_R10_Distinct_l0_eq, f_R10_Distinct_l0u, hx, hc, hw, hP, dk, hb, wl, Val.cells, go_sem]
        refine hl1 _ _ (fun y => ?_)
        have hfin := hfin y
        have hgy := hgy y
        have hly := hly y
        have hty := hty y
        have hyl := hyl y
        rw [← hfin] at ihN
        generalize (D.take k ++ y :: D.drop k).map Val.cells = E at *
        simp only [hx, hw, hkN, hgy, hly, hyl, hty, ihN, Val.cells, go_sem]
      | true =>
        obtain ⟨x, hxk⟩ : ∃ x, D[k]? = some x := ⟨_, List.getElem?_eq_getElem (by simpa using dk)⟩
        have hgx : getE D (k : Int) = some x := by rw [getE_nat]; exact hxk
        have hgx' : (D.map Val.cells)[k]? = some [.bool x.null, .int .i64 x.n, .str x.s] := by rw [List.getElem?_map, hxk]; rfl
        have hS := R05_SameV x.null x.n x.s false vn vs (hDs x (List.mem_of_getElem? hxk))
        have dk' : (k : Int) < (D.length : Int) := by simpa using dk
        by_cases hxe : x = ⟨false, vn, vs⟩
        · rw [hxk, hxe] at hadd
          rw [if_pos (.inr rfl)] at hadd
          have ihS := ihS hadd.symm
          rw [decide_eq_true (show (⟨x.null, x.n, x.s⟩ : Val) = ⟨false, vn, vs⟩ from hxe)] at hS
          clear hadd hfin hl1 ihN hxe
          simp only [f_R10_Distinct_l0_eq, f_R10_Distinct_l0u, hx, hc, hw, hP, dk, dk', hgx', hS, ihS, Val.cells, go_sem]
        · rw [hxk] at hadd
          rw [if_neg (by simp; exact hxe)] at hadd
          rw [decide_eq_false (show ¬ (⟨x.null, x.n, x.s⟩ : Val) = ⟨false, vn, vs⟩ from hxe)] at hS
          have ihN := ihN hadd.symm
          clear hadd
          simp only [f_R10_Distinct_l0_eq, f_R10_Distinct_l0u, hx, hc, hw, hP, dk, dk', hgx', hS, hb, wl, Val.cells, go_sem]
          refine hl1 _ _ (fun y => ?_)
          have hfin := hfin y
          have hgy := hgy y
          have hly := hly y
          have hty := hty y
          have hyl := hyl y
          rw [← hfin] at ihN
          generalize (D.take k ++ y :: D.drop k).map Val.cells = E at *
          simp only [hx, hw, hkN, hgy, hly, hyl, hty, ihN, Val.cells, go_sem]
end Go.Den
