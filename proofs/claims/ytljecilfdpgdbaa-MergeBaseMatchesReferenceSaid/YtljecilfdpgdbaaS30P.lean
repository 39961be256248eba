/- Ch. 30: MergeBaseMatchesReference. -/
import Derived.Test.YtljecilfdpgdbaaS30G
namespace Go.Den
open Go Go.Proofs
set_option linter.unusedSimpArgs false
set_option linter.unusedVariables false
set_option maxRecDepth 100000
set_option maxHeartbeats 1000000
structure Lnk where
  n : Int
  bs : List Int
  len : bs.length = 64
deriving DecidableEq
def Lnk.cells (l : Lnk) : List AV := .int .i64 l.n :: l.bs.map (.int .u8)
theorem lnk_len (l : Lnk) : l.cells.length = 65 := by simp [Lnk.cells, l.len]
theorem lnk_take (l : Lnk) : l.cells.take 65 = l.cells := List.take_of_length_le (by rw [lnk_len]; omega)
theorem eqc_bytes : ∀ (xs ys : List Int), xs.length = ys.length → eqCells (List.replicate xs.length .i) (xs.map (.int .u8)) (ys.map (.int .u8)) = some (decide (xs = ys))
  | [], [], _ => by simp [eqCells]
  | [], _ :: _, h => by simp at h
  | _ :: _, [], h => by simp at h
  | x :: xs, y :: ys, h => by
    have ih := eqc_bytes xs ys (by simpa using h)
    rw [List.length_cons, List.replicate_succ, List.map_cons, List.map_cons, eqc_int, ih]
    simp
theorem lnk_eq (a b : Lnk) : eqCells [.i, .i, .i, .i, .i, .i, .i, .i, .i, .i, .i, .i, .i, .i, .i, .i, .i, .i, .i, .i, .i, .i, .i, .i, .i, .i, .i, .i, .i, .i, .i, .i, .i, .i, .i, .i, .i, .i, .i, .i, .i, .i, .i, .i, .i, .i, .i, .i, .i, .i, .i, .i, .i, .i, .i, .i, .i, .i, .i, .i, .i, .i, .i, .i, .i] a.cells b.cells = some (decide (a = b)) := by
  have h := eqc_bytes a.bs b.bs (a.len.trans b.len.symm)
  rw [a.len] at h
  show eqCells (.i :: List.replicate 64 .i) a.cells b.cells = _
  unfold Lnk.cells
  rw [eqc_int, h]
  obtain ⟨an, ab, al⟩ := a
  obtain ⟨bn, bb, bl⟩ := b
  simp
/-- The length of what two lists begin with in common. -/
def com : List Lnk → List Lnk → Nat
  | x :: a, y :: b => if x = y then com a b + 1 else 0
  | _, _ => 0
theorem com_le : ∀ a b, com a b ≤ a.length ∧ com a b ≤ b.length
  | [], b => by simp [com]
  | x :: a, [] => by simp [com]
  | x :: a, y :: b => by
    have := com_le a b
    rw [com]
    split <;> simp <;> omega
theorem com_comm : ∀ a b, com a b = com b a
  | [], [] => rfl
  | [], _ :: _ => rfl
  | _ :: _, [] => rfl
  | x :: a, y :: b => by
    rw [com, com, com_comm a b]
    by_cases h : x = y
    · rw [if_pos h, if_pos h.symm]
    · rw [if_neg h, if_neg fun e => h e.symm]
theorem com_take : ∀ (a b : List Lnk) (k : Nat), k ≤ a.length → k ≤ com a (a.take k ++ b)
  | a, b, 0, _ => Nat.zero_le _
  | [], b, k + 1, h => by simp at h
  | x :: a, b, k + 1, h => by
    have := com_take a b k (by simpa using h)
    rw [List.take_succ_cons, List.cons_append, com, if_pos rfl]
    omega
theorem com_take_eq (a : List Lnk) (k : Nat) (h : k ≤ a.length) : com a (a.take k) = k := by
  have h1 := com_take a [] k h
  rw [List.append_nil] at h1
  have h2 := (com_le a (a.take k)).2
  rw [List.length_take] at h2
  omega
theorem merge_Base_l0 {β : Type} {K : Ex × Env × St → Option β} {Z : Option β} (A B : List Lnk) (hA : A.length < 10000000000000) (hB : B.length < 10000000000000) : ∀ (r s pre : List Lnk), A = pre ++ r → B = pre ++ s →
    K (.exit 0, [(0, .sl (A.map Lnk.cells)), (1, .sl (B.map Lnk.cells)), (5, .int .i64 ((pre.length : Int) + com r s)), (23, .bool false)], []) = Z →
    (Run prog 0 (.loop 0 [0, 1, 5] f_merge_Base_l0) [(0, .sl (A.map Lnk.cells)), (1, .sl (B.map Lnk.cells)), (5, .int .i64 pre.length)] []).bind K = Z := by
  intro r
  induction r with
  | nil =>
    intro s pre h1 h2 hK
    have hl : A.length = pre.length := by rw [h1]; simp
    have hl2 : B.length = pre.length + s.length := by rw [h2]; simp
    have hd : decide ((pre.length : Int) < if (B.length : Int) < A.length then (B.length : Int) else A.length) = false := by
      split <;> simp <;> omega
    have e : com [] s = 0 := rfl
    rw [e] at hK
    simp only [Int.natCast_zero, Int.add_zero] at hK
    rw [Run_loop]
    simp only [f_merge_Base_l0_eq, f_merge_Base_l0u, hd, hK, go_sem]
  | cons x r ih =>
    intro s pre h1 h2 hK
    have hl : A.length = pre.length + (r.length + 1) := by rw [h1]; simp
    cases s with
    | nil =>
      have hl2 : B.length = pre.length := by rw [h2]; simp
      have hd : decide ((pre.length : Int) < if (B.length : Int) < A.length then (B.length : Int) else A.length) = false := by
        split <;> simp <;> omega
      have e : com (x :: r) [] = 0 := rfl
      rw [e] at hK
      simp only [Int.natCast_zero, Int.add_zero] at hK
      rw [Run_loop]
      simp only [f_merge_Base_l0_eq, f_merge_Base_l0u, hd, hK, go_sem]
    | cons y s =>
      have hl2 : B.length = pre.length + (s.length + 1) := by rw [h2]; simp
      have hd : decide ((pre.length : Int) < if (B.length : Int) < A.length then (B.length : Int) else A.length) = true := by
        split <;> simp <;> omega
      have hx : getE A (pre.length : Int) = some x := getE_at h1
      have hy : getE B (pre.length : Int) = some y := getE_at h2
      have hw : IntKind.wrap .i64 ((pre.length : Int) + 1) = pre.length + 1 := wrap_i64 (by omega) (by omega)
      rw [com] at hK
      rw [Run_loop]
      by_cases hxy : x = y
      · have d : decide (x = y) = true := by simp [hxy]
        rw [if_pos hxy] at hK
        have ih := ih s (pre ++ [x]) (by rw [h1]; simp) (by rw [h2, hxy]; simp) (by
          have e : ((pre ++ [x]).length : Int) + (com r s : Int) = (pre.length : Int) + ((com r s + 1 : Nat) : Int) := by simp; omega
          rw [e]; exact hK)
        rw [show ((pre ++ [x]).length : Int) = (pre.length : Int) + 1 by simp] at ih
        clear hK h1 h2 hl hl2
        simp only [f_merge_Base_l0_eq, f_merge_Base_l0u, hd, hx, hy, hw, d, lnk_len, lnk_take, lnk_eq, ih, go_sem]
      · have d : decide (x = y) = false := by simp [hxy]
        rw [if_neg hxy] at hK
        simp only [Int.natCast_zero, Int.add_zero] at hK
        clear h1 h2 hl hl2 ih
        simp only [f_merge_Base_l0_eq, f_merge_Base_l0u, hd, hx, hy, hw, d, lnk_len, lnk_take, lnk_eq, hK, go_sem]
theorem merge_Base (A B : List Lnk) (hA : A.length < 10000000000000) (hB : B.length < 10000000000000) : Den prog 135 [.sl (A.map Lnk.cells), .sl (B.map Lnk.cells)] [] = some (.int .i64 (com A B), []) := by
  rw [Den_ofK [] pr_merge_Base rfl]
  simp only [f_merge_Base, go_sem]
  refine merge_Base_l0 A B hA hB A B [] rfl rfl ?_
  simp only [go_sem]
theorem R30_Base_l0 {β : Type} {K : Ex × Env × St → Option β} {Z : Option β} (A B : List Lnk) (hA : A.length < 10000000000000) (hB : B.length < 10000000000000) : ∀ (r s pre : List Lnk), A = pre ++ r → B = pre ++ s →
    K (.exit 0, [(0, .sl (A.map Lnk.cells)), (1, .sl (B.map Lnk.cells)), (5, .int .i64 ((pre.length : Int) + com r s)), (26, .bool false)], []) = Z →
    (Run prog 0 (.loop 0 [0, 1, 5] f_R30_Base_l0) [(0, .sl (A.map Lnk.cells)), (1, .sl (B.map Lnk.cells)), (5, .int .i64 pre.length)] []).bind K = Z := by
  intro r
  induction r with
  | nil =>
    intro s pre h1 h2 hK
    have hl : A.length = pre.length := by rw [h1]; simp
    have hd : decide ((pre.length : Int) < A.length) = false := by simp; omega
    have e : com [] s = 0 := rfl
    rw [e] at hK
    simp only [Int.natCast_zero, Int.add_zero] at hK
    rw [Run_loop]
    simp only [f_R30_Base_l0_eq, f_R30_Base_l0u, hd, hK, go_sem]
  | cons x r ih =>
    intro s pre h1 h2 hK
    have hl : A.length = pre.length + (r.length + 1) := by rw [h1]; simp
    have hd1 : decide ((pre.length : Int) < A.length) = true := by simp; omega
    cases s with
    | nil =>
      have hl2 : B.length = pre.length := by rw [h2]; simp
      have hd : decide ((pre.length : Int) < B.length) = false := by simp; omega
      have e : com (x :: r) [] = 0 := rfl
      rw [e] at hK
      simp only [Int.natCast_zero, Int.add_zero] at hK
      rw [Run_loop]
      simp only [f_R30_Base_l0_eq, f_R30_Base_l0u, hd1, hd, hK, go_sem]
    | cons y s =>
      have hl2 : B.length = pre.length + (s.length + 1) := by rw [h2]; simp
      have hd : decide ((pre.length : Int) < B.length) = true := by simp; omega
      have hx : getE A (pre.length : Int) = some x := getE_at h1
      have hy : getE B (pre.length : Int) = some y := getE_at h2
      have hw : IntKind.wrap .i64 ((pre.length : Int) + 1) = pre.length + 1 := wrap_i64 (by omega) (by omega)
      rw [com] at hK
      rw [Run_loop]
      by_cases hxy : x = y
      · have d : decide (x = y) = true := by simp [hxy]
        rw [if_pos hxy] at hK
        have ih := ih s (pre ++ [x]) (by rw [h1]; simp) (by rw [h2, hxy]; simp) (by
          have e : ((pre ++ [x]).length : Int) + (com r s : Int) = (pre.length : Int) + ((com r s + 1 : Nat) : Int) := by simp; omega
          rw [e]; exact hK)
        rw [show ((pre ++ [x]).length : Int) = (pre.length : Int) + 1 by simp] at ih
        clear hK h1 h2 hl hl2
        simp only [f_R30_Base_l0_eq, f_R30_Base_l0u, hd1, hd, hx, hy, hw, d, lnk_len, lnk_take, lnk_eq, ih, go_sem]
      · have d : decide (x = y) = false := by simp [hxy]
        rw [if_neg hxy] at hK
        simp only [Int.natCast_zero, Int.add_zero] at hK
        clear h1 h2 hl hl2 ih
        simp only [f_R30_Base_l0_eq, f_R30_Base_l0u, hd1, hd, hx, hy, hw, d, lnk_len, lnk_take, lnk_eq, hK, go_sem]
theorem R30_Base (A B : List Lnk) (hA : A.length < 10000000000000) (hB : B.length < 10000000000000) : Den prog 144 [.sl (A.map Lnk.cells), .sl (B.map Lnk.cells)] [] = some (.int .i64 (com A B), []) := by
  rw [Den_ofK [] pr_R30_Base rfl]
  simp only [f_R30_Base, go_sem]
  refine R30_Base_l0 A B hA hB A B [] rfl rfl ?_
  simp only [go_sem]
theorem law_MBR (a b : List Lnk) (n : Int) (ha : a.length < 10000000000000) (hb : b.length < 10000000000000) (h0 : 0 ≤ n) (h1 : n < 256) : Den prog 155 [.sl (a.map Lnk.cells), .sl (b.map Lnk.cells), .int .u8 n] [] = some (.bool true, []) := by
  have hma : ∀ L : List Lnk, (if (40 : Int) < L.length then 40 else (L.length : Int)) = ((L.take 40).length : Int) := fun L => by
    rw [List.length_take]; split <;> omega
  have hsl : ∀ (L : List Lnk) (k : Nat) (σ : St), k ≤ L.length → sliceV 65 (.sl (L.map Lnk.cells)) none (some (.int .i64 k)) none σ = some (.sl ((L.take k).map Lnk.cells), σ, false) := fun L k σ hk => by
    have := sliceV_to σ 65 (L.map Lnk.cells) .i64 k (by omega) (by rw [List.length_map]; omega) (by rw [szOK_map 65 Lnk.cells L lnk_len]; trivial)
    simpa using this
  have hk : (L : List Lnk) → L.take (L.take 40).length = L.take 40 := fun L => by
    rw [List.length_take]
    rcases Nat.le_total 40 L.length with h | h
    · rw [Nat.min_eq_left h]
    · rw [Nat.min_eq_right h, List.take_of_length_le h, List.take_of_length_le (Nat.le_refl _)]
  have sa := hsl a (a.take 40).length [] (by rw [List.length_take]; omega)
  have sb := hsl b (b.take 40).length [] (by rw [List.length_take]; omega)
  rw [hk] at sa sb
  have la : (a.take 40).length ≤ 40 := by rw [List.length_take]; omega
  have lb : (b.take 40).length ≤ 40 := by rw [List.length_take]; omega
  have ma := hma a
  have mb := hma b
  generalize hX : a.take 40 = X at *
  generalize hY : b.take 40 = Y at *
  have hw0 : IntKind.wrap .i64 n = n := wrap_i64 (by omega) (by omega)
  have hw1 : IntKind.wrap .i64 ((X.length : Int) + 1) = X.length + 1 := wrap_i64 (by omega) (by omega)
  have hne : (X.length : Int) + 1 ≠ 0 := by omega
  obtain ⟨k, hkk, hkl⟩ : ∃ k : Nat, n.tmod ((X.length : Int) + 1) = k ∧ k ≤ X.length := by
    have q1 : 0 ≤ n.tmod ((X.length : Int) + 1) := Int.tmod_nonneg _ h0
    have q2 : n.tmod ((X.length : Int) + 1) < (X.length : Int) + 1 := Int.tmod_lt_of_pos _ (by omega)
    exact ⟨(n.tmod ((X.length : Int) + 1)).toNat, by omega, by omega⟩
  have sx : ∀ σ : St, sliceV 65 (.sl (X.map Lnk.cells)) none (some (.int .i64 k)) none σ = some (.sl ((X.take k).map Lnk.cells), σ, false) := fun σ => hsl X k σ hkl
  have lt : (X.take k).length ≤ 40 := by rw [List.length_take]; omega
  have b1 := merge_Base X Y (by omega) (by omega)
  have b2 := R30_Base X Y (by omega) (by omega)
  have b3 := merge_Base X (X.take k ++ Y) (by omega) (by rw [List.length_append]; omega)
  have b4 := R30_Base X (X.take k ++ Y) (by omega) (by rw [List.length_append]; omega)
  have b5 := merge_Base (X.take k ++ Y) X (by rw [List.length_append]; omega) (by omega)
  have b6 := merge_Base X (X.take k) (by omega) (by omega)
  rw [com_comm] at b5
  rw [com_take_eq X k hkl] at b6
  have hge : decide ((k : Int) ≤ com X (X.take k ++ Y)) = true := by have := com_take X Y k hkl; simp; omega
  have dself : ∀ q : Int, decide (q = q) = true := fun q => by simp
  have z1 : szOKb 65 ((X.take k).map Lnk.cells) = true := by rw [szOKb_iff, szOK_map 65 Lnk.cells _ lnk_len]; trivial
  have z2 : szOKb 65 (Y.map Lnk.cells) = true := by rw [szOKb_iff, szOK_map 65 Lnk.cells _ lnk_len]; trivial
  have hb1 : (X.take k).length * 72 ≤ 140737488355328 := by omega
  have hb2 : ((X.take k).length + Y.length) * 72 ≤ 140737488355328 := by omega
  clear hsl hma hk hX hY hb ha
  generalize X.take k = T at *
  rw [Den_ofK [] pr_L30_MergeBaseMatchesReference rfl]
  simp only [List.map_append] at b3 b4 b5
  simp only [f_L30_MergeBaseMatchesReference, sanity, ma, mb, sa, sb, hw0, hw1, hne, hkk, sx, b1, b2, b3, b4, b5, b6, hge, dself, z1, z2, hb1, hb2, List.length_map, go_sem]
theorem sh_bytes {n : Nat} {k : Nat} {t : TypeId} {xs : List AV} (h : Sh Try.prog n t xs) (hu : Try.prog.underlying t = some (.array k 5)) : ∃ bs : List Int, xs = bs.map (.int .u8) ∧ bs.length = k := by
  obtain ⟨ps, m, hl, rfl, hp⟩ := h.array hu
  clear hu h
  induction ps generalizing k with
  | nil => exact ⟨[], rfl, hl⟩
  | cons y r ih =>
    cases k with
    | zero => simp at hl
    | succ k =>
      obtain ⟨bs, h1, h2⟩ := ih (k := k) (by simpa using hl) fun z hz => hp z (by simp [hz])
      obtain ⟨i, rfl, _⟩ := Sh.int (hp y (by simp)) Try.underlying5
      exact ⟨i :: bs, by rw [List.flatten_cons, h1]; rfl, by simp [h2]⟩
theorem sh_link {n : Nat} {xs : List AV} (h : Sh Try.prog n 89 xs) : ∃ l : Lnk, xs = l.cells ∧ True := by
  obtain ⟨ps, m, rfl, hp⟩ := h.struct Try.underlying89
  obtain ⟨p, q, r, rfl, h1, h2, h3⟩ := hp.p3
  obtain ⟨i, rfl, _⟩ := Sh.int h1 Try.underlying3
  obtain ⟨b1, rfl, l1⟩ := sh_bytes h2 Try.underlying87
  obtain ⟨b2, rfl, l2⟩ := sh_bytes h3 Try.underlying87
  exact ⟨⟨i, b1 ++ b2, by simp [l1, l2]⟩, by simp [Lnk.cells], trivial⟩
theorem sh_links {n : Nat} {xs : List AV} (h : Sh Try.prog n 41 xs) : ∃ L : List Lnk, xs = [.sl (L.map Lnk.cells)] ∧ L.length * 72 ≤ 140737488351232 := by
  obtain ⟨es, k, rfl, hb, he⟩ := h.slice Try.underlying41
  obtain ⟨L, rfl, _⟩ := list_typed fun y hy => sh_link (he y hy)
  have e : Try.prog.bytesOf 89 = 72 := by kernel_rfl
  rw [e] at hb
  exact ⟨L, rfl, by simpa using hb⟩
theorem row_MBR (xs : List AV) (h : Args Try.prog [41, 41, 5] xs) : Den prog 155 xs [] = some (.bool true, []) := by
  obtain ⟨n, x, ys, rfl, h1, h⟩ := h.one
  obtain ⟨n2, x2, ys2, rfl, h2, h⟩ := h.one
  obtain ⟨n3, x3, ys3, rfl, h3, h⟩ := h.one
  cases h.none
  obtain ⟨A, rfl, hA⟩ := sh_links h1
  obtain ⟨B, rfl, hB⟩ := sh_links h2
  obtain ⟨k, rfl, hk⟩ := Sh.int h3 Try.underlying5
  simp only [avOf, Try.underlying41, Try.underlying5]
  simp [Lit.wf, IntKind.min, IntKind.max, IntKind.bits, IntKind.signed] at hk
  exact law_MBR A B k (by omega) (by omega) (by omega) (by omega)
end Go.Den
