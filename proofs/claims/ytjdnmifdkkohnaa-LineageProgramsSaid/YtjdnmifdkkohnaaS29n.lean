/- Ch. 29: the tables of the laws. -/
import Derived.Test.YtjdnmifdkkohnaaS29m
import Derived.Test.YtjdnmifdkkohnaaL29b
namespace Go.Den
open Go Go.Proofs
set_option linter.unusedSimpArgs false
set_option linter.unusedVariables false
set_option maxRecDepth 100000
set_option maxHeartbeats 1000000
theorem and7 (a : Int) : andI .i64 a 7 = a % 8 := by
  change IntKind.wrap .i64 ((BitVec.ofInt 64 a &&& BitVec.ofInt 64 7).toNat : Int) = a % 8
  have e : (BitVec.ofInt 64 a &&& BitVec.ofInt 64 7).toNat = (a % 8).toNat := by
    rw [BitVec.toNat_and]
    have h7 : (BitVec.ofInt 64 7).toNat = 2 ^ 3 - 1 := by decide
    rw [h7, Nat.and_two_pow_sub_one_eq_mod, BitVec.toNat_ofInt]
    omega
  rw [e, wrap_i64 (by omega) (by omega)]
  omega
def madeStep (s : List Line × Int) (x : Line) : List Line × Int := (s.1 ++ [⟨s.2 + x.n % 8, x.r⟩], s.2 + x.n % 8 + 1)
def made (L : List Line) (g : Int) : Table := ⟨((L.take 40).foldl madeStep ([], 0)).2 + g, ((L.take 40).foldl madeStep ([], 0)).1⟩
def σM (s : List Line × Int) : St := [.cells [.int .i64 0, .nils], .arr 0 2 (s.1.map Line.cells), .cells [.int .i64 s.2, .osl 1 0 s.1.length 0 s.1.length]]
theorem R29_Made_l0 {β : Type} {K : Ex × Env × St → Option β} {Z : Option β} (L : List Line) (hL : L.length < 1000000000000000) (g : Int)
    (h : ∀ j : Int, K (.exit 0, [(0, .sl (L.map Line.cells)), (1, .int .u8 g), (4, .ref 0 0), (5, .ref 2 0), (6, .int .i64 j), (15, .bool false)], σM ((L.take 40).foldl madeStep ([], 0))) = Z) :
    (Run prog 0 (.loop 3 [0, 1, 4, 5, 6] f_R29_Made_l0) [(0, .sl (L.map Line.cells)), (1, .int .u8 g), (4, .ref 0 0), (5, .ref 2 0), (6, .int .i64 0)] (σM ([], 0))).bind K = Z := by
  refine range_ind L hL (fun i (s : List Line × Int) => (Run prog 0 (.loop 3 [0, 1, 4, 5, 6] f_R29_Made_l0) [(0, .sl (L.map Line.cells)), (1, .int .u8 g), (4, .ref 0 0), (5, .ref 2 0), (6, .int .i64 i)] (σM s)).bind K = Z)
    (fun i rest s => (rest.take (40 - i).toNat).foldl madeStep s = (L.take 40).foldl madeStep ([], 0) ∧ i ≤ 40 ∧ 0 ≤ s.2 ∧ s.2 ≤ 8 * i ∧ (s.1.length : Int) ≤ i) ?_ ?_ ([], 0) ⟨by simp, by omega, by simp, by simp, by simp⟩
  · intro s ⟨hs, _⟩
    simp only [List.take_nil, List.foldl_nil] at hs
    have h := h L.length
    rw [← hs] at h
    simp only [σM, go_sem] at h
    rw [Run_loop]
    simp only [f_R29_Made_l0_eq, f_R29_Made_l0u, σM, h, go_sem]
  · intro i pre rest x s hp hi0 hi1 hi2 hx hc hw ⟨hs, h40, hs0, hs8, hsl⟩ ih
    obtain ⟨out, next⟩ := s
    simp only [] at hs0 hs8 hsl
    rw [Run_loop]
    by_cases hlt : i < 40
    · have hd : decide (i < 40) = true := by simpa using hlt
      have hb : (out.length + 1) * 32 ≤ 140737488355328 := by clear hs hw hx hc ih h hp; omega
      have hm0 : 0 ≤ x.n % 8 := by clear hs hw hx hc ih h hp; omega
      have hm8 : x.n % 8 < 8 := by clear hs hw hx hc ih h hp; omega
      have hw1 : IntKind.wrap .i64 (next + x.n % 8) = next + x.n % 8 := wrap_i64 (by clear hs hw hx hc ih h hp; omega) (by clear hs hw hx hc ih h hp; omega)
      have hw2 : IntKind.wrap .i64 (next + x.n % 8 + 1) = next + x.n % 8 + 1 := wrap_i64 (by clear hs hw hx hc ih h hp hw1; omega) (by clear hs hw hx hc ih h hp hw1; omega)
      have ha := and7 x.n
      have et : (40 - i).toNat = (40 - (i + 1)).toNat + 1 := by clear hs hw hx hc ih h hp hw1 hw2 ha; omega
      rw [et, List.take_succ_cons, List.foldl_cons] at hs
      have ih := ih _ ⟨hs, by clear hs hw hx hc ih h hp hw1 hw2 ha; omega, by simp only [madeStep]; clear hs hw hx hc ih h hp hw1 hw2 ha; omega, by simp only [madeStep]; clear hs hw hx hc ih h hp hw1 hw2 ha; omega, by simp only [madeStep, List.length_append, List.length_cons, List.length_nil]; clear hs hw hx hc ih h hp hw1 hw2 ha; omega⟩
      simp only [madeStep, σM, go_sem] at ih
      clear hs h hp
      simp only [f_R29_Made_l0_eq, f_R29_Made_l0u, σM, hx, hc, hw, hd, ha, hw1, hw2, hb, ih, go_sem]
    · have hd : decide (i < 40) = false := by simpa using hlt
      have et : (40 - i).toNat = 0 := by clear hs hw hx hc ih h hp; omega
      rw [et, List.take_zero, List.foldl_nil] at hs
      have h := h i
      rw [← hs] at h
      simp only [σM, go_sem] at h
      simp only [f_R29_Made_l0_eq, f_R29_Made_l0u, σM, hx, hc, hd, h, go_sem]
theorem made_inv : ∀ (L : List Line) (s : List Line × Int), 0 ≤ s.2 → Srt Line.n s.1 → (∀ x ∈ s.1, 0 ≤ x.n ∧ x.n < s.2) →
    s.2 ≤ (L.foldl madeStep s).2 ∧ (L.foldl madeStep s).2 ≤ s.2 + 8 * L.length ∧ Srt Line.n (L.foldl madeStep s).1 ∧ (∀ x ∈ (L.foldl madeStep s).1, 0 ≤ x.n ∧ x.n < (L.foldl madeStep s).2) ∧ (L.foldl madeStep s).1.length = s.1.length + L.length ∧
    ∀ x ∈ (L.foldl madeStep s).1, x ∈ s.1 ∨ ∃ y ∈ L, x.r = y.r
  | [], s, h0, h1, h2 => ⟨Int.le_refl _, by simp, h1, h2, rfl, fun x hx => .inl hx⟩
  | x :: L, s, h0, h1, h2 => by
    have hm0 : 0 ≤ x.n % 8 := by omega
    have hm8 : x.n % 8 < 8 := by omega
    obtain ⟨i1, i2, i3, i4, i5, i6⟩ := made_inv L (madeStep s x) (by simp only [madeStep]; omega) (by
      simp only [madeStep]
      refine List.pairwise_append.2 ⟨h1, by simp, fun a ha b hb => ?_⟩
      simp at hb; subst hb
      have := h2 a ha; simp only []; omega) (by
      intro y hy
      simp only [madeStep, List.mem_append, List.mem_singleton] at hy ⊢
      rcases hy with hy | rfl
      · have := h2 y hy; omega
      · simp only []; omega)
    rw [List.foldl_cons]
    have e : (madeStep s x).2 = s.2 + x.n % 8 + 1 := rfl
    have e2 : (madeStep s x).1.length = s.1.length + 1 := by simp [madeStep]
    rw [e] at i1 i2
    rw [e2] at i5
    refine ⟨by omega, by simp only [List.length_cons]; omega, i3, i4, by simp only [List.length_cons]; omega, fun y hy => ?_⟩
    rcases i6 y hy with h | ⟨z, hz, hr⟩
    · simp only [madeStep, List.mem_append, List.mem_singleton] at h
      rcases h with h | rfl
      · exact .inl h
      · exact .inr ⟨x, by simp, rfl⟩
    · exact .inr ⟨z, by simp [hz], hr⟩
theorem made_ok (L : List Line) (g : Int) (h0 : 0 ≤ g) (h1 : g < 256) : VT (made L g) ∧ (made L g).l.length ≤ 40 ∧ (okL L → okL (made L g).l) := by
  obtain ⟨i1, i2, i3, i4, i5, i6⟩ := made_inv (L.take 40) ([], 0) (by simp) List.Pairwise.nil (by simp)
  have hl : (L.take 40).length ≤ 40 := by rw [List.length_take]; omega
  simp only [List.length_nil] at i1 i2 i5
  refine ⟨⟨by simp only [made]; omega, by simp only [made]; omega, by simp only [made]; omega, i3, fun x hx => by have := i4 x hx; simp only [made]; omega⟩, by simp only [made]; omega, fun hok x hx => ?_⟩
  rcases i6 x hx with h | ⟨y, hy, hr⟩
  · simp at h
  · rw [hr]; exact hok y (List.mem_of_mem_take hy)
theorem R29_Made (L : List Line) (hL : L.length < 1000000000000000) (g : Int) (h0 : 0 ≤ g) (h1 : g < 256) : Den prog 43 [.sl (L.map Line.cells), .int .u8 g] [] = some (.agg [.int .i64 (made L g).next, .sl ((made L g).l.map Line.cells)], []) := by
  obtain ⟨i1, i2, i3, i4, i5, i6⟩ := made_inv (L.take 40) ([], 0) (by simp) List.Pairwise.nil (by simp)
  have hl : (L.take 40).length ≤ 40 := by rw [List.length_take]; omega
  simp only [List.length_nil] at i1 i2 i5
  have hwg : IntKind.wrap .i64 g = g := wrap_i64 (by omega) (by omega)
  have hw : IntKind.wrap .i64 (((L.take 40).foldl madeStep ([], 0)).2 + g) = ((L.take 40).foldl madeStep ([], 0)).2 + g := wrap_i64 (by omega) (by omega)
  rw [Den_ofK [] pr_R29_Made rfl]
  simp only [f_R29_Made, go_sem]
  have hlp := fun K Z => R29_Made_l0 (β := AV × St) (K := K) (Z := Z) L hL g
  clear i1 i2 i3 i4 i5 i6
  unfold made
  generalize (L.take 40).foldl madeStep ([], 0) = s at *
  obtain ⟨out, next⟩ := s
  simp only [σM, go_sem] at hlp hw
  refine hlp _ _ fun j => ?_
  simp only [hwg, hw, go_sem]
theorem L29_tables (a b c : List Line) (g : Int) (ha : a.length < 1000000000000000) (hb : b.length < 1000000000000000) (hc : c.length < 1000000000000000) (h0 : 0 ≤ g) (h1 : g < 256) :
    Den prog 45 [.agg [.sl (a.map Line.cells), .sl (b.map Line.cells), .sl (c.map Line.cells), .int .u8 g]] [] =
      some (.agg [.int .i64 (made a g).next, .sl ((made a g).l.map Line.cells), .int .i64 (made b g).next, .sl ((made b g).l.map Line.cells), .int .i64 (made c g).next, .sl ((made c g).l.map Line.cells)], []) := by
  have m1 := R29_Made a ha g h0 h1
  have m2 := R29_Made b hb g h0 h1
  have m3 := R29_Made c hc g h0 h1
  rw [Den_ofK [] pr_L29_tables rfl]
  simp only [f_L29_tables, m1, m2, m3, Nat.reduceMul, go_sem]
theorem L29_light (a b c : List Line) (g : Int) (ha : a.length < 1000000000000000) (hb : b.length < 1000000000000000) (hc : c.length < 1000000000000000) :
    Den prog 44 [.agg [.sl (a.map Line.cells), .sl (b.map Line.cells), .sl (c.map Line.cells), .int .u8 g]] [] = some (.bool (lightL a && (lightL b && lightL c)), []) := by
  have m1 := R29_Light a ha
  have m2 := R29_Light b hb
  have m3 := R29_Light c hc
  rw [Den_ofK [] pr_L29_light rfl]
  cases ca : lightL a <;> cases cb : lightL b <;> cases cc : lightL c <;> simp only [f_L29_light, m1, m2, m3, ca, cb, cc, Nat.reduceMul, go_sem]
theorem L29_has (t : Table) (n : Int) (hL : t.l.length < 1000000000000000) : Den prog 46 [.agg [.int .i64 t.next, .sl (t.l.map Line.cells)], .int .i64 n] [] = some (.tup [.agg [.sl ((rowOf (fnd t.l n)).map Cell.cells)], .bool (fnd t.l n).isSome], []) := by
  rw [Den_ofK [] pr_L29_has rfl]
  simp only [f_L29_has, go_sem]
  refine range_ind t.l hL (fun i (_ : Unit) => (Run prog 0 (.loop 1 [1, 2, 4, 6] f_L29_has_l0) [(1, .int .i64 n), (2, .rptr [.int .i64 t.next, .sl (t.l.map Line.cells)]), (4, .ref 0 0), (6, .int .i64 i)] [.cells [.nils]]).bind _ = _) (fun i rest _ => fnd rest n = fnd t.l n) ?_ ?_ () rfl
  · intro _ h
    have h : fnd t.l n = none := h.symm
    rw [Run_loop]
    simp only [f_L29_has_l0_eq, f_L29_has_l0u, h, go_sem]
  · intro i pre rest x _ hp _ _ _ hx hc hw h ih
    rw [Run_loop]
    by_cases hn : x.n = n
    · have hd : decide (x.n = n) = true := by simpa using hn
      have h : fnd t.l n = some x.r := by rw [← h]; simp [fnd, lk_cons, hn]
      simp only [f_L29_has_l0_eq, f_L29_has_l0u, hx, hc, hd, h, go_sem]
    · have hd : decide (x.n = n) = false := by simpa using hn
      have ih := ih () (by rw [← h]; simp [fnd, lk_cons, hn])
      simp only [f_L29_has_l0_eq, f_L29_has_l0u, hx, hc, hw, hd, ih, go_sem]
end Go.Den
