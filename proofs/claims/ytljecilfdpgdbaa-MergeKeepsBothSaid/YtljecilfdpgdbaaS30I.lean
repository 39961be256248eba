/- Ch. 30: MergeOneSide. -/
import Derived.Test.YtljecilfdpgdbaaS30H
namespace Go.Den
open Go Go.Proofs
set_option linter.unusedSimpArgs false
set_option linter.unusedVariables false
set_option maxRecDepth 100000
set_option maxHeartbeats 1000000
theorem numL_get : ∀ (q : List Line) (n : Int) (k : Nat), (numL n q)[k]? = (q[k]?).map fun x => (⟨n + k, x.r⟩ : Line)
  | [], n, k => by simp [numL]
  | x :: q, n, 0 => by simp [numL]
  | x :: q, n, k + 1 => by
    simp only [numL, List.getElem?_cons_succ, numL_get q (n + 1) k]
    congr 1
    funext y
    congr 1
    omega
def pairZ (b : Int) (old new : List Line) : List (Line × Line) := old.map (fun x => (x, x)) ++ (numL b new).zip new
theorem pairZ_fst (b : Int) (old new : List Line) : (pairZ b old new).map Prod.fst = old ++ numL b new := by
  unfold pairZ
  rw [List.map_append, List.map_map, List.map_fst_zip (by simp [numL_len])]
  show old.map (fun x => x) ++ _ = _
  rw [List.map_id']
theorem pairZ_snd (b : Int) (old new : List Line) : (pairZ b old new).map Prod.snd = old ++ new := by
  unfold pairZ
  rw [List.map_append, List.map_map, List.map_snd_zip (by simp [numL_len])]
  show old.map (fun x => x) ++ _ = _
  rw [List.map_id']
theorem pairZ_get {b : Int} {old new : List Line} {i : Int} {z : Line × Line} (h : getE (pairZ b old new) i = some z) : z.1.r = z.2.r ∧ z.2 ∈ old ++ new ∧ (i < old.length → z.1.n = z.2.n) ∧ ((old.length : Int) ≤ i → z.1.n = b + (i - old.length)) := by
  unfold getE at h
  split at h
  · rename_i h0
    unfold pairZ at h
    rw [List.getElem?_append] at h
    simp only [List.length_map] at h
    split at h
    · rename_i hl
      rw [List.getElem?_map] at h
      obtain ⟨x, hx, rfl⟩ := Option.map_eq_some_iff.1 h
      exact ⟨rfl, List.mem_append_left _ (List.mem_of_getElem? hx), fun _ => rfl, fun h => by omega⟩
    · rename_i hl
      rw [List.getElem?_zip_eq_some, numL_get] at h
      obtain ⟨h1, h2⟩ := h
      rw [h2] at h1
      simp at h1
      obtain ⟨z1, z2⟩ := z
      simp only at h1 h2 ⊢
      subst h1
      refine ⟨rfl, List.mem_append_right _ (List.mem_of_getElem? h2), fun h => by omega, fun _ => ?_⟩
      simp only []
      omega
  · exact absurd h (by simp)
theorem law_MOS (x : Case) (h : CaseOk x) : Den prog 156 [.agg x.cells] [] = some (.bool true, []) := by
  have hm := made_ok h
  have tb := base_ok x
  have sb := base_small x
  have ⟨ta, sa1, sa2⟩ := branch_small x x.a h.a0
  have hi := branch_is x x.a h.a0
  change TOK (brA x) at ta
  change (brA x).l.length ≤ 18 at sa1
  change (brA x).next ≤ 40 at sa2
  generalize hold : oldS (rowsN (schS x.cs 8) x.a.rows 6) x.a.gone x.a.chg 0 (baseS x).l = old at *
  generalize hnew : addL ((baseS x).next + x.a.skip.tmod 3) (rowsN (schS x.cs 8) x.a.rows 6) = new at *
  change IsBr (baseS x) (brA x) old new at hi
  clear hold hnew
  generalize baseS x = T at *
  generalize brA x = A at *
  generalize brB x = B at *
  have m1 := Merge_small tb ta tb
  have m2 := Merge_small tb tb ta
  have m3 := Merge_small tb (ta.cut hi.eq) (ta.cut hi.eq)
  rw [merge_a_base hi tb ta (by omega) (by omega)] at m1
  rw [merge_base_a hi tb ta (by omega) (by omega)] at m2
  rw [merge_cut hi tb ta (by omega) (by omega)] at m3
  have rA := ta.rows
  have s1 := SameTable_refl (n := A.next) (L := A.l) (by omega) rA
  have rO : rowsOk old := fun z hz => rA z (by rw [hi.eq]; simp [hz])
  have hol := old_len hi
  have s2 := SameTable_refl (n := A.next) (L := old) (by omega) rO
  have f1 := R30_Fresh T.next T.l A.l A.next (by omega)
  have hfr : freshR T.next A.l = new := by rw [← fresh_eq _ _ ta.srt]; exact hi.fresh tb ta
  rw [hfr] at f1
  have hAl : A.l.length = old.length + new.length := by rw [hi.eq]; simp
  have tn0 := tb.n0
  have hz1 : (pairZ T.next old new).map Prod.fst = old ++ numL T.next new := pairZ_fst _ _ _
  have hz2 : (pairZ T.next old new).map Prod.snd = A.l := by rw [hi.eq]; exact pairZ_snd _ _ _
  have hzl : (pairZ T.next old new).length = A.l.length := by rw [← hz2, List.length_map]
  have hml : (old ++ numL T.next new).length = A.l.length := by rw [← hz1, List.length_map, hzl]
  have hlen : decide (((old ++ numL T.next new).length : Int) = A.l.length) = true := by rw [hml]; simp
  have hw1 : IntKind.wrap .i64 ((A.l.length : Int) - new.length) = old.length := by rw [hAl]; rw [wrap_i64 (by omega) (by omega)]; omega
  have hw2 : IntKind.wrap .i64 (T.next + new.length) = T.next + new.length := wrap_i64 (by omega) (by omega)
  have hsl : ∀ σ : St, sliceV 2 (.sl (A.l.map Line.cells)) none (some (.int .i64 old.length)) none σ = some (.sl (old.map Line.cells), σ, false) := fun σ => by
    have := sliceV_to σ 2 (A.l.map Line.cells) .i64 old.length (by omega) (by rw [List.length_map]; omega) (by rw [szOK_map 2 Line.cells A.l fun _ => rfl]; trivial)
    rw [this, hi.eq]
    simp
  generalize hM : old ++ numL T.next new = M at *
  have nonneg : decide (0 < (0 : Int)) = false := rfl
  rw [Den_ofK [] pr_L30_MergeOneSide rfl]
  have hcells : x.cells = x.cells := rfl
  simp only [MR.av, go_sem] at m1 m2 m3
  obtain ⟨cs, rows, ⟨g1, c1, r1', k1⟩, ⟨g2, c2, r2', k2⟩⟩ := x
  simp only [Case.cells, Edit.cells, List.cons_append, List.nil_append] at hm ⊢
  simp only [f_L30_MergeOneSide, hm, m1, m2, s1, f1, hlen, List.length_map, go_sem]
  have key := range_ind (pairZ T.next old new) (by omega)
    (fun i (_ : Unit) => ∀ (K : Ex × Env × St → Option (AV × St)) (Z : Option (AV × St)),
      K (.exit 0, [(3, .bool true), (4, .ref 0 0), (5, .ref 1 0), (10, .ref 4 0), (13, .int .i64 new.length), (14, .int .i64 M.length), (82, .bool false)],
        [.cells [.int .i64 T.next, .sl (T.l.map Line.cells)], .cells [.int .i64 A.next, .sl (A.l.map Line.cells)], .cells [.int .i64 B.next, .sl (B.l.map Line.cells)], .cells [.int .i64 A.next, .sl (A.l.map Line.cells)], .cells [.int .i64 (T.next + new.length), .sl (M.map Line.cells)]]) = Z →
      (Run prog 0 (.loop 5 [3, 4, 5, 10, 13, 14] f_L30_MergeOneSide_l0) [(3, .bool true), (4, .ref 0 0), (5, .ref 1 0), (10, .ref 4 0), (13, .int .i64 new.length), (14, .int .i64 i)]
        [.cells [.int .i64 T.next, .sl (T.l.map Line.cells)], .cells [.int .i64 A.next, .sl (A.l.map Line.cells)], .cells [.int .i64 B.next, .sl (B.l.map Line.cells)], .cells [.int .i64 A.next, .sl (A.l.map Line.cells)], .cells [.int .i64 (T.next + new.length), .sl (M.map Line.cells)]]).bind K = Z)
    (fun _ _ _ => True) ?_ ?_ () trivial
  · refine key _ _ ?_
    simp only [m3, s2, hw1, hw2, hsl, decide_true, go_sem]
  · intro _ _ K Z hK
    rw [hzl, ← hml] at *
    rw [Run_loop]
    simp only [f_L30_MergeOneSide_l0_eq, f_L30_MergeOneSide_l0u, hK, go_sem]
  · intro i pre rest z _ _ _ hi0 hi1 hx hc hw _ ih K Z hK
    obtain ⟨q1, q2, q3, q4⟩ := pairZ_get hx
    have hx1 : getE M i = some z.1 := by rw [← hz1, getE_map, hx]; rfl
    have hx2 : getE A.l i = some z.2 := by rw [← hz2, getE_map, hx]; rfl
    rw [hzl, ← hml] at hc
    have hr := rA z.2 (by rw [hi.eq]; exact q2)
    have hr2 : z.1.r.length < 1000000000000000 := by rw [q1]; omega
    have hd1 : decide (z.1.r = z.2.r) = true := by simp [q1]
    have ih := ih () trivial K Z hK
    rw [Run_loop]
    have hio : i < A.l.length := by omega
    cases d : decide ((old.length : Int) ≤ i) with
    | true =>
      have h1 : (old.length : Int) ≤ i := by simpa using d
      have w1 : IntKind.wrap .i64 (i - old.length) = i - old.length := wrap_i64 (by omega) (by omega)
      have w2 : IntKind.wrap .i64 (T.next + (i - old.length)) = T.next + (i - old.length) := wrap_i64 (by omega) (by omega)
      have hd : decide (z.1.n = T.next + (i - old.length)) = true := by simp [q4 h1]
      clear q1 q2 q3 q4 hx hK rA rO
      simp only [f_L30_MergeOneSide_l0_eq, f_L30_MergeOneSide_l0u, hx1, hx2, hc, hw, hw1, d, w1, w2, hd, hd1, hr2, ih, go_sem]
    | false =>
      have h1 : i < old.length := by simpa using d
      have hd : decide (z.1.n = z.2.n) = true := by simp [q3 h1]
      clear q1 q2 q3 q4 hx hK rA rO
      simp only [f_L30_MergeOneSide_l0_eq, f_L30_MergeOneSide_l0u, hx1, hx2, hc, hw, hw1, d, hd, hd1, hr2, ih, go_sem]
theorem row_MOS (xs : List AV) (h : Args Try.prog [28] xs) : Den prog 156 xs [] = some (.bool true, []) := by
  obtain ⟨n, x, ys, rfl, h1, h⟩ := h.one
  cases h.none
  obtain ⟨c, rfl, hc⟩ := sh_case h1
  simp only [avOf, Try.underlying28]
  exact law_MOS c hc
end Go.Den
