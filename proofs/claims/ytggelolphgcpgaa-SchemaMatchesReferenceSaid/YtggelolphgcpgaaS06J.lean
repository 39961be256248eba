/- Package schema: numbers stay; After. -/
import Derived.Test.YtggelolphgcpgaaS06I
namespace Go.Den
open Go
set_option linter.unusedSimpArgs false
set_option linter.unusedVariables false
set_option maxRecDepth 100000
set_option maxHeartbeats 1000000
structure UN (fs : List Fld) (next : Int) : Prop where
  q : UQ fs
  lt : ∀ f ∈ fs, f.id < next
  pos : 1 ≤ next
theorem UN.nil : UN [] 1 := ⟨⟨.nil, by simp⟩, by simp, by omega⟩
theorem UN.put {fs : List Fld} {next : Int} (u : UN fs next) (g : Fld) : UN (fs.map (putF g)) next := by
  refine ⟨u.q.put g, fun f hf => ?_, u.pos⟩
  obtain ⟨x, hx, rfl⟩ := List.mem_map.1 hf
  rw [putF_id]; exact u.lt x hx
theorem UN.filter {fs : List Fld} {next : Int} (u : UN fs next) (p : Fld → Bool) : UN (fs.filter p) next :=
  ⟨⟨u.q.rise.sublist List.filter_sublist, fun f hf => u.q.pos f (List.mem_filter.1 hf).1⟩, fun f hf => u.lt f (List.mem_filter.1 hf).1, u.pos⟩
theorem UN.add {fs : List Fld} {next : Int} (u : UN fs next) (nm : ByteArray) (ty pa : Int) : UN (fs ++ [⟨next, nm, ty, pa⟩]) (next + 1) := by
  have h1 := u.pos
  refine ⟨⟨?_, fun f hf => ?_⟩, fun f hf => ?_, by omega⟩
  · rw [List.pairwise_append]
    refine ⟨u.q.rise, List.pairwise_singleton _ _, fun a ha b hb => ?_⟩
    simp at hb; subst hb; exact u.lt a ha
  · rcases List.mem_append.1 hf with hf | hf
    · exact u.q.pos f hf
    · simp at hf; subst hf; exact h1
  · rcases List.mem_append.1 hf with hf | hf
    · have := u.lt f hf; omega
    · simp at hf; subst hf; simp only []; omega
/-- Of a result: it is no error, or this holds. -/
theorem bif_case {P : SR → Prop} {b : Bool} {x y : SR} (h1 : x.e = 0 → P x) (h2 : y.e = 0 → P y) : (bif b then x else y).e = 0 → P (bif b then x else y) := by cases b <;> assumption
theorem bad_case {P : SR → Prop} {e : Int} (he : e ≠ 0) : (bad e).e = 0 → P (bad e) := fun h => absurd h he
theorem applyC_un {fs : List Fld} {next : Int} {c : Chg} (u : UN fs next) : (applyC fs next c).e = 0 → UN (applyC fs next c).fs (applyC fs next c).next := by
  let P : SR → Prop := fun r => UN r.fs r.next
  show (applyC fs next c).e = 0 → P (applyC fs next c)
  have hb : ∀ {e : Int}, e ≠ 0 → (bad e).e = 0 → P (bad e) := fun he => bad_case he
  unfold applyC
  split
  · unfold addS
    exact bif_case (hb (by decide)) (bif_case (hb (by decide)) (bif_case (hb (by decide)) (bif_case (hb (by decide)) fun _ => u.add _ _ _)))
  · split
    · unfold oneS moveS
      exact bif_case (hb (by decide)) (bif_case (bif_case (hb (by decide)) fun _ => u.filter _) (bif_case (bif_case (hb (by decide)) fun _ => u.put _) (bif_case (bif_case (hb (by decide)) fun _ => u.put _)
        (bif_case (hb (by decide)) (bif_case (hb (by decide)) (bif_case (hb (by decide)) fun _ => u.put _))))))
    · split
      · unfold splitS
        exact bif_case (hb (by decide)) (bif_case (hb (by decide)) (bif_case (hb (by decide)) (bif_case (hb (by decide)) (bif_case (hb (by decide)) fun _ => ((u.filter _).add _ _ _).add _ _ _))))
      · split
        · unfold joinS
          exact bif_case (hb (by decide)) (bif_case (hb (by decide)) (bif_case (hb (by decide)) (bif_case (hb (by decide)) (bif_case (hb (by decide)) (bif_case (hb (by decide)) fun _ => (u.filter _).add _ _ _)))))
        · exact hb (by decide)
@[go_sem] theorem schema_After (L : List Chg) (hL : L.length < 1000000000000000) (hc : ∀ c ∈ L, COK c) : Den prog 205 [.sl (L.map Chg.cells)] [] = some ((afterS [] 1 0 L).av, []) := by
  rw [Den_ofK [] pr_schema_After rfl]
  simp only [f_schema_After, go_sem]
  refine range_ind L hL (fun i (s : List Fld × Int) => (Run prog 0 (.loop 2 [0, 2, 5, 11, 12, 13] f_schema_After_l0) [(0, .sl (L.map Chg.cells)), (2, .ref 0 0), (5, .ref 1 0), (11, .sl (L.map Chg.cells)), (12, .int .i64 L.length), (13, .int .i64 i)] [.cells [.nils, .int .i64 0], .cells [.sl (s.1.map Fld.cells), .int .i64 s.2]]).bind _ = _)
    (fun i rest s => afterS s.1 s.2 i rest = afterS [] 1 0 L ∧ SInv s.1 s.2 ∧ UN s.1 s.2) ?_ ?_ ([], 1) ⟨rfl, SInv.nil, UN.nil⟩
  · intro s ⟨h, _⟩
    rw [← h]
    rw [Run_loop]
    simp only [f_schema_After_l0_eq, f_schema_After_l0u, afterS, go_sem]
  · intro i pre rest x s hp _ _ _ hx hcc hw ⟨h, hi, hu⟩ ih
    have hcx := hc x (by rw [hp]; simp)
    have ha := schema_Apply s.1 s.2 x hi hu.q hcx
    have hv := fun h0 => applyC_inv hi hcx h0
    have hun := applyC_un (c := x) hu
    rw [afterS] at h
    rw [← h] at ih ⊢
    clear h hp hc hi
    generalize applyC s.1 s.2 x = q at *
    rw [Run_loop]
    simp only [go_sem] at ha
    cases d : decide (q.e = 0) with
    | true =>
      have ih := ih (q.fs, q.next) ⟨by simp only [d, cond_true], hv (by simpa using d), hun (by simpa using d)⟩
      simp only [d, cond_true] at ih ⊢
      simp only [f_schema_After_l0_eq, f_schema_After_l0u, hx, hcc, hw, ha, d, ih, go_sem]
    | false =>
      simp only [f_schema_After_l0_eq, f_schema_After_l0u, hx, hcc, hw, ha, d, cond_false, go_sem]
end Go.Den
