
/- Package schema: numbers stay; After. -/
import Derived.Test.YtghipgdajgeoiaaGreatDoorS06I
namespace Go.Den
open Go
set_option linter.unusedSimpArgs false
set_option linter.unusedVariables false
set_option maxRecDepth 100000
set_option maxHeartbeats 1000000
structure UN (fs : List Fld) (next : Int) : Prop where
  q : UQ fs
  lt : ∀ f ∈ fs, f.id < next
  pos : 1 ≤ next
theorem UN.nil : UN [] 1 := ⟨⟨.nil, by simp⟩, by simp, by omega⟩
theorem UN.put {fs : List Fld} {next : Int} (u : UN fs next) (g : Fld) : UN (fs.map (putF g)) next := by
  refine ⟨u.q.put g, fun f hf => ?_, u.pos⟩
  obtain ⟨x, hx, rfl⟩ := List.mem_map.1 hf
  rw [putF_id]; exact u.lt x hx
theorem UN.filter {fs : List Fld} {next : Int} (u : UN fs next) (p : Fld → Bool) : UN (fs.filter p) next :=
  ⟨⟨u.q.rise.sublist List.filter_sublist, fun f hf => u.q.pos f (List.mem_filter.1 hf).1⟩, fun f hf => u.lt f (List.mem_filter.1 hf).1, u.pos⟩
theorem UN.add {fs : List Fld} {next : Int} (u : UN fs next) (nm : ByteArray) (ty pa : Int) : UN (fs ++ [⟨next, nm, ty, pa⟩]) (next + 1) := by
  have h1 := u.pos
  refine ⟨⟨?_, fun f hf => ?_⟩, fun f hf => ?_, by omega⟩
  · rw [List.pairwise_append]
    refine ⟨u.q.rise, List.pairwise_singleton _ _, fun a ha b hb => ?_⟩
    simp at hb; subst hb; exact u.lt a ha
  · rcases List.mem_append.1 hf with hf | hf
    · exact u.q.pos f hf
    · simp at hf; subst hf; exact h1
  · rcases List.mem_append.1 hf with hf | hf
    · have := u.lt f hf; omega
    · simp at hf; subst hf; simp only []; omega
/-- Of a result: it is no error, or this holds. -/
theorem bif_case {P : SR → Prop} {b : Bool} {x y : SR} (h1 : x.e = 0 → P x) (h2 : y.e = 0 → P y) : (bif b then x else y).e = 0 → P (bif b then x else y) := by cases b <;> assumption
theorem bad_case {P : SR → Prop} {e : Int} (he : e ≠ 0) : (bad e).e = 0 → P (bad e) := fun h => absurd h he
theorem applyC_un {fs : List Fld} {next : Int} {c : Chg} (u : UN fs next) : (applyC fs next c).e = 0 → UN (applyC fs next c).fs (applyC fs next c).next := by
  let P : SR → Prop := fun r => UN r.fs r.next
  show (applyC fs next c).e = 0 → P (applyC fs next c)
  have hb : ∀ {e : Int}, e ≠ 0 → (bad e).e = 0 → P (bad e) := fun he => bad_case he
  unfold applyC
  split
  · unfold addS
    exact bif_case (hb (by decide)) (bif_case (hb (by decide)) (bif_case (hb (by decide)) (bif_case (hb (by decide)) fun _ => u.add _ _ _)))
  · split
    · unfold oneS moveS
      exact bif_case (hb (by decide)) (bif_case (bif_case (hb (by decide)) fun _ => u.filter _) (bif_case (bif_case (hb (by decide)) fun _ => u.put _) (bif_case (bif_case (hb (by decide)) fun _ => u.put _)
        (bif_case (hb (by decide)) (bif_case (hb (by decide)) (bif_case (hb (by decide)) fun _ => u.put _))))))
    · split
      · unfold splitS
        exact bif_case (hb (by decide)) (bif_case (hb (by decide)) (bif_case (hb (by decide)) (bif_case (hb (by decide)) (bif_case (hb (by decide)) fun _ => ((u.filter _).add _ _ _).add _ _ _))))
      · split
        · unfold joinS
          exact bif_case (hb (by decide)) (bif_case (hb (by decide)) (bif_case (hb (by decide)) (bif_case (hb (by decide)) (bif_case (hb (by decide)) (bif_case (hb (by decide)) fun _ => (u.filter _).add _ _ _)))))
        · exact hb (by decide)
end Go.Den
