
/- SchemaNumbersNeverReturn. -/
import Derived.Test.YtghipgdajgeoiaaGreatDoorS06J
import Derived.Test.YtghipgdajgeoiaaGreatDoorSan06
namespace Go.Den
open Go
set_option linter.unusedSimpArgs false
set_option linter.unusedVariables false
set_option maxRecDepth 100000
set_option maxHeartbeats 1000000
theorem after_made : ∀ (L : List Chg) (fs : List Fld) (next i : Int), (afterS fs next i (madeC fs next L)).e = 0
  | [], fs, next, i => rfl
  | c :: r, fs, next, i => by
    rw [madeC]
    cases d : decide ((applyC fs next (chgS fs next c)).e = 0) with
    | true =>
      rw [cond_true, afterS, d, cond_true]
      exact after_made r _ _ _
    | false => rw [cond_false]; exact after_made r fs next i
/-- Numbers do not come back. -/
def Ev (fs : List Fld) (n : Int) (fs' : List Fld) (n' : Int) : Prop := n ≤ n' ∧ ∀ f ∈ fs', hasF fs f.id = true ∨ n ≤ f.id
theorem hasF_mem {fs : List Fld} {f : Fld} (h : f ∈ fs) : hasF fs f.id = true := by
  unfold hasF; rw [List.any_eq_true]; exact ⟨f, h, by simp⟩
theorem Ev.refl (fs : List Fld) (n : Int) : Ev fs n fs n := ⟨Int.le_refl _, fun f hf => .inl (hasF_mem hf)⟩
theorem Ev.trans {a b c : List Fld} {l m n : Int} (h : Ev a l b m) (k : Ev b m c n) : Ev a l c n := by
  refine ⟨Int.le_trans h.1 k.1, fun f hf => ?_⟩
  rcases k.2 f hf with h1 | h1
  · unfold hasF at h1
    obtain ⟨g, hg, he⟩ := List.any_eq_true.1 h1
    have he : g.id = f.id := by simpa using he
    rw [← he]; exact h.2 g hg
  · exact .inr (Int.le_trans h.1 h1)
theorem Ev.filter (fs : List Fld) (n : Int) (p : Fld → Bool) : Ev fs n (fs.filter p) n := ⟨Int.le_refl _, fun f hf => .inl (hasF_mem (List.mem_filter.1 hf).1)⟩
theorem Ev.put (fs : List Fld) (n : Int) (g : Fld) : Ev fs n (fs.map (putF g)) n := ⟨Int.le_refl _, fun f hf => by
  obtain ⟨x, hx, rfl⟩ := List.mem_map.1 hf
  rw [putF_id]; exact .inl (hasF_mem hx)⟩
theorem Ev.add (fs : List Fld) (n : Int) (nm : ByteArray) (ty pa : Int) : Ev fs n (fs ++ [⟨n, nm, ty, pa⟩]) (n + 1) := ⟨by omega, fun f hf => by
  rcases List.mem_append.1 hf with hf | hf
  · exact .inl (hasF_mem hf)
  · simp at hf; subst hf; exact .inr (Int.le_refl _)⟩
theorem applyC_ev (fs : List Fld) (next : Int) (c : Chg) : (applyC fs next c).e = 0 → Ev fs next (applyC fs next c).fs (applyC fs next c).next := by
  let P : SR → Prop := fun r => Ev fs next r.fs r.next
  show (applyC fs next c).e = 0 → P (applyC fs next c)
  have hb : ∀ {e : Int}, e ≠ 0 → (bad e).e = 0 → P (bad e) := fun he => bad_case he
  unfold applyC
  split
  · unfold addS
    exact bif_case (hb (by decide)) (bif_case (hb (by decide)) (bif_case (hb (by decide)) (bif_case (hb (by decide)) fun _ => Ev.add ..)))
  · split
    · unfold oneS moveS
      exact bif_case (hb (by decide)) (bif_case (bif_case (hb (by decide)) fun _ => Ev.filter ..) (bif_case (bif_case (hb (by decide)) fun _ => Ev.put ..) (bif_case (bif_case (hb (by decide)) fun _ => Ev.put ..)
        (bif_case (hb (by decide)) (bif_case (hb (by decide)) (bif_case (hb (by decide)) fun _ => Ev.put ..))))))
    · split
      · unfold splitS
        exact bif_case (hb (by decide)) (bif_case (hb (by decide)) (bif_case (hb (by decide)) (bif_case (hb (by decide)) (bif_case (hb (by decide)) fun _ => ((Ev.filter ..).trans (Ev.add ..)).trans (Ev.add ..)))))
      · split
        · unfold joinS
          exact bif_case (hb (by decide)) (bif_case (hb (by decide)) (bif_case (hb (by decide)) (bif_case (hb (by decide)) (bif_case (hb (by decide)) (bif_case (hb (by decide)) fun _ => (Ev.filter ..).trans (Ev.add ..))))))
        · exact hb (by decide)
theorem afterS_ev : ∀ (L : List Chg) (fs : List Fld) (next i : Int), Ev fs next (afterS fs next i L).fs (afterS fs next i L).next
  | [], fs, next, i => Ev.refl ..
  | c :: r, fs, next, i => by
    rw [afterS]
    cases d : decide ((applyC fs next c).e = 0) with
    | true => rw [cond_true]; exact (applyC_ev fs next c (by simpa using d)).trans (afterS_ev r _ _ _)
    | false => rw [cond_false]; exact Ev.refl ..
theorem afterS_take : ∀ (L : List Chg) (k : Nat) (fs : List Fld) (next i : Int), (afterS fs next i L).e = 0 → (afterS fs next i (L.take k)).e = 0 ∧
    Ev (afterS fs next i (L.take k)).fs (afterS fs next i (L.take k)).next (afterS fs next i L).fs (afterS fs next i L).next
  | L, 0, fs, next, i, h => ⟨rfl, afterS_ev L fs next i⟩
  | [], k + 1, fs, next, i, h => ⟨rfl, Ev.refl ..⟩
  | c :: r, k + 1, fs, next, i, h => by
    rw [List.take_succ_cons]
    rw [afterS] at h
    rw [afterS, afterS]
    cases d : decide ((applyC fs next c).e = 0) with
    | true => rw [d, cond_true] at h; rw [cond_true, cond_true]; exact afterS_take r k _ _ _ h
    | false => rw [d, cond_false] at h; simp at d; exact absurd h d
theorem afterS_un : ∀ (L : List Chg) {fs : List Fld} {next i : Int}, UN fs next → UN (afterS fs next i L).fs (afterS fs next i L).next
  | [], fs, next, i, u => u
  | c :: r, fs, next, i, u => by
    rw [afterS]
    cases d : decide ((applyC fs next c).e = 0) with
    | true => rw [cond_true]; exact afterS_un r (applyC_un u (by simpa using d))
    | false => exact u
end Go.Den
