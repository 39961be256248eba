
/- SchemaRowsKeepFitting. -/
import Derived.Test.YtghipgdajgeoiaaGreatDoorS06V
namespace Go.Den
open Go Go.Proofs
set_option linter.unusedSimpArgs false
set_option linter.unusedVariables false
set_option maxRecDepth 100000
set_option maxHeartbeats 1000000
/-- Every field stays, with its type or a wider one. -/
def Kp (fs gs : List Fld) : Prop := ∀ id, hasF fs id = true → hasF gs id = true ∧ ((getF gs id).type = (getF fs id).type ∨ (getF fs id).type = 2 ∧ (getF gs id).type = 3)
theorem fitC_kp {fs gs : List Fld} (k : Kp fs gs) {c : Cell} (h : fitC fs c = true) : fitC gs c = true := by
  simp only [fitC, Bool.and_eq_true, Bool.not_eq_true', decide_eq_false_iff_not] at h ⊢
  obtain ⟨h1, h2, h3, h4, h5⟩ := h
  obtain ⟨k1, k2 | ⟨k2, k3⟩⟩ := k c.id h1
  · rw [k2]; exact ⟨k1, h2, h3, h4, h5⟩
  · rw [k3]
    rw [k2] at h5
    refine ⟨k1, by decide, h3, by decide, ?_⟩
    simp only [okV, h3, cond_false, dt24, dt23, dt34, dt33, cond_true, Bool.and_eq_true] at h5 ⊢
    exact h5.1.1
theorem fitsS_kp {fs gs : List Fld} (k : Kp fs gs) : ∀ (r : List Cell) (p : Int), fitsS fs p r = true → fitsS gs p r = true
  | [], _, _ => rfl
  | c :: r, p, h => by
    rw [fitsS, Bool.and_eq_true, Bool.and_eq_true] at h ⊢
    exact ⟨⟨fitC_kp k h.1.1, h.1.2⟩, fitsS_kp k r c.id h.2⟩
theorem Kp.put {fs : List Fld} {g : Fld} (h : g.type = (getF fs g.id).type ∨ (getF fs g.id).type = 2 ∧ g.type = 3) : Kp fs (fs.map (putF g)) := fun id hd => by
  refine ⟨by rw [hasF_put]; exact hd, ?_⟩
  rw [getF_put2 id hd]
  split
  · rename_i e; rw [e]; exact h
  · exact .inl rfl
theorem applyC_kp {fs : List Fld} {next : Int} {c : Chg} (hk : c.kind = 1 ∨ c.kind = 3 ∨ c.kind = 4 ∨ c.kind = 5) : (applyC fs next c).e = 0 → Kp fs (applyC fs next c).fs := by
  let P : SR → Prop := fun r => Kp fs r.fs
  show _ → P (applyC fs next c)
  have hb : ∀ {e : Int}, e ≠ 0 → (bad e).e = 0 → P (bad e) := fun he => bad_case he
  unfold applyC
  split
  · unfold addS
    refine bif_case2 (fun _ => hb (by decide)) fun b1 => bif_case2 (fun _ => hb (by decide)) fun b2 => bif_case2 (fun _ => hb (by decide)) fun b3 => bif_case2 (fun _ => hb (by decide)) fun b4 _ => ?_
    intro id hd
    exact ⟨by rw [hasF_app, hd]; rfl, .inl (by rw [getF_app _ hd])⟩
  · split
    · unfold oneS moveS
      refine bif_case2 (fun _ => hb (by decide)) fun b1 => ?_
      have hd : hasF fs c.id = true := by simpa using b1
      obtain ⟨hid, hmem⟩ := getF_id hd
      have hG : getF fs (getF fs c.id).id = getF fs c.id := by rw [hid]
      generalize getF fs c.id = G at *
      refine bif_case2 (fun h2 => ?_) fun _ => bif_case2 (fun _ => ?_) fun _ => bif_case2 (fun _ => ?_) fun _ => ?_
      · simp only [decide_eq_true_eq] at h2; omega
      · refine bif_case2 (fun _ => hb (by decide)) fun b2 _ => ?_
        exact Kp.put (.inl (by show G.type = (getF fs G.id).type; rw [hG]))
      · refine bif_case2 (fun _ => hb (by decide)) fun b2 _ => ?_
        have hty : G.type = 2 := by simpa using b2
        exact Kp.put (.inr ⟨by show (getF fs G.id).type = 2; rw [hG, hty], rfl⟩)
      · refine bif_case2 (fun _ => hb (by decide)) fun b2 => bif_case2 (fun _ => hb (by decide)) fun b3 => bif_case2 (fun _ => hb (by decide)) fun b4 _ => ?_
        exact Kp.put (.inl (by show G.type = (getF fs G.id).type; rw [hG]))
    · omega
end Go.Den
