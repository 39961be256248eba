/- What a change does to the types of the fields. -/
import Derived.Test.YtghipgdajgeoiabDoorS07D
namespace Go.Den
open Go
set_option linter.unusedSimpArgs false
set_option linter.unusedVariables false
set_option maxRecDepth 100000
set_option maxHeartbeats 1000000
theorem tyF_app (fs gs : List Fld) (j : Int) : tyF (fs ++ gs) j = match tyF fs j with
    | some t => some t
    | none => tyF gs j := by
  unfold tyF
  rw [hasF_app]
  cases h : hasF fs j with
  | true => rw [getF_app gs h]; rfl
  | false =>
    simp only [Bool.false_or, cond_false]
    cases hasF gs j with
    | false => rfl
    | true =>
      simp only [cond_true]
      congr 2
      induction fs with
      | nil => rfl
      | cons f r ih =>
        simp only [hasF, List.any_cons, Bool.or_eq_false_iff, decide_eq_false_iff_not] at h
        rw [List.cons_append, getF, if_neg h.1]
        exact ih h.2
theorem tyF_one (n ty pa : Int) (nm : ByteArray) (j : Int) : tyF [⟨n, nm, ty, pa⟩] j = if j = n then some ty else none := by
  unfold tyF hasF
  simp only [List.any_cons, List.any_nil, Bool.or_false, getF]
  by_cases h : n = j
  · rw [if_pos h, if_pos h.symm]; simp [h]
  · rw [if_neg (Ne.symm h)]; simp [h]
theorem tyF_keep (fs : List Fld) (a b j : Int) : tyF (fs.filter (keepB a b)) j = if j = a ∨ j = b then none else tyF fs j := by
  unfold tyF
  by_cases h : j = a ∨ j = b
  · rw [if_pos h]
    have : hasF (fs.filter (keepB a b)) j = false := by
      unfold hasF
      rw [List.any_eq_false]
      intro f hf
      have := (List.mem_filter.1 hf).2
      simp [keepB] at this
      simp only [decide_eq_true_eq]
      omega
    rw [this]; rfl
  · rw [if_neg h]
    obtain ⟨h1, h2⟩ := hasF_keep fs (a := a) (b := b) (id := j) (fun e => h (.inl e)) (fun e => h (.inr e))
    rw [h1, h2]
theorem tyF_put (fs : List Fld) (g : Fld) (j : Int) : tyF (fs.map (putF g)) j = if j = g.id ∧ hasF fs j = true then some g.type else tyF fs j := by
  unfold tyF
  rw [hasF_put]
  cases h : hasF fs j with
  | false => simp
  | true =>
    rw [getF_put2 j h]
    by_cases e : j = g.id
    · rw [if_pos e, if_pos ⟨e, rfl⟩]; rfl
    · rw [if_neg e, if_neg (fun x => e x.1)]
theorem tyF_some {fs : List Fld} {j t : Int} (h : tyF fs j = some t) : hasF fs j = true ∧ (getF fs j).type = t := by
  unfold tyF at h
  cases hh : hasF fs j with
  | false => rw [hh] at h; exact absurd h (by simp)
  | true => rw [hh] at h; simp at h; exact ⟨rfl, h⟩
def Bd (T : Int → Option Int) (n : Int) : Prop := ∀ j t, T j = some t → 1 ≤ j ∧ j < n
theorem SV.bd {fs : List Fld} {next : Int} (s : SV fs next) : Bd (tyF fs) next := fun j t h => by
  obtain ⟨h1, _⟩ := tyF_some h
  obtain ⟨h2, h3⟩ := getF_id h1
  have := s.n.q.pos _ h3
  have := s.n.lt _ h3
  omega
def Eff (T T' : Int → Option Int) (c : Chg) (n : Int) : Prop :=
  (c.kind = 1 ∧ ∃ t, ∀ j, T' j = if j = n then some t else T j) ∨
  (c.kind = 2 ∧ ∀ j, T' j = if j = c.id then none else T j) ∨
  ((c.kind = 3 ∨ c.kind = 5) ∧ ∀ j, T' j = T j) ∨
  (c.kind = 4 ∧ T c.id = some 2 ∧ ∀ j, T' j = if j = c.id then some 3 else T j) ∨
  (c.kind = 6 ∧ T c.id = some 4 ∧ ∀ j, T' j = if j = n ∨ j = n + 1 then some 4 else if j = c.id then none else T j) ∨
  (c.kind = 7 ∧ T c.id = some 4 ∧ T c.wi = some 4 ∧ c.id ≠ c.wi ∧ ∀ j, T' j = if j = n then some 4 else if j = c.id ∨ j = c.wi then none else T j)
theorem tyF_has {fs : List Fld} {j : Int} (h : hasF fs j = true) : tyF fs j = some (getF fs j).type := by unfold tyF; rw [h]; rfl
theorem eff_of {fs : List Fld} {next : Int} {c : Chg} (s : SV fs next) : (applyC fs next c).e = 0 → Eff (tyF fs) (tyF (applyC fs next c).fs) c next := by
  have bd := s.bd
  let P : SR → Prop := fun r => Eff (tyF fs) (tyF r.fs) c next
  show _ → P (applyC fs next c)
  have hb : ∀ {e : Int}, e ≠ 0 → (bad e).e = 0 → P (bad e) := fun he => bad_case he
  have new : tyF fs next = none := by
    cases h : tyF fs next with
    | none => rfl
    | some t => have := bd _ _ h; omega
  have new1 : tyF fs (next + 1) = none := by
    cases h : tyF fs (next + 1) with
    | none => rfl
    | some t => have := bd _ _ h; omega
  have app1 : ∀ (gs : List Fld) (nm : ByteArray) (ty pa j n : Int), tyF gs n = none → tyF (gs ++ [⟨n, nm, ty, pa⟩]) j = if j = n then some ty else tyF gs j := by
    intro gs nm ty pa j n hn
    rw [tyF_app, tyF_one]
    by_cases e : j = n
    · rw [e, hn]
    · rw [if_neg e]
      cases tyF gs j <;> simp [e]
  unfold applyC
  split
  · rename_i hk
    unfold addS
    refine bif_case2 (fun _ => hb (by decide)) fun b1 => bif_case2 (fun _ => hb (by decide)) fun b2 => bif_case2 (fun _ => hb (by decide)) fun b3 => bif_case2 (fun _ => hb (by decide)) fun b4 _ => ?_
    exact .inl ⟨hk, c.type, fun j => app1 fs _ _ _ j next new⟩
  · split
    · rename_i hk1 hk
      unfold oneS moveS
      refine bif_case2 (fun _ => hb (by decide)) fun b1 => ?_
      have hd : hasF fs c.id = true := by simpa using b1
      obtain ⟨hid, hmem⟩ := getF_id hd
      have hty := tyF_has hd
      generalize getF fs c.id = G at *
      have same : ∀ g : Fld, g.id = c.id → g.type = G.type → ∀ j, tyF (fs.map (putF g)) j = tyF fs j := by
        intro g g1 g2 j
        rw [tyF_put, g1, g2]
        split
        · rename_i h; rw [h.1, hty]
        · rfl
      refine bif_case2 (fun h2 => ?_) fun n2 => bif_case2 (fun h3 => ?_) fun n3 => bif_case2 (fun h4 => ?_) fun n4 => ?_
      · refine bif_case2 (fun _ => hb (by decide)) fun b2 _ => ?_
        refine .inr (.inl ⟨by simpa using h2, fun j => ?_⟩)
        show tyF (fs.filter (keepB G.id G.id)) j = _
        rw [tyF_keep, hid]
        simp only [or_self]
      · refine bif_case2 (fun _ => hb (by decide)) fun b2 _ => ?_
        exact .inr (.inr (.inl ⟨.inl (by simpa using h3), same { G with name := c.name } hid rfl⟩))
      · refine bif_case2 (fun _ => hb (by decide)) fun b2 _ => ?_
        have h2 : G.type = 2 := by simpa using b2
        refine .inr (.inr (.inr (.inl ⟨by simpa using h4, by rw [hty, h2], fun j => ?_⟩)))
        show tyF (fs.map (putF { G with type := 3 })) j = _
        rw [tyF_put]
        simp only [hid]
        by_cases e : j = c.id
        · rw [if_pos ⟨e, by rw [e]; exact hd⟩, if_pos e]
        · rw [if_neg (fun x => e x.1), if_neg e]
      · refine bif_case2 (fun _ => hb (by decide)) fun b2 => bif_case2 (fun _ => hb (by decide)) fun b3 => bif_case2 (fun _ => hb (by decide)) fun b4 _ => ?_
        simp only [decide_eq_false_iff_not] at n2 n3 n4
        exact .inr (.inr (.inl ⟨.inr (by omega), same { G with par := c.par } hid rfl⟩))
    · split
      · rename_i hk1 hk2 hk
        unfold splitS
        refine bif_case2 (fun _ => hb (by decide)) fun b1 => ?_
        have hd : hasF fs c.id = true := by simpa using b1
        obtain ⟨hid, hmem⟩ := getF_id hd
        have hty := tyF_has hd
        generalize getF fs c.id = G at *
        refine bif_case2 (fun _ => hb (by decide)) fun b2 => bif_case2 (fun _ => hb (by decide)) fun b3 => bif_case2 (fun _ => hb (by decide)) fun b4 => bif_case2 (fun _ => hb (by decide)) fun b5 _ => ?_
        have h4 : G.type = 4 := by simpa using b2
        refine .inr (.inr (.inr (.inr (.inl ⟨hk, by rw [hty, h4], fun j => ?_⟩))))
        show tyF (_ ++ [_] ++ [_]) j = _
        have k1 : ∀ i, tyF fs i = none → tyF (fs.filter (keepB G.id G.id)) i = none := fun i hi => by rw [tyF_keep, hi]; split <;> rfl
        rw [app1 _ _ _ _ j (next + 1) (by rw [app1 _ _ _ _ _ next (k1 _ new), if_neg (by omega)]; exact k1 _ new1), app1 _ _ _ _ j next (k1 _ new), tyF_keep, hid]
        simp only [or_self]
        by_cases e1 : j = next + 1
        · rw [if_pos e1, if_pos (.inr e1)]
        · by_cases e2 : j = next
          · rw [if_neg e1, if_pos e2, if_pos (.inl e2)]
          · simp only [e1, e2, or_self, if_false]
      · split
        · rename_i hk1 hk2 hk3 hk
          unfold joinS
          refine bif_case2 (fun _ => hb (by decide)) fun b1 => ?_
          simp only [Bool.or_eq_false_iff, Bool.not_eq_false', decide_eq_false_iff_not] at b1
          obtain ⟨hd, hdw, hne⟩ := b1
          obtain ⟨hid, hmem⟩ := getF_id hd
          obtain ⟨hiw, hmew⟩ := getF_id hdw
          have hty := tyF_has hd
          have htw := tyF_has hdw
          generalize getF fs c.id = G at *
          generalize getF fs c.wi = W at *
          refine bif_case2 (fun _ => hb (by decide)) fun b2 => bif_case2 (fun _ => hb (by decide)) fun b3 => bif_case2 (fun _ => hb (by decide)) fun b4 => bif_case2 (fun _ => hb (by decide)) fun b5 => bif_case2 (fun _ => hb (by decide)) fun b6 _ => ?_
          simp only [Bool.or_eq_false_iff, Bool.not_eq_false', decide_eq_true_eq] at b2
          refine .inr (.inr (.inr (.inr (.inr ⟨hk, by rw [hty, b2.1], by rw [htw, b2.2], by omega, fun j => ?_⟩))))
          show tyF (_ ++ [_]) j = _
          rw [app1 _ _ _ _ j next (by rw [tyF_keep, new]; split <;> rfl), tyF_keep, hid, hiw]
        · exact hb (by decide)
end Go.Den
