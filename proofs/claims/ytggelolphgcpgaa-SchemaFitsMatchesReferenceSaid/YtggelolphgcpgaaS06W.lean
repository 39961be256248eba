/- SchemaRowsKeepFitting. -/
import Derived.Test.YtggelolphgcpgaaS06V
namespace Go.Den
open Go Go.Proofs
set_option linter.unusedSimpArgs false
set_option linter.unusedVariables false
set_option maxRecDepth 100000
set_option maxHeartbeats 1000000
/-- Every field stays, with its type or a wider one. -/
def Kp (fs gs : List Fld) : Prop := ∀ id, hasF fs id = true → hasF gs id = true ∧ ((getF gs id).type = (getF fs id).type ∨ (getF fs id).type = 2 ∧ (getF gs id).type = 3)
theorem fitC_kp {fs gs : List Fld} (k : Kp fs gs) {c : Cell} (h : fitC fs c = true) : fitC gs c = true := by
  simp only [fitC, Bool.and_eq_true, Bool.not_eq_true', decide_eq_false_iff_not] at h ⊢
  obtain ⟨h1, h2, h3, h4, h5⟩ := h
  obtain ⟨k1, k2 | ⟨k2, k3⟩⟩ := k c.id h1
  · rw [k2]; exact ⟨k1, h2, h3, h4, h5⟩
  · rw [k3]
    rw [k2] at h5
    refine ⟨k1, by decide, h3, by decide, ?_⟩
    simp only [okV, h3, cond_false, dt24, dt23, dt34, dt33, cond_true, Bool.and_eq_true] at h5 ⊢
    exact h5.1.1
theorem fitsS_kp {fs gs : List Fld} (k : Kp fs gs) : ∀ (r : List Cell) (p : Int), fitsS fs p r = true → fitsS gs p r = true
  | [], _, _ => rfl
  | c :: r, p, h => by
    rw [fitsS, Bool.and_eq_true, Bool.and_eq_true] at h ⊢
    exact ⟨⟨fitC_kp k h.1.1, h.1.2⟩, fitsS_kp k r c.id h.2⟩
theorem Kp.put {fs : List Fld} {g : Fld} (h : g.type = (getF fs g.id).type ∨ (getF fs g.id).type = 2 ∧ g.type = 3) : Kp fs (fs.map (putF g)) := fun id hd => by
  refine ⟨by rw [hasF_put]; exact hd, ?_⟩
  rw [getF_put2 id hd]
  split
  · rename_i e; rw [e]; exact h
  · exact .inl rfl
theorem applyC_kp {fs : List Fld} {next : Int} {c : Chg} (hk : c.kind = 1 ∨ c.kind = 3 ∨ c.kind = 4 ∨ c.kind = 5) : (applyC fs next c).e = 0 → Kp fs (applyC fs next c).fs := by
  let P : SR → Prop := fun r => Kp fs r.fs
  show _ → P (applyC fs next c)
  have hb : ∀ {e : Int}, e ≠ 0 → (bad e).e = 0 → P (bad e) := fun he => bad_case he
  unfold applyC
  split
  · unfold addS
    refine bif_case2 (fun _ => hb (by decide)) fun b1 => bif_case2 (fun _ => hb (by decide)) fun b2 => bif_case2 (fun _ => hb (by decide)) fun b3 => bif_case2 (fun _ => hb (by decide)) fun b4 _ => ?_
    intro id hd
    exact ⟨by rw [hasF_app, hd]; rfl, .inl (by rw [getF_app _ hd])⟩
  · split
    · unfold oneS moveS
      refine bif_case2 (fun _ => hb (by decide)) fun b1 => ?_
      have hd : hasF fs c.id = true := by simpa using b1
      obtain ⟨hid, hmem⟩ := getF_id hd
      have hG : getF fs (getF fs c.id).id = getF fs c.id := by rw [hid]
      generalize getF fs c.id = G at *
      refine bif_case2 (fun h2 => ?_) fun _ => bif_case2 (fun _ => ?_) fun _ => bif_case2 (fun _ => ?_) fun _ => ?_
      · simp only [decide_eq_true_eq] at h2; omega
      · refine bif_case2 (fun _ => hb (by decide)) fun b2 _ => ?_
        exact Kp.put (.inl (by show G.type = (getF fs G.id).type; rw [hG]))
      · refine bif_case2 (fun _ => hb (by decide)) fun b2 _ => ?_
        have hty : G.type = 2 := by simpa using b2
        exact Kp.put (.inr ⟨by show (getF fs G.id).type = 2; rw [hG, hty], rfl⟩)
      · refine bif_case2 (fun _ => hb (by decide)) fun b2 => bif_case2 (fun _ => hb (by decide)) fun b3 => bif_case2 (fun _ => hb (by decide)) fun b4 _ => ?_
        exact Kp.put (.inl (by show G.type = (getF fs G.id).type; rw [hG]))
    · omega
theorem law_Keep (L : List Chg) (raw : List Val) (more : List Chg) (hL : L.length < 1000000000000000) (hM : more.length < 1000000000000000) (hc : ∀ c ∈ L, COK2 c) (hd : ∀ c ∈ more, COK2 c) (hb : ∀ v ∈ raw, i64B v.n) :
    Den prog 221 [.sl (L.map Chg.cells), .sl (raw.map Val.cells), .sl (more.map Chg.cells)] [] = some (.bool true, []) := by
  have hm := R06_Made L 20 hL hc (by omega) (by omega)
  rw [show (20 : Int).toNat = 20 from rfl] at hm
  have hml := madeC_len (L.take 20) [] 1
  rw [List.length_take] at hml
  have hmo := madeC_ok (L.take 20) [] 1
  have hme := after_made (L.take 20) [] 1 0
  generalize madeC [] 1 (L.take 20) = M at *
  have hA := schema_After M (by omega) hmo
  have sv := afterS_sv M (i := 0) hmo SV.nil
  generalize afterS [] 1 0 M = T at *
  obtain ⟨fs, next, ta, te⟩ := T
  simp only [] at hme sv
  subst hme
  have hF := sv.i.len
  have hF2 : fs.length < 1000000000000 := by omega
  have hR := R06_Row fs next raw hF2
  have hrl := rowS_len fs raw
  have hrf := rowS_fits sv fs raw 0 (fun _ h => h) sv.n.q.rise (fun f hf => by have := sv.n.q.pos f hf; omega)
  have hrb := rowS_bnd sv fs raw (fun _ h => h) hb
  generalize rowS fs raw = R at *
  have hRl : R.length < 1000000000000000 := by omega
  rw [Den_ofK [] pr_L06_SchemaRowsKeepFitting rfl]
  simp only [AR.av] at hA
  have d0 : decide ((0 : Int) = 0) = true := rfl
  simp only [f_L06_SchemaRowsKeepFitting, hm, hA, hR, d0, go_sem]
  refine range_ind more hM (fun i (s : List Fld × Int) => (Run prog 0 (.loop 2 [2, 7, 8, 11, 12] f_L06_SchemaRowsKeepFitting_l0) [(2, .sl (more.map Chg.cells)), (7, .bool true), (8, .ref 0 0), (11, .ref 1 0), (12, .int .i64 i)] [.cells [.sl (s.1.map Fld.cells), .int .i64 s.2], .cells [.sl (R.map Cell.cells)]]).bind _ = _)
    (fun _ _ s => SV s.1 s.2 ∧ fitsS s.1 0 R = true) ?_ ?_ (fs, next) ⟨sv, hrf⟩
  · intro s _
    rw [Run_loop]
    simp only [f_L06_SchemaRowsKeepFitting_l0_eq, f_L06_SchemaRowsKeepFitting_l0u, go_sem]
  · intro i pre rest x s hp _ _ _ hx hcc hw ⟨hs, hf⟩ ih
    obtain ⟨gs, nx⟩ := s
    simp only [] at hs hf ih
    have hxc := hd x (by rw [hp]; simp)
    have hch := R06_Change gs nx x hs.i hxc
    have hck := chgS_ok gs nx x
    have ha := schema_Apply gs nx (chgS gs nx x) hs.i hs.n.q hck
    have hsv := applyC_sv hs hck
    have hkp := @applyC_kp gs nx (chgS gs nx x)
    have hf1 := schema_Fits gs nx R (by have := hs.i.len; omega) hRl hrb
    rw [hf] at hf1
    have hkd : 1 ≤ (chgS gs nx x).kind ∧ (chgS gs nx x).kind ≤ 7 := by
      have := modI_ge x.kind 7
      have := modI_lt x.kind (show (0 : Int) < 7 by decide)
      simp only [chgS]; omega
    generalize chgS gs nx x = y at *
    have ih1 := ih (gs, nx) ⟨hs, hf⟩
    have ih2 := ih ((applyC gs nx y).fs, (applyC gs nx y).next)
    clear hp ih hxc hck
    rw [Run_loop]
    cases e1 : decide (i < 8) with
    | false => simp only [f_L06_SchemaRowsKeepFitting_l0_eq, f_L06_SchemaRowsKeepFitting_l0u, hx, hcc, e1, go_sem]
    | true =>
      have hch2 := hch
      rw [cells_chg y, cells_chg x] at hch2
      rw [cells_chg y] at ha
      cases e2 : decide (y.kind = 2) with
      | true => simp only [f_L06_SchemaRowsKeepFitting_l0_eq, f_L06_SchemaRowsKeepFitting_l0u, hx, hcc, hw, hch2, e1, e2, ih1, go_sem]
      | false => cases e3 : decide (y.kind = 6) with
        | true => simp only [f_L06_SchemaRowsKeepFitting_l0_eq, f_L06_SchemaRowsKeepFitting_l0u, hx, hcc, hw, hch2, e1, e2, e3, ih1, go_sem]
        | false => cases e4 : decide (y.kind = 7) with
          | true => simp only [f_L06_SchemaRowsKeepFitting_l0_eq, f_L06_SchemaRowsKeepFitting_l0u, hx, hcc, hw, hch2, e1, e2, e3, e4, ih1, go_sem]
          | false =>
            have hk4 : y.kind = 1 ∨ y.kind = 3 ∨ y.kind = 4 ∨ y.kind = 5 := by simp at e2 e3 e4; omega
            have hkp := hkp hk4
            generalize applyC gs nx y = q at *
            obtain ⟨hs', n', e'⟩ := q
            simp only [] at ih2 hkp hsv
            simp only [SR.av] at ha
            cases e5 : decide (e' = 0) with
            | false => simp only [f_L06_SchemaRowsKeepFitting_l0_eq, f_L06_SchemaRowsKeepFitting_l0u, hx, hcc, hw, hch2, ha, hf1, e1, e2, e3, e4, e5, ih1, go_sem]
            | true =>
              have e0 : e' = 0 := by simpa using e5
              have hv := hsv e0
              have hf' := fitsS_kp (hkp e0) R 0 hf
              have hf2 := schema_Fits hs' n' R (by have := hv.i.len; omega) hRl hrb
              rw [hf'] at hf2
              have ih2 := ih2 ⟨hv, hf'⟩
              simp only [f_L06_SchemaRowsKeepFitting_l0_eq, f_L06_SchemaRowsKeepFitting_l0u, hx, hcc, hw, hch2, ha, hf2, e1, e2, e3, e4, e5, ih2, go_sem]
end Go.Den
