/- SchemaNumbersNeverReturn. -/
import Derived.Test.YtggelolphgcpgaaS06J
import Derived.Test.YtggelolphgcpgaaSan06
namespace Go.Den
open Go
set_option linter.unusedSimpArgs false
set_option linter.unusedVariables false
set_option maxRecDepth 100000
set_option maxHeartbeats 1000000
theorem after_made : ∀ (L : List Chg) (fs : List Fld) (next i : Int), (afterS fs next i (madeC fs next L)).e = 0
  | [], fs, next, i => rfl
  | c :: r, fs, next, i => by
    rw [madeC]
    cases d : decide ((applyC fs next (chgS fs next c)).e = 0) with
    | true =>
      rw [cond_true, afterS, d, cond_true]
      exact after_made r _ _ _
    | false => rw [cond_false]; exact after_made r fs next i
/-- Numbers do not come back. -/
def Ev (fs : List Fld) (n : Int) (fs' : List Fld) (n' : Int) : Prop := n ≤ n' ∧ ∀ f ∈ fs', hasF fs f.id = true ∨ n ≤ f.id
theorem hasF_mem {fs : List Fld} {f : Fld} (h : f ∈ fs) : hasF fs f.id = true := by
  unfold hasF; rw [List.any_eq_true]; exact ⟨f, h, by simp⟩
theorem Ev.refl (fs : List Fld) (n : Int) : Ev fs n fs n := ⟨Int.le_refl _, fun f hf => .inl (hasF_mem hf)⟩
theorem Ev.trans {a b c : List Fld} {l m n : Int} (h : Ev a l b m) (k : Ev b m c n) : Ev a l c n := by
  refine ⟨Int.le_trans h.1 k.1, fun f hf => ?_⟩
  rcases k.2 f hf with h1 | h1
  · unfold hasF at h1
    obtain ⟨g, hg, he⟩ := List.any_eq_true.1 h1
    have he : g.id = f.id := by simpa using he
    rw [← he]; exact h.2 g hg
  · exact .inr (Int.le_trans h.1 h1)
theorem Ev.filter (fs : List Fld) (n : Int) (p : Fld → Bool) : Ev fs n (fs.filter p) n := ⟨Int.le_refl _, fun f hf => .inl (hasF_mem (List.mem_filter.1 hf).1)⟩
theorem Ev.put (fs : List Fld) (n : Int) (g : Fld) : Ev fs n (fs.map (putF g)) n := ⟨Int.le_refl _, fun f hf => by
  obtain ⟨x, hx, rfl⟩ := List.mem_map.1 hf
  rw [putF_id]; exact .inl (hasF_mem hx)⟩
theorem Ev.add (fs : List Fld) (n : Int) (nm : ByteArray) (ty pa : Int) : Ev fs n (fs ++ [⟨n, nm, ty, pa⟩]) (n + 1) := ⟨by omega, fun f hf => by
  rcases List.mem_append.1 hf with hf | hf
  · exact .inl (hasF_mem hf)
  · simp at hf; subst hf; exact .inr (Int.le_refl _)⟩
theorem applyC_ev (fs : List Fld) (next : Int) (c : Chg) : (applyC fs next c).e = 0 → Ev fs next (applyC fs next c).fs (applyC fs next c).next := by
  let P : SR → Prop := fun r => Ev fs next r.fs r.next
  show (applyC fs next c).e = 0 → P (applyC fs next c)
  have hb : ∀ {e : Int}, e ≠ 0 → (bad e).e = 0 → P (bad e) := fun he => bad_case he
  unfold applyC
  split
  · unfold addS
    exact bif_case (hb (by decide)) (bif_case (hb (by decide)) (bif_case (hb (by decide)) (bif_case (hb (by decide)) fun _ => Ev.add ..)))
  · split
    · unfold oneS moveS
      exact bif_case (hb (by decide)) (bif_case (bif_case (hb (by decide)) fun _ => Ev.filter ..) (bif_case (bif_case (hb (by decide)) fun _ => Ev.put ..) (bif_case (bif_case (hb (by decide)) fun _ => Ev.put ..)
        (bif_case (hb (by decide)) (bif_case (hb (by decide)) (bif_case (hb (by decide)) fun _ => Ev.put ..))))))
    · split
      · unfold splitS
        exact bif_case (hb (by decide)) (bif_case (hb (by decide)) (bif_case (hb (by decide)) (bif_case (hb (by decide)) (bif_case (hb (by decide)) fun _ => ((Ev.filter ..).trans (Ev.add ..)).trans (Ev.add ..)))))
      · split
        · unfold joinS
          exact bif_case (hb (by decide)) (bif_case (hb (by decide)) (bif_case (hb (by decide)) (bif_case (hb (by decide)) (bif_case (hb (by decide)) (bif_case (hb (by decide)) fun _ => (Ev.filter ..).trans (Ev.add ..))))))
        · exact hb (by decide)
theorem afterS_ev : ∀ (L : List Chg) (fs : List Fld) (next i : Int), Ev fs next (afterS fs next i L).fs (afterS fs next i L).next
  | [], fs, next, i => Ev.refl ..
  | c :: r, fs, next, i => by
    rw [afterS]
    cases d : decide ((applyC fs next c).e = 0) with
    | true => rw [cond_true]; exact (applyC_ev fs next c (by simpa using d)).trans (afterS_ev r _ _ _)
    | false => rw [cond_false]; exact Ev.refl ..
theorem afterS_take : ∀ (L : List Chg) (k : Nat) (fs : List Fld) (next i : Int), (afterS fs next i L).e = 0 → (afterS fs next i (L.take k)).e = 0 ∧
    Ev (afterS fs next i (L.take k)).fs (afterS fs next i (L.take k)).next (afterS fs next i L).fs (afterS fs next i L).next
  | L, 0, fs, next, i, h => ⟨rfl, afterS_ev L fs next i⟩
  | [], k + 1, fs, next, i, h => ⟨rfl, Ev.refl ..⟩
  | c :: r, k + 1, fs, next, i, h => by
    rw [List.take_succ_cons]
    rw [afterS] at h
    rw [afterS, afterS]
    cases d : decide ((applyC fs next c).e = 0) with
    | true => rw [d, cond_true] at h; rw [cond_true, cond_true]; exact afterS_take r k _ _ _ h
    | false => rw [d, cond_false] at h; simp at d; exact absurd h d
theorem afterS_un : ∀ (L : List Chg) {fs : List Fld} {next i : Int}, UN fs next → UN (afterS fs next i L).fs (afterS fs next i L).next
  | [], fs, next, i, u => u
  | c :: r, fs, next, i, u => by
    rw [afterS]
    cases d : decide ((applyC fs next c).e = 0) with
    | true => rw [cond_true]; exact afterS_un r (applyC_un u (by simpa using d))
    | false => exact u
theorem law_Numbers (L : List Chg) (at_ : Int) (hL : L.length < 1000000000000000) (hc : ∀ c ∈ L, COK2 c) (h0 : 0 ≤ at_) (h1 : at_ < 256) :
    Den prog 218 [.sl (L.map Chg.cells), .int .u8 at_] [] = some (.bool true, []) := by
  have hm := R06_Made L 40 hL hc (by omega) (by omega)
  rw [show (40 : Int).toNat = 40 from rfl] at hm
  have hml := madeC_len (L.take 40) [] 1
  rw [List.length_take] at hml
  have hmo := madeC_ok (L.take 40) [] 1
  have hme := after_made (L.take 40) [] 1 0
  generalize madeC [] 1 (L.take 40) = M at *
  have hw1 : IntKind.wrap .i64 at_ = at_ := wrap_i64 (by omega) (by omega)
  have hw2 : IntKind.wrap .i64 ((M.length : Int) + 1) = (M.length : Int) + 1 := wrap_i64 (by omega) (by omega)
  have hnz : (M.length : Int) + 1 ≠ 0 := by omega
  obtain ⟨K, hK, hKl⟩ : ∃ K : Nat, at_.tmod ((M.length : Int) + 1) = (K : Int) ∧ K ≤ M.length := by
    have := Int.tmod_eq_emod_of_nonneg h0 (b := (M.length : Int) + 1)
    have h2 := Int.emod_nonneg at_ hnz
    have h3 := Int.emod_lt_of_pos at_ (b := (M.length : Int) + 1) (by omega)
    exact ⟨(at_ % ((M.length : Int) + 1)).toNat, by rw [this]; omega, by omega⟩
  have hsl : ∀ σ : St, sliceV 8 (.sl (M.map Chg.cells)) none (some (.int .i64 K)) none σ = some (.sl ((M.take K).map Chg.cells), σ, false) := fun σ => by
    have := sliceV_to σ 8 (M.map Chg.cells) .i64 K (by omega) (by rw [List.length_map]; omega) (by rw [szOK_map 8 Chg.cells M (fun _ => rfl)]; trivial)
    simpa using this
  have hA1 := schema_After (M.take K) (by rw [List.length_take]; omega) (fun c hc => hmo c (List.mem_of_mem_take hc))
  have hA2 := schema_After M (by omega) hmo
  obtain ⟨e1, ev⟩ := afterS_take M K [] 1 0 hme
  have hi1 := (afterS_inv (L := M.take K) (i := 0) (fun c hc => hmo c (List.mem_of_mem_take hc)) SInv.nil).len
  have hi2 := (afterS_inv (L := M) (i := 0) hmo SInv.nil).len
  have hun := afterS_un M (i := 0) UN.nil
  generalize afterS [] 1 0 (M.take K) = E at *
  generalize afterS [] 1 0 M = T at *
  obtain ⟨efs, en, ea, ee⟩ := E
  obtain ⟨tfs, tn, ta, te⟩ := T
  simp only [] at e1 hme hi1 hi2 ev hun
  subst e1; subst hme
  have d0 : decide ((0 : Int) = 0) = true := rfl
  have d1 : decide (tn < en) = false := by have := ev.1; simp; omega
  rw [Den_ofK [] pr_L06_SchemaNumbersNeverReturn rfl]
  simp only [AR.av] at hA1 hA2
  clear hml hmo hc
  simp only [f_L06_SchemaNumbersNeverReturn, hm, hw1, hw2, hnz, hK, hsl, hA1, hA2, d0, d1, bin_rem, go_sem]
  refine range_ind tfs (by omega) (fun i (_ : Unit) => (Run prog 0 (.loop 2 [5, 8, 11, 14] f_L06_SchemaNumbersNeverReturn_l0) [(5, .bool true), (8, .ref 0 0), (11, .ref 1 0), (14, .int .i64 i)] [.cells [.sl (efs.map Fld.cells), .int .i64 en], .cells [.sl (tfs.map Fld.cells), .int .i64 tn]]).bind _ = _)
    (fun _ _ _ => True) ?_ ?_ () trivial
  · intro _ _
    rw [Run_loop]
    simp only [f_L06_SchemaNumbersNeverReturn_l0_eq, f_L06_SchemaNumbersNeverReturn_l0u, go_sem]
  · intro i pre rest x _ hq _ hi0 hil hx hcc hw _ ih
    have ih := ih () trivial
    have hxm : x ∈ tfs := by rw [hq]; simp
    have hlt := hun.lt x hxm
    have d2 : decide (tn ≤ x.id) = false := by simp; omega
    have hevx := ev.2 x hxm
    clear hq
    rw [Run_loop]
    simp only [f_L06_SchemaNumbersNeverReturn_l0_eq, f_L06_SchemaNumbersNeverReturn_l0u, hcc, go_sem]
    refine range_ind efs (by omega) (fun j (kn : Bool) => (Run prog 0 (.loop 2 [5, 8, 11, 14, 15, 16] f_L06_SchemaNumbersNeverReturn_l1) [(5, .bool true), (8, .ref 0 0), (11, .ref 1 0), (14, .int .i64 i), (15, .bool kn), (16, .int .i64 j)] [.cells [.sl (efs.map Fld.cells), .int .i64 en], .cells [.sl (tfs.map Fld.cells), .int .i64 tn]]).bind _ = _)
      (fun j rest kn => (kn || hasF rest x.id) = hasF efs x.id) ?_ ?_ false (by simp)
    · intro kn hkn
      have hkn : hasF efs x.id = kn := by rw [← hkn]; simp [hasF]
      rw [hkn] at hevx
      rw [Run_loop]
      cases kn with
      | true => simp only [f_L06_SchemaNumbersNeverReturn_l1_eq, f_L06_SchemaNumbersNeverReturn_l1u, hx, hcc, hw, d2, ih, go_sem]
      | false =>
        have d3 : decide (x.id < en) = false := by simp at hevx; simp; omega
        simp only [f_L06_SchemaNumbersNeverReturn_l1_eq, f_L06_SchemaNumbersNeverReturn_l1u, hx, hcc, hw, d2, d3, ih, go_sem]
    · intro j pre2 rest2 y kn _ _ _ _ hy hcy hwy hkn ihj
      have ihj := ihj (kn || decide (y.id = x.id)) (by rw [← hkn]; simp [hasF, Bool.or_assoc])
      rw [Run_loop]
      cases kn with
      | true =>
        simp only [Bool.true_or] at ihj
        simp only [f_L06_SchemaNumbersNeverReturn_l1_eq, f_L06_SchemaNumbersNeverReturn_l1u, hy, hcy, hwy, ihj, go_sem]
      | false =>
        simp only [Bool.false_or] at ihj
        simp only [f_L06_SchemaNumbersNeverReturn_l1_eq, f_L06_SchemaNumbersNeverReturn_l1u, hy, hcy, hwy, hx, ihj, go_sem]
end Go.Den
