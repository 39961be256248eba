/- Composite values. -/
import Derived.Test.YtggelolphgcpgaaDenG
namespace Go.Den
open Go

section
variable {P : Program} {tab : Nat → Nat}
theorem fold_set (off : Nat) : ∀ (l : List Value) (k : Nat) (C : Array Value), off + k + l.length ≤ C.size →
    ((l.zipIdx k).foldl (fun cs (x : Value × Nat) => cs.setIfInBounds (off + x.2) x.1) C).size = C.size ∧
    ∀ p, ((l.zipIdx k).foldl (fun cs (x : Value × Nat) => cs.setIfInBounds (off + x.2) x.1) C)[p]? = if off + k ≤ p ∧ p < off + k + l.length then l[p - (off + k)]? else C[p]?
  | [], k, C, _ => ⟨rfl, fun p => by rw [if_neg (by simp only [List.length_nil]; omega)]; rfl⟩
  | v :: l, k, C, h => by
    simp at h
    obtain ⟨h1, h2⟩ := fold_set off l (k + 1) (C.setIfInBounds (off + k) v) (by simp; omega)
    refine ⟨by simpa using h1, fun p => ?_⟩
    simp only [List.zipIdx_cons, List.foldl_cons]
    rw [h2 p]
    by_cases e : p = off + k
    · subst e
      rw [if_neg (by omega), if_pos (by simp only [List.length_cons]; omega), Array.getElem?_setIfInBounds_self, if_pos (by omega)]
      simp
    · by_cases hp : off + k ≤ p ∧ p < off + k + (l.length + 1)
      · rw [if_pos (by omega), if_pos (by simpa using hp)]
        have : p - (off + k) = (p - (off + (k + 1))) + 1 := by omega
        rw [this]; simp
      · rw [if_neg (by omega), if_neg (by simpa using hp)]
        rw [Array.getElem?_setIfInBounds_ne (Ne.symm e)]
/-- The parts of a composite value, as the machine and as the abstract code have them. -/
def chkParts (tab : Nat → Nat) (place : Nat → Option (Nat × Nat)) : List (Nat × Operand) → List (Nat × Nat × Opd) → Bool
  | [], [] => true
  | (i, x) :: r, (off, size, y) :: s => place i == some (off, size) && chkOpd tab x y && chkParts tab place r s
  | _, _ => false
theorem fill_ok {w : World} {F : Nat → Prop} {σ : St} {γ : List Gh} {env : Env} {a : Act} (E : EnvOk tab w F σ γ env a.tmps) {place : Nat → Option (Nat × Nat)} :
    ∀ {ps : List (Nat × Operand)} {qs : List (Nat × Nat × Opd)} {C : Array Value} {zs cs : List AV}, chkParts tab place ps qs = true → C.size = zs.length → (∀ (j : Nat) (x : AV), zs[j]? = some x → x.scalar = true) →
      (∀ (j : Nat) (x : AV) (u : Value), zs[j]? = some x → C[j]? = some u → RS tab w F σ γ x u) → fillParts env qs zs = some cs →
      ∃ D, Instr.fill place C (ps.map fun (i, x) => (i, a.eval x)) = some D ∧ D.size = cs.length ∧ cs.length = zs.length ∧ (∀ (j : Nat) (x : AV), cs[j]? = some x → x.scalar = true) ∧
        (∀ (j : Nat) (x : AV) (u : Value), cs[j]? = some x → D[j]? = some u → RS tab w F σ γ x u)
  | [], [], C, zs, cs, _, hl, hs, hr, hf => by
    simp [fillParts] at hf; subst hf
    exact ⟨C, rfl, hl, rfl, hs, hr⟩
  | [], _ :: _, _, _, _, h, _, _, _, _ => by simp [chkParts] at h
  | _ :: _, [], _, _, _, h, _, _, _, _ => by simp [chkParts] at h
  | (i, x) :: ps, (off, size, y) :: qs, C, zs, cs, h, hl, hs, hr, hf => by
    simp only [chkParts, Bool.and_eq_true, beq_iff_eq] at h
    obtain ⟨⟨hp, hx⟩, h⟩ := h
    simp only [fillParts] at hf
    split at hf
    · rename_i hc
      obtain ⟨c1, c2, c3⟩ := hc
      have hxy := opd_ok E hx
      have hs0 : ∀ (j : Nat) (z : AV), (ev env y).cellsOf[j]? = some z → z.scalar = true := fun j z hz => (List.all_eq_true.1 c3) z (List.mem_of_getElem? hz)
      obtain ⟨q1, q2⟩ := cells_ok hxy hs0
      obtain ⟨f1, f2⟩ := fold_set off (a.eval x).cells.toList 0 C (by simp; omega)
      have hzz : (a.eval x).cells.zipIdx.foldl (fun cs (c, j) => cs.setIfInBounds (off + j) c) C = ((a.eval x).cells.toList.zipIdx 0).foldl (fun cs (x : Value × Nat) => cs.setIfInBounds (off + x.2) x.1) C := by
        rw [← Array.foldl_toList]; simp
      have hol : (over zs off (ev env y).cellsOf).length = zs.length := over_length _ _ _ (by omega)
      obtain ⟨D, d1, d2, d3, d4, d5⟩ := fill_ok E (C := (a.eval x).cells.zipIdx.foldl (fun cs (c, j) => cs.setIfInBounds (off + j) c) C) h (by rw [hzz, f1, hol, hl]) (fun j z hz => by
          rw [over_get _ _ _ _ (by omega)] at hz
          split at hz
          · exact hs0 _ z hz
          · exact hs _ z hz) (fun j z u hz hu => by
          rw [over_get _ _ _ _ (by omega)] at hz
          rw [hzz, f2 j] at hu
          simp only [Nat.add_zero, Array.length_toList, q1] at hu
          split at hz
          · rename_i hj
            rw [if_pos hj] at hu
            exact q2 _ z u hz (by simpa using hu)
          · rename_i hj
            rw [if_neg hj] at hu
            exact hr _ z u hz hu) hf
      refine ⟨D, ?_, d2, by omega, d4, d5⟩
      simp only [List.map_cons, Instr.fill, hp]
      rw [if_neg (by simp; omega)]
      exact d1
    · exact absurd hf (by simp)

def buildB (P : Program) (t : TypeId) (zs : List AV) : Bool := zeroB P t zs
/-- Where the parts of a struct or an array lie. -/
def placeOf (P : Program) (t : TypeId) : Option (Nat → Option (Nat × Nat)) := match P.underlying t with
  | some (.struct fs) => some fun i => match fs[i]? with
    | some f => (P.info? f.type).map fun j => (f.offset, j.size)
    | none => none
  | some (.array _ e) => (P.info? e).map fun j => fun i => some (i * j.size, j.size)
  | _ => none
theorem mapM_places (w : World) : ∀ (l : List Field), (∀ f ∈ l, ∃ i, P.info? f.type = some i) →
    (l.mapM fun f => (do pure (f.offset, ← sizeOf f.type) : Sem (Nat × Nat))).run P w = .ok (l.map fun f => (f.offset, P.cellsOf f.type)) w
  | [], _ => by simp
  | f :: l, h => by
    obtain ⟨i, hi⟩ := h f (by simp)
    have ih := mapM_places w l fun g hg => h g (by simp [hg])
    simp only [List.mapM_cons, Sem.run_bind, run_sizeOf (w := w) hi, Result.andThen_ok, Sem.run_pure, ih, List.map_cons]
def allInfo (P : Program) (t : TypeId) : Bool := match P.underlying t with
  | some (.struct fs) => fs.toList.all fun f => (P.info? f.type).isSome
  | _ => true
theorem fill_congr {p q : Nat → Option (Nat × Nat)} (h : ∀ i, p i = q i) (C : Array Value) (l : List (Nat × Value)) : Instr.fill p C l = Instr.fill q C l := by
  have : p = q := funext h
  rw [this]
theorem build_ok {w : World} {F : Nat → Prop} {base : Nat} {σ : St} {γ : List Gh} {env : Env} {a : Act} (I : Inv tab w F σ γ) (E : EnvOk tab w F σ γ env a.tmps) {t : TypeId} {zs cs : List AV} {ps : List (Nat × Operand)} {qs : List (Nat × Nat × Opd)} {place : Nat → Option (Nat × Nat)}
    (hz : zeroB P t zs = true) (ha : allInfo P t = true) (hpl : placeOf P t = some place) (hp : chkParts tab place ps qs = true) (hf : fillParts env qs zs = some cs) :
    Done tab F base w σ γ ((val (Instr.build t (ps.map fun (i, x) => (i, a.eval x)).toArray)).run P w) (.agg cs) σ := by
  obtain ⟨z, hz, hc⟩ := run_zero (P := P) (w := w) hz
  obtain ⟨q1, q2, q3⟩ := constB_go tab (w := w) (S := Stab w F σ γ) hc
  obtain ⟨D, d1, d2, d3, d4, d5⟩ := fill_ok E (C := z.cells) hp (by simpa using q1) q2 (fun j x u hx hu => .fz _ _ (q3 j x u hx (by simpa using hu))) hf
  have hD : RS tab w F σ γ (.agg cs) (.agg D) := by
    have := RV.agg (tab := tab) (w := w) (S := Stab w F σ γ) (σ := σ) (γ := γ) cs D.toList (by simpa using d2) d4 (fun j x u hx hu => d5 j x u hx (by simpa using hu))
    simpa using this
  refine done_same I (val_run (v := .agg D) ?_) hD
  unfold placeOf at hpl
  unfold allInfo at ha
  split at hpl
  · rename_i fs hu
    rw [hu] at ha
    simp only [List.all_eq_true] at ha
    have hall : ∀ f ∈ fs.toList, ∃ i, P.info? f.type = some i := fun f hf => by
      have := ha f hf
      exact Option.isSome_iff_exists.1 this
    have hm := mapM_places (P := P) w fs.toList hall
    have hm' : (fs.mapM fun f => (do pure (f.offset, ← sizeOf f.type) : Sem (Nat × Nat))).run P w = .ok (fs.toList.map fun f => (f.offset, P.cellsOf f.type)).toArray w := by
      rw [Array.mapM_eq_mapM_toList]
      simp only [Sem.run_map, hm, Result.andThen_ok]
    simp at hpl
    have hpp : ∀ i, ((fs.toList.map fun f => (f.offset, P.cellsOf f.type)).toArray)[i]? = place i := by
      intro i
      rw [← hpl]
      simp
      cases hfi : fs[i]? with
      | none => simp
      | some f =>
        have hmem : f ∈ fs.toList := by simpa using Array.mem_of_getElem? hfi
        obtain ⟨j, hj⟩ := hall f hmem
        simp [hj, Program.cellsOf]
    have d1' : Instr.fill (fun x => ((fs.toList.map fun f => (f.offset, P.cellsOf f.type)).toArray)[x]?) z.cells (ps.map fun (i, x) => (i, a.eval x)) = some D := by
      rw [← d1]; exact fill_congr hpp _ _
    simp only [Instr.build, Sem.run_bind, hz, Result.andThen_ok, run_underlying hu, hm']
    rw [d1']
    simp
  · rename_i n e hu
    cases hi : P.info? e with
    | none => simp [hi] at hpl
    | some j =>
      simp [hi] at hpl
      have d1' : Instr.fill (fun i => some (i * j.size, j.size)) z.cells (ps.map fun (i, x) => (i, a.eval x)) = some D := by
        rw [← d1, ← hpl]
      simp only [Instr.build, Sem.run_bind, hz, Result.andThen_ok, run_underlying hu, run_sizeOf (w := w) hi, Program.cellsOf, hi]
      simp
      rw [d1']
      simp
  · exact absurd hpl (by simp)
end
end Go.Den
