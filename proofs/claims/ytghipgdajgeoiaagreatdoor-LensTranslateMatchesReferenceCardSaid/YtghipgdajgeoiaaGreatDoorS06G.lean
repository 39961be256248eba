/- Package schema: the methods. -/
import Derived.Test.YtghipgdajgeoiaaGreatDoorS06F
namespace Go.Den
open Go
set_option linter.unusedSimpArgs false
set_option linter.unusedVariables false
set_option maxRecDepth 100000
set_option maxHeartbeats 1000000
/-- A method comes to what the reference says. -/
def Mok (o0 o1 : Ob) (f : Nat) (c : Chg) (fs : List Fld) (next : Int) (v : Nat) (r : SR) : Prop :=
  ∃ x2 x3, Den prog f [.ref 3 0, .agg c.cells] ([o0, o1, Ob.arr v 4 (fs.map Fld.cells), Ob.cells [AV.osl 2 v fs.length 0 fs.length, AV.int IntKind.i64 next]] : St) = some (.int .i64 r.e, [o0, o1, x2, x3]) ∧
    (r.e = 0 → ∃ v' tl', x2 = .arr v' 4 ((r.fs ++ tl').map Fld.cells) ∧ x3 = .cells [.osl 2 v' (r.fs.length + tl'.length) 0 r.fs.length, .int .i64 r.next])
theorem cells_chg (c : Chg) : c.cells = [.int .i64 c.kind, .int .i64 c.id, .int .i64 c.wi, .str c.name, .str c.other, .int .i64 c.type, .int .i64 c.par, .str c.sep] := rfl
section
variable (o0 o1 : Ob) (fs : List Fld) (next : Int) (v : Nat) (c : Chg)
theorem Mok_bad {f : Nat} {e : Int} (he : e ≠ 0) (hd : Den prog f [.ref 3 0, .agg c.cells] ([o0, o1, Ob.arr v 4 (fs.map Fld.cells), Ob.cells [AV.osl 2 v fs.length 0 fs.length, AV.int IntKind.i64 next]] : St) = some (.int .i64 e, ([o0, o1, Ob.arr v 4 (fs.map Fld.cells), Ob.cells [AV.osl 2 v fs.length 0 fs.length, AV.int IntKind.i64 next]] : St))) : Mok o0 o1 f c fs next v (bad e) :=
  ⟨_, _, hd, fun h0 => absurd h0 he⟩
theorem schema_add (h : SInv fs next) (u : UQ fs) (hc : c.name.size < 1000000000000000) : Mok o0 o1 191 c fs next v (addS fs next c) := by
  have hl := h.len
  have hn0 := h.n0
  have hn1 := h.n1
  have hL2 : fs.length < 1000000000000000 := by omega
  have ha := schema_ancestors o0 o1 fs next v c.par (by omega)
  have ht := schema_taken o0 o1 fs next v c.par c.name [] (by omega) hc (by simp)
  have hf := schema_full o0 o1 fs next v 1 (by omega) (by omega)
  have hp := schema_plus o0 o1 fs next v c.name c.type c.par (by omega) (by omega) (by omega)
  have ac := anc_top fs c.par
  have tn := tk_nil u ⟨0, c.name, c.type, c.par⟩
  simp only [] at tn
  rw [tn] at ht
  have e1 : decide (1073741824 ≤ next) = decide (1073741824 - 1 < next) := by rw [Bool.eq_iff_iff]; simp; omega
  unfold Mok addS
  rw [e1]
  generalize anc fs 9 c.par [] = an at *
  generalize decide (8 ≤ depth fs 9 c.par 0) = D at *
  generalize taken fs ⟨0, c.name, c.type, c.par⟩ 0 0 = T at *
  clear tn e1
  have fin := fun e he hd => Mok_bad o0 o1 fs next v c (f := 191) (e := e) he hd
  unfold Mok at fin
  cases d1 : decide (c.type < 1) with
  | true =>
    simp only [Bool.true_or, cond_true]
    refine fin 7 (by decide) ?_
    rw [Den_ofK _ pr_schema_state_add rfl]
    simp only [f_schema_state_add, cells_chg, ha, d1, go_sem]
  | false => cases d2 : decide (6 < c.type) with
    | true =>
      simp only [Bool.or_true, cond_true]
      refine fin 7 (by decide) ?_
      rw [Den_ofK _ pr_schema_state_add rfl]
      simp only [f_schema_state_add, cells_chg, ha, d1, d2, go_sem]
    | false =>
      simp only [Bool.or_false, cond_false]
      cases d3 : groupOk fs c.par with
      | false =>
        simp only [Bool.not_false, Bool.true_or, cond_true]
        refine fin 63 (by decide) ?_
        rw [Den_ofK _ pr_schema_state_add rfl]
        simp only [f_schema_state_add, cells_chg, ha, hL2, d1, d2, d3, go_sem]
      | true =>
        simp only [Bool.not_true, Bool.false_or]
        cases d4 : decide (an.2 = 0) with
        | false =>
          rw [d4, Bool.not_false, Bool.true_or] at ac
          rw [← ac, cond_true]
          refine fin 63 (by decide) ?_
          rw [Den_ofK _ pr_schema_state_add rfl]
          simp only [f_schema_state_add, cells_chg, ha, hL2, d1, d2, d3, d4, go_sem]
        | true =>
          rw [d4, Bool.not_true, Bool.false_or] at ac
          rw [← ac]
          cases d5 : decide (8 ≤ (an.1.length : Int)) with
          | true =>
            rw [cond_true]
            refine fin 63 (by decide) ?_
            rw [Den_ofK _ pr_schema_state_add rfl]
            simp only [f_schema_state_add, cells_chg, ha, hL2, d1, d2, d3, d4, d5, go_sem]
          | false =>
            rw [cond_false]
            simp only [List.map_nil] at ht
            cases T with
            | true =>
              rw [cond_true]
              refine fin 60 (by decide) ?_
              rw [Den_ofK _ pr_schema_state_add rfl]
              simp only [f_schema_state_add, cells_chg, ha, ht, hL2, d1, d2, d3, d4, d5, go_sem]
            | false =>
              rw [cond_false]
              cases d6 : decide (64 ≤ (fs.length : Int)) || decide (1073741824 - 1 < next) with
              | true =>
                rw [d6] at hf
                rw [cond_true]
                refine fin 2 (by decide) ?_
                rw [Den_ofK _ pr_schema_state_add rfl]
                simp only [f_schema_state_add, cells_chg, ha, ht, hf, hL2, d1, d2, d3, d4, d5, go_sem]
              | false =>
                rw [d6] at hf
                rw [cond_false]
                refine ⟨_, _, ?_, fun _ => ⟨v, [], by rw [List.append_nil], by rw [List.length_nil, Nat.add_zero]⟩⟩
                rw [Den_ofK _ pr_schema_state_add rfl]
                simp only [go_sem] at hp
                simp only [f_schema_state_add, cells_chg, ha, ht, hf, hp, hL2, d1, d2, d3, d4, d5, go_sem]
theorem schema_drop_1 (x : Fld) : Den prog 188 [.agg [.int .i64 x.id, .str x.name, .int .i64 x.type, .int .i64 x.par], .rptr c.cells] [] = some (.bool (decide (x.par = c.id)), []) := by
  rw [Den_ofK [] pr_schema_state_drop_1 rfl]
  simp only [f_schema_state_drop_1, cells_chg, go_sem]
theorem idx_lt (id : Int) : decide (idx fs id < 0) = !hasF fs id := by
  rw [← idx_has, Bool.eq_iff_iff]; simp
theorem schema_drop (h : SInv fs next) (u : UQ fs) (hk : c.kind = 2) : Mok o0 o1 192 c fs next v (oneS fs next c) := by
  have hl := h.len
  have hL2 : fs.length < 1000000000000000 := by omega
  have hi := idx_lt fs c.id
  have hcf := ContainsFunc_Fld fs hL2 188 [.rptr c.cells] (fun x => decide (x.par = c.id)) rfl rfl (fun x _ => schema_drop_1 c x)
  have d2 : decide (c.kind = 2) = true := by simp [hk]
  unfold oneS
  rw [d2, cond_true]
  cases d : hasF fs c.id with
  | false =>
    rw [d] at hi
    simp only [Bool.not_false, cond_true]
    refine Mok_bad o0 o1 fs next v c (by decide) ?_
    rw [Den_ofK _ pr_schema_state_drop rfl]
    simp only [f_schema_state_drop, cells_chg, hi, hL2, go_sem]
  | true =>
    rw [d] at hi
    simp only [Bool.not_true, cond_false]
    rw [(getF_id d).1]
    cases d3 : fs.any fun g => decide (g.par = c.id) with
    | true =>
      rw [d3] at hcf
      rw [cond_true]
      refine Mok_bad o0 o1 fs next v c (by decide) ?_
      rw [Den_ofK _ pr_schema_state_drop rfl]
      simp only [cells_chg] at hcf
      simp only [f_schema_state_drop, cells_chg, hi, hL2, hcf, List.take_length, go_sem]
    | false =>
      rw [d3] at hcf
      rw [cond_false, ← less_eq]
      obtain ⟨tl', r1, r2⟩ := schema_remove o0 o1 next v fs.length [] fs c.id (by omega) (by simp)
      simp only [List.append_nil] at r2
      refine ⟨_, _, ?_, fun _ => ⟨v, tl', rfl, by rw [r1]⟩⟩
      rw [Den_ofK _ pr_schema_state_drop rfl]
      simp only [cells_chg] at hcf
      generalize (less fs c.id ++ tl').map Fld.cells = E at *
      simp only [f_schema_state_drop, cells_chg, hi, hL2, hcf, r2, List.take_length, go_sem]
/-- The field itself, where it stands, and one put there. -/
theorem at_field {id : Int} (u : UQ fs) (d : hasF fs id = true) : 0 ≤ idx fs id ∧ idx fs id < fs.length ∧ (fs.map Fld.cells)[(idx fs id).toNat]? = some [.int .i64 (getF fs id).id, .str (getF fs id).name, .int .i64 (getF fs id).type, .int .i64 (getF fs id).par] ∧
    ∀ g : Fld, g.id = id → (fs.map Fld.cells).set (idx fs id).toNat [.int .i64 g.id, .str g.name, .int .i64 g.type, .int .i64 g.par] = (fs.map (putF g)).map Fld.cells := by
  obtain ⟨h1, h2, h3⟩ := idx_get d
  refine ⟨h1, h3, ?_, fun g hg => ?_⟩
  · unfold getE at h2
    rw [List.getElem?_map]
    simp [h1] at h2
    rw [h2]; rfl
  · rw [← set_put u d g hg, List.map_set]; rfl
theorem schema_widen (h : SInv fs next) (u : UQ fs) (hk : c.kind = 4) : Mok o0 o1 194 c fs next v (oneS fs next c) := by
  have hl := h.len
  have hL2 : fs.length < 1000000000000000 := by omega
  have hi := idx_lt fs c.id
  have d2 : decide (c.kind = 2) = false := by simp [hk]
  have d3 : decide (c.kind = 3) = false := by simp [hk]
  have d4 : decide (c.kind = 4) = true := by simp [hk]
  unfold oneS
  rw [d2, cond_false, d3, cond_false, d4, cond_true]
  cases d : hasF fs c.id with
  | false =>
    rw [d] at hi
    simp only [Bool.not_false, cond_true]
    refine Mok_bad o0 o1 fs next v c (by decide) ?_
    rw [Den_ofK _ pr_schema_state_widen rfl]
    simp only [f_schema_state_widen, cells_chg, hi, hL2, go_sem]
  | true =>
    rw [d] at hi
    simp only [Bool.not_true, cond_false]
    obtain ⟨i0, i1, i2, i3⟩ := at_field fs u d
    have i3 := i3 { getF fs c.id with type := 3 } (getF_id d).1
    cases d5 : decide ((getF fs c.id).type = 2) with
    | false =>
      simp only [Bool.not_false, cond_true]
      refine Mok_bad o0 o1 fs next v c (by decide) ?_
      rw [Den_ofK _ pr_schema_state_widen rfl]
      simp only [f_schema_state_widen, cells_chg, hi, hL2, i0, i1, i2, d5, go_sem]
    | true =>
      simp only [Bool.not_true, cond_false]
      refine ⟨_, _, ?_, fun _ => ⟨v, [], by rw [List.append_nil], by rw [List.length_nil, Nat.add_zero, List.length_map]⟩⟩
      rw [Den_ofK _ pr_schema_state_widen rfl]
      simp only [go_sem] at i3
      simp only [f_schema_state_widen, cells_chg, hi, hL2, i0, i1, i2, i3, d5, go_sem]
theorem schema_rename (h : SInv fs next) (u : UQ fs) (hk : c.kind = 3) (hc : c.name.size < 1000000000000000) : Mok o0 o1 193 c fs next v (oneS fs next c) := by
  have hl := h.len
  have hL2 : fs.length < 1000000000000000 := by omega
  have hi := idx_lt fs c.id
  have d2 : decide (c.kind = 2) = false := by simp [hk]
  have d3 : decide (c.kind = 3) = true := by simp [hk]
  unfold oneS
  rw [d2, cond_false, d3, cond_true]
  cases d : hasF fs c.id with
  | false =>
    rw [d] at hi
    simp only [Bool.not_false, cond_true]
    refine Mok_bad o0 o1 fs next v c (by decide) ?_
    rw [Den_ofK _ pr_schema_state_rename rfl]
    simp only [f_schema_state_rename, cells_chg, hi, hL2, go_sem]
  | true =>
    rw [d] at hi
    simp only [Bool.not_true, cond_false]
    obtain ⟨i0, i1, i2, i3⟩ := at_field fs u d
    have i3 := i3 ⟨c.id, c.name, (getF fs c.id).type, (getF fs c.id).par⟩ rfl
    rw [(getF_id d).1] at i2
    have ht := schema_taken o0 o1 fs next v (getF fs c.id).par c.name [c.id] (by omega) hc (by simp)
    have tn := tk_one fs ⟨c.id, c.name, (getF fs c.id).type, (getF fs c.id).par⟩ c.id
    simp only [] at tn
    rw [tn] at ht
    rw [(getF_id d).1]
    simp only [List.map_cons, List.map_nil, icell] at ht
    cases d5 : taken fs ⟨c.id, c.name, (getF fs c.id).type, (getF fs c.id).par⟩ c.id c.id with
    | true =>
      rw [d5] at ht
      rw [cond_true]
      refine Mok_bad o0 o1 fs next v c (by decide) ?_
      rw [Den_ofK _ pr_schema_state_rename rfl]
      simp only [f_schema_state_rename, cells_chg, hi, hL2, i0, i1, i2, ht, go_sem]
    | false =>
      rw [d5] at ht
      rw [cond_false]
      refine ⟨_, _, ?_, fun _ => ⟨v, [], by rw [List.append_nil], by rw [List.length_nil, Nat.add_zero, List.length_map]⟩⟩
      rw [Den_ofK _ pr_schema_state_rename rfl]
      simp only [go_sem] at i3
      simp only [f_schema_state_rename, cells_chg, hi, hL2, i0, i1, i2, i3, ht, go_sem]
end
end Go.Den
