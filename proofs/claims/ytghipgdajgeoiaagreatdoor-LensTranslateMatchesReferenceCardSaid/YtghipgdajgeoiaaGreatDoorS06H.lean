/- Package schema: the methods split, join, move. -/
import Derived.Test.YtghipgdajgeoiaaGreatDoorS06G
import Derived.Test.YtghipgdajgeoiaaGreatDoorS06X1
import Derived.Test.YtghipgdajgeoiaaGreatDoorS06X2
namespace Go.Den
open Go
set_option linter.unusedSimpArgs false
set_option linter.unusedVariables false
set_option maxRecDepth 100000
set_option maxHeartbeats 1000000
theorem str_empty (s : ByteArray) : decide (s = (⟨#[]⟩ : ByteArray)) = decide ((s.size : Int) < 1) := by
  rw [Bool.eq_iff_iff, decide_eq_true_eq, decide_eq_true_eq]
  constructor
  · rintro rfl; decide
  · intro h
    have : s.size = 0 := by omega
    exact ByteArray.size_eq_zero_iff.1 this
@[go_sem] theorem schema_separates (s : ByteArray) : Den prog 190 [.str s] [] = some (.bool (sepOk s), []) := by
  rw [Den_ofK [] pr_schema_separates rfl]
  have e0 := str_empty s
  have hd : decide (1 ≤ (s.size : Int)) = !decide ((s.size : Int) < 1) := by rw [Bool.eq_iff_iff]; simp
  unfold sepOk
  rw [hd]
  cases d : decide ((s.size : Int) < 1) with
  | true => simp only [f_schema_separates, e0, d, go_sem]
  | false => simp only [f_schema_separates, e0, d, go_sem]
section
variable (o0 o1 : Ob) (fs : List Fld) (next : Int) (v : Nat) (c : Chg)
theorem schema_split (h : SInv fs next) (u : UQ fs) (hc : c.name.size < 1000000000000000) (hd : c.other.size < 1000000000000000) : Mok o0 o1 196 c fs next v (splitS fs next c) := by
  have hl := h.len
  have hn0 := h.n0
  have hn1 := h.n1
  have hL2 : fs.length < 1000000000000000 := by omega
  unfold splitS
  cases d : hasF fs c.id with
  | false =>
    simp only [Bool.not_false, cond_true]
    refine Mok_bad o0 o1 fs next v c (by decide) ?_
    rw [Den_ofK _ pr_schema_state_split rfl]
    simp only [f_schema_state_split, cells_chg, d, hL2, go_sem]
  | true =>
    simp only [Bool.not_true, cond_false]
    have hid := (getF_id d).1
    rw [hid]
    have hlen : (less fs c.id).length + 1 ≤ fs.length := by
      have := filter_less d c.id
      rw [hid, ← less_eq] at this; exact this
    rw [← less_eq]
    obtain ⟨G, hG⟩ : ∃ G, G = getF fs c.id := ⟨_, rfl⟩
    have t1 := schema_takenX1 o0 o1 (.cells [.int .i64 G.id, .str G.name, .int .i64 G.type, .int .i64 G.par]) fs next v G.par c.name [c.id] (by omega) hc (by simp)
    have t2 := schema_takenX1 o0 o1 (.cells [.int .i64 G.id, .str G.name, .int .i64 G.type, .int .i64 G.par]) fs next v G.par c.other [c.id] (by omega) hd (by simp)
    have tn1 := tk_one fs ⟨0, c.name, 4, G.par⟩ c.id
    have tn2 := tk_one fs ⟨0, c.other, 4, G.par⟩ c.id
    simp only [] at tn1 tn2
    rw [tn1] at t1
    rw [tn2] at t2
    have hf := schema_fullX1 o0 o1 (.cells [.int .i64 G.id, .str G.name, .int .i64 G.type, .int .i64 G.par]) fs next v 2 (by omega) (by omega)
    obtain ⟨tl', r1, r2⟩ := schema_removeX1 o0 o1 (.cells [.int .i64 G.id, .str G.name, .int .i64 G.type, .int .i64 G.par]) next v fs.length [] fs c.id (by omega) (by simp)
    have p1 := schema_plusTX1 o0 o1 (.cells [.int .i64 G.id, .str G.name, .int .i64 G.type, .int .i64 G.par]) next v fs.length tl' (less fs c.id) c.name 4 G.par (by omega) r1 (by omega) (by omega) (by omega)
    have p2 := schema_plusX1 o0 o1 (.cells [.int .i64 G.id, .str G.name, .int .i64 G.type, .int .i64 G.par]) (less fs c.id ++ [⟨next, c.name, 4, G.par⟩]) (next + 1) (v + 1) c.other 4 G.par (by simp; omega) (by omega) (by omega)
    have e1 : decide (1073741822 < next) = decide (1073741824 - 2 < next) := by rw [Bool.eq_iff_iff]; simp
    rw [e1, ← hG]
    simp only [List.append_nil, List.map_cons, List.map_nil, icell] at r2 t1 t2
    clear e1 tn1 tn2
    cases d2 : decide (G.type = 4) with
    | false =>
      simp only [Bool.not_false, cond_true]
      refine Mok_bad o0 o1 fs next v c (by decide) ?_
      rw [Den_ofK _ pr_schema_state_split rfl]
      simp only [f_schema_state_split, cells_chg, d, d2, hL2, ← hG, go_sem]
    | true =>
      simp only [Bool.not_true, cond_false]
      cases d3 : sepOk c.sep with
      | false =>
        simp only [Bool.not_false, cond_true]
        refine Mok_bad o0 o1 fs next v c (by decide) ?_
        rw [Den_ofK _ pr_schema_state_split rfl]
        simp only [f_schema_state_split, cells_chg, d, d2, d3, hL2, ← hG, go_sem]
      | true =>
        simp only [Bool.not_true, cond_false]
        cases d4 : taken fs ⟨0, c.name, 4, G.par⟩ c.id c.id with
        | true =>
          rw [d4] at t1
          simp only [Bool.true_or, cond_true]
          refine Mok_bad o0 o1 fs next v c (by decide) ?_
          rw [Den_ofK _ pr_schema_state_split rfl]
          simp only [f_schema_state_split, cells_chg, d, d2, d3, hL2, t1, ← hG, go_sem]
        | false =>
          rw [d4] at t1
          simp only [Bool.false_or]
          cases d5 : taken fs ⟨0, c.other, 4, G.par⟩ c.id c.id with
          | true =>
            rw [d5] at t2
            simp only [Bool.true_or, cond_true]
            refine Mok_bad o0 o1 fs next v c (by decide) ?_
            rw [Den_ofK _ pr_schema_state_split rfl]
            simp only [f_schema_state_split, cells_chg, d, d2, d3, hL2, t1, t2, ← hG, go_sem]
          | false =>
            rw [d5] at t2
            simp only [Bool.false_or]
            cases d6 : decide (c.name = c.other) with
            | true =>
              rw [cond_true]
              refine Mok_bad o0 o1 fs next v c (by decide) ?_
              rw [Den_ofK _ pr_schema_state_split rfl]
              simp only [f_schema_state_split, cells_chg, d, d2, d3, d6, hL2, t1, t2, ← hG, go_sem]
            | false =>
              rw [cond_false]
              cases d7 : decide (64 ≤ (fs.length : Int)) || decide (1073741824 - 2 < next) with
              | true =>
                rw [d7] at hf
                rw [cond_true]
                refine Mok_bad o0 o1 fs next v c (by decide) ?_
                rw [Den_ofK _ pr_schema_state_split rfl]
                simp only [f_schema_state_split, cells_chg, d, d2, d3, d6, hL2, t1, t2, hf, ← hG, go_sem]
              | false =>
                rw [d7] at hf
                rw [cond_false]
                refine ⟨_, _, ?_, fun _ => ⟨v + 1, [], by rw [List.append_nil], by rw [List.length_nil, Nat.add_zero]⟩⟩
                rw [Den_ofK _ pr_schema_state_split rfl]
                generalize (less fs c.id ++ tl').map Fld.cells = E at *
                simp only [go_sem] at p1 p2 r2
                simp only [f_schema_state_split, cells_chg, d, d2, d3, d6, hL2, t1, t2, hf, r2, p1, p2, ← hG, go_sem]
theorem schema_join (h : SInv fs next) (u : UQ fs) (hc : c.name.size < 1000000000000000) : Mok o0 o1 197 c fs next v (joinS fs next c) := by
  have hl := h.len
  have hn0 := h.n0
  have hn1 := h.n1
  have hL2 : fs.length < 1000000000000000 := by omega
  unfold joinS
  cases d : hasF fs c.id with
  | false =>
    simp only [Bool.not_false, Bool.true_or, cond_true]
    refine Mok_bad o0 o1 fs next v c (by decide) ?_
    rw [Den_ofK _ pr_schema_state_join rfl]
    simp only [f_schema_state_join, cells_chg, d, hL2, go_sem]
  | true => cases dw : hasF fs c.wi with
    | false =>
      simp only [Bool.not_false, Bool.not_true, Bool.false_or, Bool.true_or, cond_true]
      refine Mok_bad o0 o1 fs next v c (by decide) ?_
      rw [Den_ofK _ pr_schema_state_join rfl]
      simp only [f_schema_state_join, cells_chg, d, dw, hL2, go_sem]
    | true =>
      have hid := (getF_id d).1
      have hiw := (getF_id dw).1
      simp only [Bool.not_true, Bool.false_or]
      rw [hid, hiw]
      have hlen : (less fs c.id).length + 1 ≤ fs.length := by
        have := filter_less d c.id
        rw [hid, ← less_eq] at this; exact this
      rw [← less_two]
      obtain ⟨G, hG⟩ : ∃ G, G = getF fs c.id := ⟨_, rfl⟩
      obtain ⟨W, hW⟩ : ∃ W, W = getF fs c.wi := ⟨_, rfl⟩
      obtain ⟨x4, h4⟩ : ∃ x4, x4 = Ob.cells [.int .i64 G.id, .str G.name, .int .i64 G.type, .int .i64 G.par] := ⟨_, rfl⟩
      obtain ⟨x5, h5⟩ : ∃ x5, x5 = Ob.cells [.int .i64 W.id, .str W.name, .int .i64 W.type, .int .i64 W.par] := ⟨_, rfl⟩
      have t1 := schema_takenX2 o0 o1 x4 x5 fs next v G.par c.name [c.id, c.wi] (by omega) hc (by simp)
      have tn1 := tk_two fs ⟨0, c.name, 4, G.par⟩ c.id c.wi
      simp only [] at tn1
      rw [tn1] at t1
      obtain ⟨tl1, r1, r2⟩ := schema_removeX2 o0 o1 x4 x5 next v fs.length [] fs c.id (by omega) (by simp)
      obtain ⟨tl2, r3, r4⟩ := schema_removeX2 o0 o1 x4 x5 next v fs.length tl1 (less fs c.id) c.wi (by omega) r1
      have hl2 : (less (less fs c.id) c.wi).length ≤ (less fs c.id).length := List.length_filter_le _ _
      have p1 := schema_plusTX2 o0 o1 x4 x5 next v fs.length tl2 (less (less fs c.id) c.wi) c.name 4 G.par (by omega) r3 (by omega) (by omega) (by omega)
      rw [← hG, ← hW]
      simp only [List.append_nil, List.map_cons, List.map_nil, icell] at r2 t1
      clear tn1
      subst h4; subst h5
      cases d1 : decide (c.id = c.wi) with
      | true =>
        rw [cond_true]
        refine Mok_bad o0 o1 fs next v c (by decide) ?_
        rw [Den_ofK _ pr_schema_state_join rfl]
        simp only [f_schema_state_join, cells_chg, d, dw, d1, hL2, go_sem]
      | false =>
        rw [cond_false]
        cases d2 : decide (G.type = 4) with
        | false =>
          simp only [Bool.not_false, Bool.true_or, cond_true]
          refine Mok_bad o0 o1 fs next v c (by decide) ?_
          rw [Den_ofK _ pr_schema_state_join rfl]
          simp only [f_schema_state_join, cells_chg, d, dw, d1, d2, hL2, ← hG, ← hW, go_sem]
        | true => cases d3 : decide (W.type = 4) with
          | false =>
            simp only [Bool.not_false, Bool.not_true, Bool.false_or, cond_true]
            refine Mok_bad o0 o1 fs next v c (by decide) ?_
            rw [Den_ofK _ pr_schema_state_join rfl]
            simp only [f_schema_state_join, cells_chg, d, dw, d1, d2, d3, hL2, ← hG, ← hW, go_sem]
          | true =>
            simp only [Bool.not_true, Bool.false_or, cond_false]
            cases d4 : decide (G.par = W.par) with
            | false =>
              simp only [Bool.not_false, cond_true]
              refine Mok_bad o0 o1 fs next v c (by decide) ?_
              rw [Den_ofK _ pr_schema_state_join rfl]
              simp only [f_schema_state_join, cells_chg, d, dw, d1, d2, d3, d4, hL2, ← hG, ← hW, go_sem]
            | true =>
              simp only [Bool.not_true, cond_false]
              cases d5 : sepOk c.sep with
              | false =>
                simp only [Bool.not_false, cond_true]
                refine Mok_bad o0 o1 fs next v c (by decide) ?_
                rw [Den_ofK _ pr_schema_state_join rfl]
                simp only [f_schema_state_join, cells_chg, d, dw, d1, d2, d3, d4, d5, hL2, ← hG, ← hW, go_sem]
              | true =>
                simp only [Bool.not_true, cond_false]
                cases d6 : taken fs ⟨0, c.name, 4, G.par⟩ c.id c.wi with
                | true =>
                  rw [d6] at t1
                  rw [cond_true]
                  refine Mok_bad o0 o1 fs next v c (by decide) ?_
                  rw [Den_ofK _ pr_schema_state_join rfl]
                  simp only [f_schema_state_join, cells_chg, d, dw, d1, d2, d3, d4, d5, hL2, t1, ← hG, ← hW, go_sem]
                | false =>
                  rw [d6] at t1
                  rw [cond_false]
                  cases d7 : decide (1073741824 ≤ next) with
                  | true =>
                    rw [cond_true]
                    refine Mok_bad o0 o1 fs next v c (by decide) ?_
                    rw [Den_ofK _ pr_schema_state_join rfl]
                    simp only [f_schema_state_join, cells_chg, d, dw, d1, d2, d3, d4, d5, d7, hL2, t1, ← hG, ← hW, go_sem]
                  | false =>
                    rw [cond_false]
                    refine ⟨_, _, ?_, fun _ => ⟨v + 1, [], by rw [List.append_nil], by rw [List.length_nil, Nat.add_zero]⟩⟩
                    rw [Den_ofK _ pr_schema_state_join rfl]
                    generalize (less fs c.id ++ tl1).map Fld.cells = E at *
                    generalize (less (less fs c.id) c.wi ++ tl2).map Fld.cells = E2 at *
                    simp only [go_sem] at p1 r2 r4
                    simp only [f_schema_state_join, cells_chg, d, dw, d1, d2, d3, d4, d5, d7, hL2, t1, r2, r4, p1, ← hG, ← hW, go_sem]
theorem putF_id {g x : Fld} : (putF g x).id = x.id := by
  unfold putF; split
  · rename_i h; exact h.symm
  · rfl
theorem UQ.put {fs : List Fld} (u : UQ fs) (g : Fld) : UQ (fs.map (putF g)) := by
  refine ⟨?_, fun f hf => ?_⟩
  · rw [List.pairwise_map]
    exact u.rise.imp fun h => by rw [putF_id, putF_id]; exact h
  · obtain ⟨x, hx, rfl⟩ := List.mem_map.1 hf
    rw [putF_id]; exact u.pos x hx
theorem hasF_put (fs : List Fld) (g : Fld) (id : Int) : hasF (fs.map (putF g)) id = hasF fs id := by
  unfold hasF
  rw [List.any_map]
  congr 1
  funext x
  simp [putF_id]
theorem idx_put (fs : List Fld) (g : Fld) (id : Int) : idx (fs.map (putF g)) id = idx fs id := by
  unfold idx
  generalize (0 : Int) = i
  induction fs generalizing i with
  | nil => rfl
  | cons x r ih => rw [List.map_cons, idxF, idxF, putF_id, ih]
theorem getF_put {fs : List Fld} {g : Fld} (hd : hasF fs g.id = true) : getF (fs.map (putF g)) g.id = g := by
  induction fs with
  | nil => simp [hasF] at hd
  | cons x r ih =>
    rw [List.map_cons, getF, putF_id]
    by_cases hx : x.id = g.id
    · rw [if_pos hx]; unfold putF; rw [if_pos hx]
    · rw [if_neg hx]
      refine ih ?_
      unfold hasF at hd ⊢
      rw [List.any_cons] at hd
      simpa [hx] using hd
theorem tk_put (fs : List Fld) (g : Fld) : tk (fs.map (putF g)) g.par g.name [g.id] = taken fs g g.id g.id := by
  rw [← tk_one]
  unfold tk
  rw [List.any_map]
  congr 1
  refine any_congr fun x _ => ?_
  show tkB g.par g.name [g.id] (putF g x) = _
  by_cases hx : x.id = g.id
  · unfold tkB; rw [putF_id, hx]; simp
  · unfold putF; rw [if_neg hx]
theorem move_l0 {β : Type} {K : Ex × Env × St → Option β} {Z : Option β} (L : List Fld) (hl : L.length ≤ 64) (k : Int) (cs : List AV)
    (hbad : L.any (deep L) = true → ∃ e, e = [((4 : Nat), AV.int .i64 63)] ∧ ∀ x4, K (.ret, e, [o0, o1, .arr v 4 (L.map Fld.cells), .cells [.osl 2 v L.length 0 L.length, .int .i64 next], x4]) = Z)
    (hok : L.any (deep L) = false → K (.exit 0, [(0, .ref 3 0), (3, .rptr cs), (5, .int .i64 k), (59, .osl 2 v L.length 0 L.length), (60, .int .i64 L.length), (61, .int .i64 L.length), (62, .bool false)], [o0, o1, .arr v 4 (L.map Fld.cells), .cells [.osl 2 v L.length 0 L.length, .int .i64 next]]) = Z) :
    (Run prog 4 (.loop 0 [0, 3, 5, 59, 60, 61] f_schema_state_move_l0) [(0, .ref 3 0), (3, .rptr cs), (5, .int .i64 k), (59, .osl 2 v L.length 0 L.length), (60, .int .i64 L.length), (61, .int .i64 0)]
      [o0, o1, .arr v 4 (L.map Fld.cells), .cells [.osl 2 v L.length 0 L.length, .int .i64 next]]).bind K = Z := by
  refine range_ind L (by omega) (fun i (_ : Unit) => (Run prog 4 (.loop 0 [0, 3, 5, 59, 60, 61] f_schema_state_move_l0) [(0, .ref 3 0), (3, .rptr cs), (5, .int .i64 k), (59, .osl 2 v L.length 0 L.length), (60, .int .i64 L.length), (61, .int .i64 i)]
      [o0, o1, .arr v 4 (L.map Fld.cells), .cells [.osl 2 v L.length 0 L.length, .int .i64 next]]).bind K = Z)
    (fun i rest _ => rest.any (deep L) = L.any (deep L)) ?_ ?_ () rfl
  · intro _ h
    have hok := hok (by rw [← h]; rfl)
    rw [Run_loop]
    simp only [f_schema_state_move_l0_eq, f_schema_state_move_l0u, hok, go_sem]
  · intro i pre rest x _ hq _ hi0 hi1 hx hc hw h ih
    rw [List.any_cons] at h
    have hget : (L.map Fld.cells)[i.toNat]? = some [.int .i64 x.id, .str x.name, .int .i64 x.type, .int .i64 x.par] := by
      unfold getE at hx
      simp [hi0] at hx
      rw [List.getElem?_map, hx]; rfl
    have ha := schema_ancestorsX1 o0 o1 (.cells [.int .i64 x.id, .str x.name, .int .i64 x.type, .int .i64 x.par]) L next v x.id (by omega)
    have ao := anc_ok L x.id
    generalize anc L 9 x.id [] = an at *
    rw [Run_loop]
    cases d : deep L x with
    | true =>
      rw [d, Bool.true_or] at h
      unfold deep at d
      rw [d] at ao
      obtain ⟨e, he, hbad⟩ := hbad h.symm
      subst he
      simp only [f_schema_state_move_l0_eq, f_schema_state_move_l0u, hget, hi0, hi1, hc, ha, ao, hbad, go_sem]
    | false =>
      rw [d, Bool.false_or] at h
      unfold deep at d
      rw [d] at ao
      have ih := ih () h
      simp only [f_schema_state_move_l0_eq, f_schema_state_move_l0u, hget, hi0, hi1, hc, hw, ha, ao, ih, go_sem]
theorem schema_move (h : SInv fs next) (u : UQ fs) (hk : c.kind = 5) : Mok o0 o1 195 c fs next v (oneS fs next c) := by
  have hl := h.len
  have hL2 : fs.length < 1000000000000000 := by omega
  have hi := idx_lt fs c.id
  have d2 : decide (c.kind = 2) = false := by simp [hk]
  have d3 : decide (c.kind = 3) = false := by simp [hk]
  have d4 : decide (c.kind = 4) = false := by simp [hk]
  unfold oneS
  rw [d2, cond_false, d3, cond_false, d4, cond_false]
  cases d : hasF fs c.id with
  | false =>
    rw [d] at hi
    simp only [Bool.not_false, cond_true]
    refine Mok_bad o0 o1 fs next v c (by decide) ?_
    rw [Den_ofK _ pr_schema_state_move rfl]
    simp only [f_schema_state_move, cells_chg, hi, hL2, go_sem]
  | true =>
    rw [d] at hi
    simp only [Bool.not_true, cond_false]
    obtain ⟨i0, i1, i2, i3⟩ := at_field fs u d
    have hid := (getF_id d).1
    obtain ⟨g, hg⟩ : ∃ g : Fld, g = ⟨c.id, (getF fs c.id).name, (getF fs c.id).type, c.par⟩ := ⟨_, rfl⟩
    have hgi : g.id = c.id := by rw [hg]
    have i3 := i3 g hgi
    rw [hid] at i2
    have ha := schema_ancestors o0 o1 fs next v c.par (by omega)
    have ai := anc_inside fs c.id 9 c.par [] rfl (by omega)
    rw [List.any_nil, Bool.false_or] at ai
    unfold moveS
    rw [hid, show ({ id := c.id, name := (getF fs c.id).name, type := (getF fs c.id).type, par := c.par } : Fld) = g from hg.symm, ← ai]
    have hal : (anc fs 9 c.par []).1.length < 1000000000000000 := by
      have := anc_depth fs 9 c.par [] rfl (by omega)
      have key : ∀ (k : Nat) (id : Int) (out : List Int), out.length + k = 9 → (anc fs k id out).1.length ≤ 10 := by
        intro k
        induction k with
        | zero => intro id out h; rw [anc]; simp; omega
        | succ k ih =>
          intro id out h
          rw [anc]
          cases decide (id = 0) with
          | true => rw [cond_true]; simp; omega
          | false =>
            rw [cond_false]
            cases !hasF fs id || decide ((out.length : Int) = 8) with
            | true => rw [cond_true]; simp; omega
            | false => rw [cond_false]; exact ih _ _ (by simp; omega)
      have := key 9 c.par [] rfl
      omega
    generalize anc fs 9 c.par [] = an at *
    have hn : g.name.size < 1000000000000000 := by rw [hg]; exact getF_name h.nm c.id
    have u' := u.put g
    have dg : hasF fs g.id = true := by rw [hgi]; exact d
    have d' : hasF (fs.map (putF g)) c.id = true := by rw [hasF_put]; exact d
    obtain ⟨j0, j1, j2, _⟩ := at_field (fs.map (putF g)) u' d'
    rw [idx_put] at j0 j1 j2
    have hgf : getF (fs.map (putF g)) c.id = g := by rw [← hgi]; exact getF_put dg
    rw [hgf] at j2
    have hLl : (fs.map (putF g)).length = fs.length := List.length_map ..
    have ht := schema_taken o0 o1 (fs.map (putF g)) next v g.par g.name [c.id] (by omega) hn (by simp)
    have tp := tk_put fs g
    rw [hgi] at tp
    rw [tp] at ht
    simp only [List.map_cons, List.map_nil, icell] at ht
    cases d5 : groupOk fs c.par with
    | false =>
      simp only [Bool.not_false, Bool.true_or, cond_true]
      refine Mok_bad o0 o1 fs next v c (by decide) ?_
      rw [Den_ofK _ pr_schema_state_move rfl]
      simp only [f_schema_state_move, cells_chg, hi, hL2, ha, d5, go_sem]
    | true =>
      simp only [Bool.not_true, Bool.false_or]
      cases d6 : an.1.any fun x => decide (c.id = x) with
      | true =>
        rw [cond_true]
        refine Mok_bad o0 o1 fs next v c (by decide) ?_
        rw [Den_ofK _ pr_schema_state_move rfl]
        simp only [f_schema_state_move, cells_chg, hi, hL2, ha, hal, d5, d6, go_sem]
      | false =>
        rw [cond_false]
        have hgp : g.par = c.par := by rw [hg]
        obtain ⟨L, hLd⟩ : ∃ L, L = fs.map (putF g) := ⟨_, rfl⟩
        have hml := fun (K : Ex × Env × St → Option (AV × St)) Z => move_l0 o0 o1 next v (K := K) (Z := Z) L (by rw [hLd, hLl]; exact hl) (idx fs c.id) c.cells
        have hgc : g.id = c.id ∧ g.name = (getF fs c.id).name ∧ g.type = (getF fs c.id).type := by rw [hg]; exact ⟨rfl, rfl, rfl⟩
        obtain ⟨hg1, hg2, hg3⟩ := hgc
        rw [hg1, hg2, hg3, hgp] at i3
        rw [← hLd] at i3 ht j1 j2 hLl ⊢
        have hle : ((L.map Fld.cells).length) = fs.length := by rw [List.length_map, hLl]
        simp only [hLl] at hml ht j1
        cases d7 : L.any (deep L) with
        | true =>
          rw [cond_true]
          refine ⟨.arr v 4 (L.map Fld.cells), .cells [.osl 2 v fs.length 0 fs.length, .int .i64 next], ?_, fun h0 => absurd h0 (by decide)⟩
          rw [Den_ofK _ pr_schema_state_move rfl]
          simp only [cells_chg] at hml
          generalize L.map Fld.cells = E at *
          simp only [f_schema_state_move, cells_chg, hi, hL2, ha, hal, d5, d6, i0, i1, i2, i3, hle, lenO_part, go_sem]
          refine hml _ _ (fun _ => ⟨_, rfl, fun x4 => ?_⟩) (fun h => by rw [d7] at h; cases h)
          simp only [go_sem]
        | false =>
          rw [cond_false]
          cases d8 : taken fs g c.id c.id with
          | true =>
            rw [d8] at ht
            rw [cond_true]
            refine ⟨.arr v 4 (L.map Fld.cells), .cells [.osl 2 v fs.length 0 fs.length, .int .i64 next], ?_, fun h0 => absurd h0 (by decide)⟩
            rw [Den_ofK _ pr_schema_state_move rfl]
            simp only [cells_chg] at hml
            rw [hg1, hg2, hg3, hgp] at j2
            rw [hg2, hgp] at ht
            generalize L.map Fld.cells = E at *
            simp only [f_schema_state_move, cells_chg, hi, hL2, ha, hal, d5, d6, i0, i1, i2, i3, hle, lenO_part, go_sem]
            refine hml _ _ (fun h => by rw [d7] at h; cases h) (fun _ => ?_)
            simp only [cells_chg, i0, i1, j2, hle, ht, go_sem]
          | false =>
            rw [d8] at ht
            rw [cond_false]
            refine ⟨_, _, ?_, fun _ => ⟨v, [], by rw [List.append_nil], by rw [List.length_nil, Nat.add_zero]⟩⟩
            rw [Den_ofK _ pr_schema_state_move rfl]
            simp only [cells_chg] at hml
            rw [hg1, hg2, hg3, hgp] at j2
            rw [hg2, hgp] at ht
            rw [hLl]
            generalize L.map Fld.cells = E at *
            simp only [f_schema_state_move, cells_chg, hi, hL2, ha, hal, d5, d6, i0, i1, i2, i3, hle, lenO_part, go_sem]
            refine hml _ _ (fun h => by rw [d7] at h; cases h) (fun _ => ?_)
            simp only [cells_chg, i0, i1, j2, hle, ht, go_sem]
end
end Go.Den
