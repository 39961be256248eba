/- Package schema: names, groups. -/
import Derived.Test.YtghipgdajgeoiaaGreatDoorS06A
namespace Go.Den
open Go
set_option linter.unusedSimpArgs false
set_option linter.unusedVariables false
set_option maxRecDepth 100000
set_option maxHeartbeats 1000000
theorem slices_Index_int (L : List Int) (v : Int) (hL : L.length < 1000000000000000) : Den prog 176 [.sl (L.map icell), .int .i64 v] [] = some (.int .i64 (idxF (fun x => decide (v = x)) 0 L), []) := by
  rw [Den_ofK [] pr_slices_Index_int_int rfl]
  simp only [f_slices_Index_int_int, go_sem]
  refine range_ind L hL (fun i (_ : Unit) => (Run prog 0 (.loop 0 [0, 1, 7, 8] f_slices_Index_int_int_l0) [(0, .sl (L.map icell)), (1, .int .i64 v), (7, .int .i64 L.length), (8, .int .i64 i)] []).bind _ = _)
    (fun i rest _ => idxF (fun x => decide (v = x)) i rest = idxF (fun x => decide (v = x)) 0 L) ?_ ?_ () rfl
  · intro _ h
    rw [← h, Run_loop]
    simp only [f_slices_Index_int_int_l0_eq, f_slices_Index_int_int_l0u, idxF, go_sem]
  · intro i pre rest x _ hq _ hi0 hi1 hx hc hw h ih
    rw [idxF] at h
    rw [Run_loop]
    cases d : decide (v = x) with
    | true =>
      rw [d, cond_true] at h
      rw [← h]
      simp only [f_slices_Index_int_int_l0_eq, f_slices_Index_int_int_l0u, hx, hc, hw, d, icell, go_sem]
    | false =>
      rw [d, cond_false] at h
      have ih := ih () h
      simp only [f_slices_Index_int_int_l0_eq, f_slices_Index_int_int_l0u, hx, hc, hw, d, ih, icell, go_sem]
@[go_sem] theorem slices_Contains_int (L : List Int) (v : Int) (hL : L.length < 1000000000000000) : Den prog 177 [.sl (L.map icell), .int .i64 v] [] = some (.bool (L.any fun x => decide (v = x)), []) := by
  have h := slices_Index_int L v hL
  have h2 := idxF_ge (fun x => decide (v = x)) L 0 (by omega)
  rw [Den_ofK [] pr_slices_Contains_int_int rfl]
  simp only [f_slices_Contains_int_int, h, h2, go_sem]
theorem byte_le (b : UInt8) : (b.toNat : Int) ≤ 255 := by have := b.toNat_lt; omega
@[go_sem] theorem schema_named (s : ByteArray) (hL : s.size < 1000000000000000) : Den prog 178 [.str s] [] = some (.bool (nameOk s), []) := by
  rw [Den_ofK [] pr_schema_named rfl]
  have hl : s.data.toList.length < 1000000000000000 := by have := str_len s; omega
  have e : (s.data.toList.map fun b => [AV.int .u8 b.toNat]) = s.data.toList.map fun b => [AV.int .u8 (b.toNat : Int)] := rfl
  have e0 : decide (s = (⟨#[]⟩ : ByteArray)) = decide ((s.size : Int) < 1) := by
    rw [Bool.eq_iff_iff, decide_eq_true_eq, decide_eq_true_eq]
    constructor
    · rintro rfl; decide
    · intro h
      have : s.size = 0 := by omega
      exact ByteArray.size_eq_zero_iff.1 this
  simp only [f_schema_named, go_sem]
  refine range_ind s.data.toList hl (fun i (_ : Unit) => (Run prog 0 (.loop 0 [0, 6, 7, 8] f_schema_named_l0) [(0, .str s), (6, .sl (s.data.toList.map fun b => [AV.int .u8 b.toNat])), (7, .int .i64 s.data.toList.length), (8, .int .i64 i)] []).bind _ = _)
    (fun i rest _ => (rest.all fun b => nmB b.toNat) = s.data.toList.all fun b => nmB b.toNat) ?_ ?_ () rfl
  · intro _ h
    have h : (s.data.toList.all fun b => nmB b.toNat) = true := by rw [← h]; rfl
    rw [Run_loop]
    have hd : decide (1 ≤ (s.size : Int)) = !decide ((s.size : Int) < 1) := by rw [Bool.eq_iff_iff]; simp
    unfold nameOk
    rw [h, hd]
    cases d : decide ((s.size : Int) < 1) with
    | true => simp only [f_schema_named_l0_eq, f_schema_named_l0u, e0, d, go_sem]
    | false => simp only [f_schema_named_l0_eq, f_schema_named_l0u, e0, d, go_sem]
  · intro i pre rest x _ hq _ hi0 hi1 hx hc hw h ih
    rw [List.all_cons] at h
    rw [Run_loop]
    have bad : nmB (x.toNat : Int) = false → nameOk s = false := fun hx => by unfold nameOk; rw [← h, hx]; rfl
    cases d1 : decide (97 ≤ (x.toNat : Int)) <;> cases d2 : decide ((x.toNat : Int) ≤ 122) <;> cases d3 : decide (48 ≤ (x.toNat : Int)) <;> cases d4 : decide ((x.toNat : Int) ≤ 57) <;> cases d5 : decide ((x.toNat : Int) = 95)
    all_goals
      have hv : nmB (x.toNat : Int) = ((decide (97 ≤ (x.toNat : Int)) && decide ((x.toNat : Int) ≤ 122)) || (decide (48 ≤ (x.toNat : Int)) && decide ((x.toNat : Int) ≤ 57)) || decide ((x.toNat : Int) = 95)) := rfl
      rw [d1, d2, d3, d4, d5] at hv
      simp only [Bool.and_true, Bool.and_false, Bool.or_true, Bool.or_false, Bool.true_and, Bool.false_and, Bool.and_self, Bool.or_self] at hv
      rw [hv] at h bad
      first
        | (have ih := ih () (by rw [← h]; rfl)
           clear bad
           simp only [f_schema_named_l0_eq, f_schema_named_l0u, hx, hc, hw, d1, d2, d3, d4, d5, ih, go_sem]; done)
        | (have bad := bad rfl
           clear ih
           rw [bad]
           simp only [f_schema_named_l0_eq, f_schema_named_l0u, hx, hc, hw, d1, d2, d3, d4, d5, go_sem]; done)
def tkB (par : Int) (nm : ByteArray) (wo : List Int) (g : Fld) : Bool := decide (g.par = par) && (decide (g.name = nm) && !(wo.any fun x => decide (g.id = x)))
theorem schema_taken_1 (x : Fld) (par : Int) (nm : ByteArray) (wo : List Int) (hw : wo.length < 1000000000000000) :
    Den prog 179 [.agg [.int .i64 x.id, .str x.name, .int .i64 x.type, .int .i64 x.par], .rptr [.int .i64 par], .rptr [.str nm], .rptr [.sl (wo.map icell)]] [] = some (.bool (tkB par nm wo x), []) := by
  rw [Den_ofK [] pr_schema_state_taken_1 rfl]
  unfold tkB
  cases d1 : decide (x.par = par) with
  | false => simp only [f_schema_state_taken_1, d1, go_sem]
  | true => cases d2 : decide (x.name = nm) with
    | false => simp only [f_schema_state_taken_1, d1, d2, go_sem]
    | true => simp only [f_schema_state_taken_1, d1, d2, hw, go_sem]
def tk (fs : List Fld) (par : Int) (nm : ByteArray) (wo : List Int) : Bool := !nameOk nm || fs.any (tkB par nm wo)
section
variable (o0 o1 : Ob) (fs : List Fld) (next : Int) (v : Nat)
theorem schema_taken (par : Int) (nm : ByteArray) (wo : List Int) (hL : fs.length < 1000000000000) (hn : nm.size < 1000000000000000) (hw : wo.length < 1000000000000000) :
    Den prog 183 [.ref 3 0, .int .i64 par, .str nm, .sl (wo.map icell)] ([o0, o1, Ob.arr v 4 (fs.map Fld.cells), Ob.cells [AV.osl 2 v fs.length 0 fs.length, AV.int IntKind.i64 next]] : St) = some (.bool (tk fs par nm wo), ([o0, o1, Ob.arr v 4 (fs.map Fld.cells), Ob.cells [AV.osl 2 v fs.length 0 fs.length, AV.int IntKind.i64 next]] : St)) := by
  have h := ContainsFunc_Fld fs (by omega) 179 [.rptr [.int .i64 par], .rptr [.str nm], .rptr [.sl (wo.map icell)]] (tkB par nm wo) rfl rfl (fun x _ => schema_taken_1 x par nm wo hw)
  rw [Den_ofK _ pr_schema_state_taken rfl]
  unfold tk
  cases d : nameOk nm with
  | false => simp only [f_schema_state_taken, hn, d, go_sem]
  | true => simp only [f_schema_state_taken, hn, d, h, List.take_length, go_sem]
end
end Go.Den
