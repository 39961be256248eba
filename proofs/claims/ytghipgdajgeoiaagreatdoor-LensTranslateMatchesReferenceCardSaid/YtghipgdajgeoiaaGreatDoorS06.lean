
import Derived.Test.YtghipgdajgeoiaaGreatDoorDenLp
import Derived.Test.YtghipgdajgeoiaaGreatDoorTy
import Derived.Test.YtghipgdajgeoiaaGreatDoorFn7Z
/-! Schemas: the fields. -/
namespace Go.Den
open Go
set_option linter.unusedSimpArgs false
set_option linter.unusedVariables false
set_option maxRecDepth 100000
set_option maxHeartbeats 1000000
structure Fld where
  id : Int
  name : ByteArray
  type : Int
  par : Int
deriving DecidableEq
def Fld.cells (f : Fld) : List AV := [.int .i64 f.id, .str f.name, .int .i64 f.type, .int .i64 f.par]
structure Sch where
  fs : List Fld
  next : Int
def Sch.cells (s : Sch) : List AV := [.sl (s.fs.map Fld.cells), .int .i64 s.next]
attribute [go_sem] Fld.cells Sch.cells
/-- The field with a number, or a void one. -/
def noF : Fld := ⟨0, ⟨#[]⟩, 0, 0⟩
def hasF (fs : List Fld) (id : Int) : Bool := fs.any fun f => decide (f.id = id)
def getF : List Fld → Int → Fld
  | [], _ => noF
  | f :: r, id => if f.id = id then f else getF r id
@[go_sem] theorem R06_Field (fs : List Fld) (n id : Int) (hL : fs.length < 1000000000000000) : Den prog 47 [.agg [.sl (fs.map Fld.cells), .int .i64 n], .int .i64 id] [] =
    some (.tup [.agg [.int .i64 (getF fs id).id, .str (getF fs id).name, .int .i64 (getF fs id).type, .int .i64 (getF fs id).par], .bool (hasF fs id)], []) := by
  rw [Den_ofK [] pr_R06_Field rfl]
  simp only [f_R06_Field, go_sem]
  refine range_ind fs hL (fun i (_ : Unit) => (Run prog 0 (.loop 1 [1, 2, 4, 6] f_R06_Field_l0) [(1, .int .i64 id), (2, .rptr [.sl (fs.map Fld.cells), .int .i64 n]), (4, .ref 0 0), (6, .int .i64 i)] [.cells [.int .i64 0, .str ⟨#[]⟩, .int .i64 0, .int .i64 0]]).bind _ = _) (fun i rest _ => getF rest id = getF fs id ∧ hasF rest id = hasF fs id) ?_ ?_ () ⟨rfl, rfl⟩
  · intro _ h
    obtain ⟨h, h2⟩ := h
    have h : getF fs id = noF := h.symm
    have h2 : hasF fs id = false := h2.symm
    rw [Run_loop]
    simp only [f_R06_Field_l0_eq, f_R06_Field_l0u, h, h2, noF, go_sem]
  · intro i pre rest x _ hp _ _ _ hx hc hw h ih
    obtain ⟨h, h2⟩ := h
    rw [Run_loop]
    by_cases hn : x.id = id
    · have hd : decide (x.id = id) = true := by simpa using hn
      have h : getF fs id = x := by rw [← h]; simp [getF, hn]
      have h2 : hasF fs id = true := by rw [← h2]; simp [hasF, hn]
      simp only [f_R06_Field_l0_eq, f_R06_Field_l0u, hx, hc, hd, h, h2, go_sem]
    · have hd : decide (x.id = id) = false := by simpa using hn
      have ih := ih () ⟨by rw [← h]; simp [getF, hn], by rw [← h2]; simp [hasF, hn]⟩
      simp only [f_R06_Field_l0_eq, f_R06_Field_l0u, hx, hc, hw, hd, ih, go_sem]
/-- A byte of a name. -/
def nmB (c : Int) : Bool := (decide (97 ≤ c) && decide (c ≤ 122)) || (decide (48 ≤ c) && decide (c ≤ 57)) || decide (c = 95)
def nameOk (s : ByteArray) : Bool := (s.data.toList.all fun b => nmB b.toNat) && (decide (1 ≤ (s.size : Int)) && decide ((s.size : Int) ≤ 32))
@[go_sem] theorem R06_Name (s : ByteArray) (hL : s.size < 1000000000000000) : Den prog 48 [.str s] [] = some (.bool (nameOk s), []) := by
  rw [Den_ofK [] pr_R06_Name rfl]
  have hs := str_len s
  simp only [f_R06_Name, go_sem]
  refine range_ind s.data.toList (by omega) (fun i (_ : Unit) => (Run prog 0 (.loop 0 [0, 3] f_R06_Name_l0) [(0, .str s), (3, .int .i64 i)] []).bind _ = _) (fun i rest _ => (rest.all fun b => nmB b.toNat) = s.data.toList.all fun b => nmB b.toNat) ?_ ?_ () rfl
  · intro _ h
    have h : (s.data.toList.all fun b => nmB b.toNat) = true := h.symm
    rw [Run_loop]
    simp only [nameOk, h]
    clear h
    cases h1 : decide (1 ≤ (s.size : Int)) <;> cases h2 : decide ((s.size : Int) ≤ 32) <;> 
    simp only [hs] at h1 h2 ⊢ <;>
    simp only [f_R06_Name_l0_eq, f_R06_Name_l0u, hs, h1, h2, go_sem]
  · intro i pre rest x _ hp _ _ _ hx hc hw h ih
    rw [Run_loop]
    cases hk : nmB x.toNat with
    | false =>
      have h : nameOk s = false := by rw [nameOk, ← h]; simp [hk]
      simp only [h]; clear h
      simp only [nmB] at hk
      cases h1 : decide (97 ≤ (x.toNat : Int)) <;> cases h2 : decide ((x.toNat : Int) ≤ 122) <;> cases h3 : decide (48 ≤ (x.toNat : Int)) <;> cases h4 : decide ((x.toNat : Int) ≤ 57) <;> cases h5 : decide ((x.toNat : Int) = 95) <;>
      simp only [h1, h2, h3, h4, h5, Bool.true_and, Bool.false_and, Bool.or_false, Bool.or_true, Bool.true_or, reduceCtorEq] at hk <;>
      simp only [f_R06_Name_l0_eq, f_R06_Name_l0u, hs, hx, hc, h1, h2, h3, h4, h5, go_sem]
    | true =>
      have ih := ih () (by rw [← h]; simp [hk])
      clear h
      simp only [nmB] at hk
      cases h1 : decide (97 ≤ (x.toNat : Int)) <;> cases h2 : decide ((x.toNat : Int) ≤ 122) <;> cases h3 : decide (48 ≤ (x.toNat : Int)) <;> cases h4 : decide ((x.toNat : Int) ≤ 57) <;> cases h5 : decide ((x.toNat : Int) = 95) <;>
      simp only [h1, h2, h3, h4, h5, Bool.true_and, Bool.and_false, Bool.false_and, Bool.or_false, Bool.or_true, Bool.true_or, reduceCtorEq] at hk <;>
      simp only [f_R06_Name_l0_eq, f_R06_Name_l0u, hs, hx, hc, hw, h1, h2, h3, h4, h5, ih, go_sem]
/-- A number is 0 or that of a group. -/
def groupOk (fs : List Fld) (id : Int) : Bool := decide (id = 0) || (hasF fs id && decide ((getF fs id).type = 6))
@[go_sem] theorem R06_group (fs : List Fld) (n id : Int) (hL : fs.length < 1000000000000000) : Den prog 49 [.agg [.sl (fs.map Fld.cells), .int .i64 n], .int .i64 id] [] = some (.bool (groupOk fs id), []) := by
  rw [Den_ofK [] pr_R06_group rfl]
  simp only [groupOk]
  cases h1 : decide (id = 0) <;> cases h2 : hasF fs id <;> cases h3 : decide ((getF fs id).type = 6) <;>
  simp only [f_R06_group, hL, h1, h2, h3, go_sem]
/-- The steps from a field up to the top. -/
def depth (fs : List Fld) : Nat → Int → Int → Int
  | 0, _, n => n
  | k + 1, id, n => if id = 0 then n else if hasF fs id then depth fs k (getF fs id).par (n + 1) else 9
@[go_sem] theorem R06_depth (fs : List Fld) (m id : Int) (hL : fs.length < 1000000000000000) : Den prog 50 [.agg [.sl (fs.map Fld.cells), .int .i64 m], .int .i64 id] [] = some (.int .i64 (depth fs 9 id 0), []) := by
  rw [Den_ofK [] pr_R06_depth rfl]
  simp only [f_R06_depth, go_sem]
  refine fuel_ind (fun k (a : Int × Int) => 0 ≤ a.2 → a.2 + k = 9 → (Run prog 0 (.loop 0 [1, 2, 5] f_R06_depth_l0) [(1, .int .i64 a.1), (2, .rptr [.sl (fs.map Fld.cells), .int .i64 m]), (5, .int .i64 a.2)] []).bind _ = some (AV.int .i64 (depth fs k a.1 a.2), [])) ?_ ?_ 9 (id, 0) (by simp) (by simp)
  · intro a h0 h1
    rw [Run_loop]
    have h8 : decide (a.2 ≤ 8) = false := by simp; omega
    cases hz : decide (a.1 = 0) <;>
    simp only [f_R06_depth_l0_eq, f_R06_depth_l0u, depth, hz, h8, go_sem]
  · intro k a ih h0 h1
    have h8 : decide (a.2 ≤ 8) = true := by simp; omega
    have hw : IntKind.wrap .i64 (a.2 + 1) = a.2 + 1 := wrap_i64 (by omega) (by omega)
    have ih := ih ((getF fs a.1).par, a.2 + 1) (by simp; omega) (by simp; omega)
    rw [Run_loop]
    by_cases hz : a.1 = 0
    · have hzd : decide (a.1 = 0) = true := by simpa using hz
      simp only [f_R06_depth_l0_eq, f_R06_depth_l0u, depth, hz, hzd, h8, go_sem]
    · have hzd : decide (a.1 = 0) = false := by simpa using hz
      cases hh : hasF fs a.1 <;>
      simp only [f_R06_depth_l0_eq, f_R06_depth_l0u, depth, hz, hzd, h8, hh, hL, hw, ih, Bool.false_eq_true, go_sem]
end Go.Den

/-! Schemas: parts of a change. -/
namespace Go.Den
open Go
set_option linter.unusedSimpArgs false
set_option linter.unusedVariables false
set_option maxRecDepth 100000
set_option maxHeartbeats 1000000
/-- A name is used in a group, or is none. -/
def takenB (f : Fld) (a b : Int) (g : Fld) : Bool := decide (g.par = f.par) && (decide (g.name = f.name) && (!decide (g.id = a) && !decide (g.id = b)))
def taken (fs : List Fld) (f : Fld) (a b : Int) : Bool := fs.any (takenB f a b) || !nameOk f.name
@[go_sem] theorem R06_taken (fs : List Fld) (n i0 : Int) (nm : ByteArray) (ty pa a b : Int) (hL : fs.length < 1000000000000000) (hn : nm.size < 1000000000000000) :
    Den prog 51 [.agg [.sl (fs.map Fld.cells), .int .i64 n], .agg [.int .i64 i0, .str nm, .int .i64 ty, .int .i64 pa], .agg [.int .i64 a, .int .i64 b]] [] = some (.bool (taken fs ⟨i0, nm, ty, pa⟩ a b), []) := by
  rw [Den_ofK [] pr_R06_taken rfl]
  simp only [f_R06_taken, go_sem]
  refine range_ind fs hL (fun i (_ : Unit) => (Run prog 0 (.loop 0 [3, 4, 5, 7] f_R06_taken_l0) [(3, .rptr [.sl (fs.map Fld.cells), .int .i64 n]), (4, .rptr [.int .i64 i0, .str nm, .int .i64 ty, .int .i64 pa]), (5, .rptr [.int .i64 a, .int .i64 b]), (7, .int .i64 i)] []).bind _ = _) (fun i rest _ => rest.any (takenB ⟨i0, nm, ty, pa⟩ a b) = fs.any (takenB ⟨i0, nm, ty, pa⟩ a b)) ?_ ?_ () rfl
  · intro _ h
    have h : fs.any (takenB ⟨i0, nm, ty, pa⟩ a b) = false := h.symm
    rw [Run_loop]
    simp only [f_R06_taken_l0_eq, f_R06_taken_l0u, taken, h, hn, Bool.false_or, go_sem]
  · intro i pre rest x _ hp _ _ _ hx hc hw h ih
    rw [Run_loop]
    cases hk : takenB ⟨i0, nm, ty, pa⟩ a b x with
    | true =>
      have h : taken fs ⟨i0, nm, ty, pa⟩ a b = true := by rw [taken, ← h]; simp [hk]
      clear ih hp
      simp only [takenB, Bool.and_eq_true, Bool.not_eq_true'] at hk
      obtain ⟨h1, h2, h3, h4⟩ := hk
      simp only [f_R06_taken_l0_eq, f_R06_taken_l0u, hx, hc, h, h1, h2, h3, h4, go_sem]
    | false =>
      have ih := ih () (by rw [← h]; simp [hk])
      clear h hp
      simp only [takenB] at hk
      cases h1 : decide (x.par = pa) with
      | false => simp only [f_R06_taken_l0_eq, f_R06_taken_l0u, hx, hc, hw, h1, ih, go_sem]
      | true => cases h2 : decide (x.name = nm) with
        | false => simp only [f_R06_taken_l0_eq, f_R06_taken_l0u, hx, hc, hw, h1, h2, ih, go_sem]
        | true => cases h3 : decide (x.id = a) with
          | true => simp only [f_R06_taken_l0_eq, f_R06_taken_l0u, hx, hc, hw, h1, h2, h3, ih, go_sem]
          | false => cases h4 : decide (x.id = b) with
            | true => simp only [f_R06_taken_l0_eq, f_R06_taken_l0u, hx, hc, hw, h1, h2, h3, h4, ih, go_sem]
            | false => simp [h1, h2, h3, h4] at hk
/-- A field and its groups, so many at most. -/
def insideF (fs : List Fld) (g : Int) : Nat → Int → Bool
  | 0, _ => false
  | k + 1, id => if id = 0 then false else if id = g then true else insideF fs g k (getF fs id).par
@[go_sem] theorem R06_inside (fs : List Fld) (m id g : Int) (hL : fs.length < 1000000000000000) : Den prog 53 [.agg [.sl (fs.map Fld.cells), .int .i64 m], .int .i64 id, .int .i64 g] [] = some (.bool (insideF fs g 9 id), []) := by
  rw [Den_ofK [] pr_R06_inside rfl]
  simp only [f_R06_inside, go_sem]
  refine fuel_ind (fun k (a : Int × Int) => 0 ≤ a.2 → a.2 + k = 9 → (Run prog 0 (.loop 0 [1, 2, 3, 7] f_R06_inside_l0) [(1, .int .i64 a.1), (2, .int .i64 g), (3, .rptr [.sl (fs.map Fld.cells), .int .i64 m]), (7, .int .i64 a.2)] []).bind _ = some (AV.bool (insideF fs g k a.1), [])) ?_ ?_ 9 (id, 0) (by simp) (by simp)
  · intro a h0 h1
    rw [Run_loop]
    have h8 : decide (a.2 ≤ 8) = false := by simp; omega
    cases hz : decide (a.1 = 0) <;>
    simp only [f_R06_inside_l0_eq, f_R06_inside_l0u, insideF, hz, h8, go_sem]
  · intro k a ih h0 h1
    have h8 : decide (a.2 ≤ 8) = true := by simp; omega
    have hw : IntKind.wrap .i64 (a.2 + 1) = a.2 + 1 := wrap_i64 (by omega) (by omega)
    have ih := ih ((getF fs a.1).par, a.2 + 1) (by simp; omega) (by simp; omega)
    rw [Run_loop]
    by_cases hz : a.1 = 0
    · have hzd : decide (a.1 = 0) = true := by simpa using hz
      simp only [f_R06_inside_l0_eq, f_R06_inside_l0u, insideF, hz, hzd, h8, go_sem]
    · have hzd : decide (a.1 = 0) = false := by simpa using hz
      by_cases hg : a.1 = g
      · have hgd : decide (a.1 = g) = true := by simpa using hg
        have h9 : insideF fs g (k + 1) a.1 = true := by simp [insideF, hz, hg, hg ▸ hz]
        simp only [f_R06_inside_l0_eq, f_R06_inside_l0u, h9, hzd, hgd, h8, go_sem]
      · have hgd : decide (a.1 = g) = false := by simpa using hg
        simp only [f_R06_inside_l0_eq, f_R06_inside_l0u, insideF, hz, hg, hzd, hgd, h8, hL, hw, ih, go_sem]
def keepB (a b : Int) (f : Fld) : Bool := !decide (f.id = a) && !decide (f.id = b)
@[go_sem] theorem R06_without (fs : List Fld) (n a b : Int) (hL : fs.length < 1000000000000) : Den prog 55 [.agg [.sl (fs.map Fld.cells), .int .i64 n], .agg [.int .i64 a, .int .i64 b]] [] = some (.agg [.sl ((fs.filter (keepB a b)).map Fld.cells), .int .i64 n], []) := by
  rw [Den_ofK [] pr_R06_without rfl]
  simp only [f_R06_without, go_sem]
  refine range_ind fs (by omega) (fun i (out : List Fld) => (Run prog 0 (.loop 3 [2, 3, 4, 5, 6] f_R06_without_l0) [(2, .rptr [.sl (fs.map Fld.cells), .int .i64 n]), (3, .rptr [.int .i64 a, .int .i64 b]), (4, .ref 0 0), (5, .ref 2 0), (6, .int .i64 i)] [.cells [.nils, .int .i64 0], .arr 0 4 (out.map Fld.cells), .cells [.osl 1 0 out.length 0 out.length, .int .i64 n]]).bind _ = _) (fun i rest out => out ++ rest.filter (keepB a b) = fs.filter (keepB a b) ∧ (out.length : Int) ≤ i) ?_ ?_ [] ⟨by simp, by simp⟩
  · intro out ⟨h, _⟩
    have h : fs.filter (keepB a b) = out := by rw [← h]; simp
    rw [Run_loop]
    simp only [f_R06_without_l0_eq, f_R06_without_l0u, h, go_sem]
  · intro i pre rest x out hp _ hi0 hi1 hx hc hw ⟨h, hl⟩ ih
    have hb : (out.length + 1) * 40 ≤ 140737488355328 := by clear hw hx hc ih h hp; omega
    rw [Run_loop]
    cases hk : keepB a b x with
    | true =>
      have ih := ih (out ++ [x]) ⟨by rw [← h]; simp [hk], by simp; omega⟩
      clear h hp
      simp only [keepB, Bool.and_eq_true, Bool.not_eq_true'] at hk
      obtain ⟨h1, h2⟩ := hk
      simp only [go_sem] at ih
      simp only [f_R06_without_l0_eq, f_R06_without_l0u, hx, hc, hw, h1, h2, hb, ih, go_sem]
    | false =>
      have ih := ih out ⟨by rw [← h]; simp [hk], by omega⟩
      clear h hp
      simp only [keepB] at hk
      cases h1 : decide (x.id = a) with
      | true => simp only [f_R06_without_l0_eq, f_R06_without_l0u, hx, hc, hw, h1, ih, go_sem]
      | false => cases h2 : decide (x.id = b) with
        | true => simp only [f_R06_without_l0_eq, f_R06_without_l0u, hx, hc, hw, h1, h2, ih, go_sem]
        | false => simp [h1, h2] at hk
def putF (f : Fld) (g : Fld) : Fld := if g.id = f.id then f else g
@[go_sem] theorem R06_with (fs : List Fld) (n i0 : Int) (nm : ByteArray) (ty pa : Int) (hL : fs.length < 1000000000000) : Den prog 54 [.agg [.sl (fs.map Fld.cells), .int .i64 n], .agg [.int .i64 i0, .str nm, .int .i64 ty, .int .i64 pa]] [] = some (.agg [.sl ((fs.map (putF ⟨i0, nm, ty, pa⟩)).map Fld.cells), .int .i64 n], []) := by
  rw [Den_ofK [] pr_R06_with rfl]
  simp only [f_R06_with, go_sem]
  refine range_ind fs (by omega) (fun i (out : List Fld) => (Run prog 0 (.loop 3 [2, 3, 4, 5, 6] f_R06_with_l0) [(2, .rptr [.sl (fs.map Fld.cells), .int .i64 n]), (3, .rptr [.int .i64 i0, .str nm, .int .i64 ty, .int .i64 pa]), (4, .ref 0 0), (5, .ref 2 0), (6, .int .i64 i)] [.cells [.nils, .int .i64 0], .arr 0 4 (out.map Fld.cells), .cells [.osl 1 0 out.length 0 out.length, .int .i64 n]]).bind _ = _) (fun i rest out => out ++ rest.map (putF ⟨i0, nm, ty, pa⟩) = fs.map (putF ⟨i0, nm, ty, pa⟩) ∧ (out.length : Int) ≤ i) ?_ ?_ [] ⟨by simp, by simp⟩
  · intro out ⟨h, _⟩
    have h : fs.map (putF ⟨i0, nm, ty, pa⟩) = out := by rw [← h]; simp
    rw [Run_loop]
    simp only [f_R06_with_l0_eq, f_R06_with_l0u, h, go_sem]
  · intro i pre rest x out hp _ hi0 hi1 hx hc hw ⟨h, hl⟩ ih
    have hb : (out.length + 1) * 40 ≤ 140737488355328 := by clear hw hx hc ih h hp; omega
    have ih := ih (out ++ [putF ⟨i0, nm, ty, pa⟩ x]) ⟨by rw [← h]; simp, by simp; omega⟩
    clear h hp
    rw [Run_loop]
    by_cases hk : x.id = i0
    · have hd : decide (x.id = i0) = true := by simpa using hk
      simp only [putF, hk, go_sem] at ih
      simp only [f_R06_with_l0_eq, f_R06_with_l0u, hx, hc, hw, hd, hb, ih, go_sem]
    · have hd : decide (x.id = i0) = false := by simpa using hk
      simp only [putF, hk, go_sem] at ih
      simp only [f_R06_with_l0_eq, f_R06_with_l0u, hx, hc, hw, hd, hb, ih, go_sem]
@[go_sem] theorem R06_plus (fs : List Fld) (n i0 : Int) (nm : ByteArray) (ty pa : Int) (hL : fs.length < 1000000000000) (h0 : 0 ≤ n) (hn : n < 1000000000000) : Den prog 52 [.agg [.sl (fs.map Fld.cells), .int .i64 n], .agg [.int .i64 i0, .str nm, .int .i64 ty, .int .i64 pa]] [] = some (.agg [.sl ((fs ++ [Fld.mk n nm ty pa]).map Fld.cells), .int .i64 (n + 1)], []) := by
  rw [Den_ofK [] pr_R06_plus rfl]
  have hw : IntKind.wrap .i64 (n + 1) = n + 1 := wrap_i64 (by omega) (by omega)
  have hb : fs.length * 40 ≤ 140737488355328 := by omega
  have hb2 : (fs.length + 1) * 40 ≤ 140737488355328 := by omega
  simp only [f_R06_plus, hw, hb, hb2, go_sem]
@[go_sem] theorem R06_New : Den prog 62 [] [] = some (.agg [.sl [], .int .i64 1], []) := by
  rw [Den_ofK [] pr_R06_New rfl]
  simp only [f_R06_New, go_sem]
def sepOk (s : ByteArray) : Bool := decide (1 ≤ (s.size : Int)) && decide ((s.size : Int) ≤ 16)
@[go_sem] theorem R06_sep (s : ByteArray) : Den prog 57 [.str s] [] = some (.bool (sepOk s), []) := by
  rw [Den_ofK [] pr_R06_sep rfl]
  simp only [sepOk]
  cases h1 : decide (1 ≤ (s.size : Int)) <;> cases h2 : decide ((s.size : Int) ≤ 16) <;>
  simp only [f_R06_sep, h1, h2, go_sem]
end Go.Den

/-! Schemas: changes. -/
namespace Go.Den
open Go
set_option linter.unusedSimpArgs false
set_option linter.unusedVariables false
set_option maxRecDepth 100000
set_option maxHeartbeats 1000000
structure Chg where
  kind : Int
  id : Int
  wi : Int
  name : ByteArray
  other : ByteArray
  type : Int
  par : Int
  sep : ByteArray
def Chg.cells (c : Chg) : List AV := [.int .i64 c.kind, .int .i64 c.id, .int .i64 c.wi, .str c.name, .str c.other, .int .i64 c.type, .int .i64 c.par, .str c.sep]
attribute [go_sem] Chg.cells
/-- A schema and an error. -/
structure SR where
  fs : List Fld
  next : Int
  e : Int
def SR.av (r : SR) : AV := .tup [.agg [.sl (r.fs.map Fld.cells), .int .i64 r.next], .int .i64 r.e]
def bad (e : Int) : SR := ⟨[], 0, e⟩
theorem bad_fs (e : Int) : (bad e).fs = [] := rfl
theorem bad_next (e : Int) : (bad e).next = 0 := rfl
theorem bad_e (e : Int) : (bad e).e = e := rfl
attribute [go_sem] SR.av bad_fs bad_next bad_e
/-- What is asked of a schema so that the code runs through. -/
structure SOK (fs : List Fld) (next : Int) : Prop where
  len : fs.length < 1000000000
  n0 : 0 ≤ next
  n1 : next < 1000000000000
  nm : ∀ f ∈ fs, f.name.size < 1000000000000000
theorem getF_name {fs : List Fld} (h : ∀ f ∈ fs, f.name.size < 1000000000000000) (id : Int) : (getF fs id).name.size < 1000000000000000 := by
  induction fs with
  | nil => simp [getF, noF, ByteArray.size]
  | cons f r ih =>
    rw [getF]
    split
    · exact h f (by simp)
    · exact ih fun g hg => h g (by simp [hg])
theorem if_bool {α : Type} (b : Bool) (x y : α) : (if b = true then x else y) = bif b then x else y := by cases b <;> rfl
def addS (fs : List Fld) (next : Int) (c : Chg) : SR :=
  bif decide (c.type < 1) || decide (6 < c.type) then bad 7 else
  bif !groupOk fs c.par || decide (8 ≤ depth fs 9 c.par 0) then bad 63 else
  bif taken fs ⟨0, c.name, c.type, c.par⟩ 0 0 then bad 60 else
  bif decide (64 ≤ (fs.length : Int)) || decide (1073741824 ≤ next) then bad 2 else ⟨fs ++ [⟨next, c.name, c.type, c.par⟩], next + 1, 0⟩
theorem R06_add (fs : List Fld) (next : Int) (c : Chg) (h : SOK fs next) (hc : c.name.size < 1000000000000000) : Den prog 58 [.agg [.sl (fs.map Fld.cells), .int .i64 next], .agg c.cells] [] = some ((addS fs next c).av, []) := by
  have hL1 : fs.length < 1000000000000 := by have := h.len; omega
  have hL2 : fs.length < 1000000000000000 := by have := h.len; omega
  have h0 := h.n0
  have h1 := h.n1
  rw [Den_ofK [] pr_R06_add rfl]
  simp only [addS]
  cases d1 : decide (c.type < 1) with
  | true => simp only [f_R06_add, d1, cond_true, Bool.true_or, go_sem]
  | false =>
  cases d2 : decide (6 < c.type) with
  | true => simp only [f_R06_add, d1, d2, cond_true, Bool.or_true, go_sem]
  | false =>
  cases d3 : groupOk fs c.par with
  | false => simp only [f_R06_add, d1, d2, d3, hL2, cond_true, cond_false, Bool.or_false, Bool.not_false, Bool.true_or, go_sem]
  | true =>
  cases d4 : decide (8 ≤ depth fs 9 c.par 0) with
  | true => simp only [f_R06_add, d1, d2, d3, d4, hL2, cond_true, cond_false, Bool.or_true, Bool.or_false, Bool.not_true, go_sem]
  | false =>
  cases d5 : taken fs ⟨0, c.name, c.type, c.par⟩ 0 0 with
  | true => simp only [f_R06_add, d1, d2, d3, d4, d5, hL2, hc, cond_true, cond_false, Bool.or_true, Bool.or_false, Bool.not_true, go_sem]
  | false =>
  cases d6 : decide (64 ≤ (fs.length : Int)) with
  | true => simp only [f_R06_add, d1, d2, d3, d4, d5, d6, hL2, hc, cond_true, cond_false, Bool.or_true, Bool.true_or, Bool.or_false, Bool.not_true, go_sem]
  | false =>
  cases d7 : decide (1073741824 ≤ next) with
  | true => simp only [f_R06_add, d1, d2, d3, d4, d5, d6, d7, hL2, hc, cond_true, cond_false, Bool.or_true, Bool.or_false, Bool.not_true, go_sem]
  | false => simp only [f_R06_add, d1, d2, d3, d4, d5, d6, d7, hL1, hL2, hc, h0, h1, cond_true, cond_false, Bool.or_true, Bool.or_false, Bool.not_true, go_sem]
def deep (fs : List Fld) (f : Fld) : Bool := decide (8 < depth fs 9 f.id 0)
def moveS (fs : List Fld) (next : Int) (f : Fld) (par : Int) : SR :=
  bif !groupOk fs par || insideF fs f.id 9 par then bad 63 else
  bif (fs.map (putF { f with par := par })).any (deep (fs.map (putF { f with par := par }))) then bad 63 else
  bif taken fs { f with par := par } f.id f.id then bad 60 else ⟨fs.map (putF { f with par := par }), next, 0⟩
@[go_sem] theorem R06_move (fs : List Fld) (next : Int) (i0 : Int) (nm : ByteArray) (ty pa par : Int) (hL : fs.length < 1000000000) (hn : nm.size < 1000000000000000) : Den prog 56 [.agg [.sl (fs.map Fld.cells), .int .i64 next], .agg [.int .i64 i0, .str nm, .int .i64 ty, .int .i64 pa], .int .i64 par] [] = some ((moveS fs next ⟨i0, nm, ty, pa⟩ par).av, []) := by
  have hL1 : fs.length < 1000000000000 := by omega
  have hL2 : fs.length < 1000000000000000 := by omega
  rw [Den_ofK [] pr_R06_move rfl]
  simp only [moveS]
  cases d1 : groupOk fs par with
  | false => simp only [f_R06_move, d1, hL2, cond_true, Bool.true_or, Bool.not_false, go_sem]
  | true =>
  cases d2 : insideF fs i0 9 par with
  | true => simp only [f_R06_move, d1, d2, hL2, cond_true, Bool.or_true, Bool.not_true, go_sem]
  | false =>
  generalize hout : fs.map (putF ⟨i0, nm, ty, par⟩) = out
  have ho : out.length = fs.length := by rw [← hout]; simp
  simp only [f_R06_move, d1, d2, hL1, hL2, hout, cond_false, Bool.or_true, Bool.or_false, Bool.not_true, go_sem]
  refine range_ind out (by omega) (fun i (_ : Unit) => (Run prog 0 (.loop 3 [3, 4, 6, 8, 9] f_R06_move_l0) [(3, .rptr [.sl (fs.map Fld.cells), .int .i64 next]), (4, .ref 0 0), (6, .ref 1 0), (8, .ref 2 0), (9, .int .i64 i)] [.cells [.int .i64 i0, .str nm, .int .i64 ty, .int .i64 par], .cells [.nils, .int .i64 0], .cells [.sl (out.map Fld.cells), .int .i64 next]]).bind _ = _) (fun i rest _ => rest.any (deep out) = out.any (deep out)) ?_ ?_ () rfl
  · intro _ h
    have h : out.any (deep out) = false := h.symm
    rw [Run_loop]
    cases d3 : taken fs ⟨i0, nm, ty, par⟩ i0 i0 <;>
    simp only [f_R06_move_l0_eq, f_R06_move_l0u, h, d3, hL2, hn, cond_true, cond_false, go_sem]
  · intro i pre rest x _ hp _ _ _ hx hc hw h ih
    have ho2 : out.length < 1000000000000000 := by clear hw hx hc ih h hp; omega
    rw [Run_loop]
    cases hk : deep out x with
    | true =>
      have h : out.any (deep out) = true := by rw [← h]; simp [hk]
      clear ih hp
      simp only [deep] at hk
      simp only [f_R06_move_l0_eq, f_R06_move_l0u, hx, hc, h, hk, ho2, cond_true, go_sem]
    | false =>
      have ih := ih () (by rw [← h]; simp [hk])
      clear h hp
      simp only [deep] at hk
      simp only [f_R06_move_l0_eq, f_R06_move_l0u, hx, hc, hk, hw, ho2, ih, go_sem]
end Go.Den

/-! Schemas: Apply. -/
namespace Go.Den
open Go
set_option linter.unusedSimpArgs false
set_option linter.unusedVariables false
set_option maxRecDepth 100000
set_option maxHeartbeats 1000000
def oneS (fs : List Fld) (next : Int) (c : Chg) : SR :=
  bif !hasF fs c.id then bad 61 else
  bif decide (c.kind = 2) then
    bif fs.any (fun g => decide (g.par = (getF fs c.id).id)) then bad 63 else ⟨fs.filter (keepB (getF fs c.id).id (getF fs c.id).id), next, 0⟩
  else bif decide (c.kind = 3) then
    bif taken fs { getF fs c.id with name := c.name } (getF fs c.id).id (getF fs c.id).id then bad 60 else ⟨fs.map (putF { getF fs c.id with name := c.name }), next, 0⟩
  else bif decide (c.kind = 4) then
    bif !decide ((getF fs c.id).type = 2) then bad 62 else ⟨fs.map (putF { getF fs c.id with type := 3 }), next, 0⟩
  else moveS fs next (getF fs c.id) c.par
theorem R06_one (fs : List Fld) (next : Int) (c : Chg) (h : SOK fs next) (hc : c.name.size < 1000000000000000) : Den prog 59 [.agg [.sl (fs.map Fld.cells), .int .i64 next], .agg c.cells] [] = some ((oneS fs next c).av, []) := by
  have hL1 : fs.length < 1000000000000 := by have := h.len; omega
  have hL2 : fs.length < 1000000000000000 := by have := h.len; omega
  have hL3 := h.len
  have hn := getF_name h.nm c.id
  rw [Den_ofK [] pr_R06_one rfl]
  simp only [oneS]
  cases d1 : hasF fs c.id with
  | false => simp only [f_R06_one, d1, hL2, cond_true, Bool.not_false, go_sem]
  | true =>
  cases d2 : decide (c.kind = 2) with
  | true =>
    simp only [f_R06_one, d1, d2, hL2, cond_true, cond_false, Bool.not_true, go_sem]
    refine range_ind fs (by omega) (fun i (_ : Unit) => (Run prog 0 (.loop 2 [2, 4, 6, 8] f_R06_one_l0) [(2, .rptr [.sl (fs.map Fld.cells), .int .i64 next]), (4, .ref 0 0), (6, .ref 1 0), (8, .int .i64 i)] [.cells [.nils, .int .i64 0], .cells [.int .i64 (getF fs c.id).id, .str (getF fs c.id).name, .int .i64 (getF fs c.id).type, .int .i64 (getF fs c.id).par]]).bind _ = _) (fun i rest _ => rest.any (fun g => decide (g.par = (getF fs c.id).id)) = fs.any (fun g => decide (g.par = (getF fs c.id).id))) ?_ ?_ () rfl
    · intro _ h
      have h : fs.any (fun g => decide (g.par = (getF fs c.id).id)) = false := h.symm
      rw [Run_loop]
      simp only [f_R06_one_l0_eq, f_R06_one_l0u, h, hL1, cond_true, cond_false, go_sem]
    · intro i pre rest x _ hp _ _ _ hx hc hw h ih
      rw [Run_loop]
      cases hk : decide (x.par = (getF fs c.id).id) with
      | true =>
        have h : fs.any (fun g => decide (g.par = (getF fs c.id).id)) = true := by rw [← h]; simp [hk]
        clear ih hp
        simp only [f_R06_one_l0_eq, f_R06_one_l0u, hx, hc, h, hk, cond_true, go_sem]
      | false =>
        have ih := ih () (by rw [← h]; simp [hk])
        clear h hp
        simp only [f_R06_one_l0_eq, f_R06_one_l0u, hx, hc, hk, hw, ih, go_sem]
  | false =>
  cases d3 : decide (c.kind = 3) with
  | true =>
    cases d4 : taken fs ⟨(getF fs c.id).id, c.name, (getF fs c.id).type, (getF fs c.id).par⟩ (getF fs c.id).id (getF fs c.id).id <;>
    simp only [f_R06_one, d1, d2, d3, d4, hL1, hL2, hc, cond_true, cond_false, Bool.not_true, go_sem]
  | false =>
  cases d4 : decide (c.kind = 4) with
  | true =>
    cases d5 : decide ((getF fs c.id).type = 2) <;>
    simp only [f_R06_one, d1, d2, d3, d4, d5, hL1, hL2, hc, cond_true, cond_false, Bool.not_true, Bool.not_false, go_sem]
  | false =>
    simp only [f_R06_one, d1, d2, d3, d4, hL3, hL2, hn, cond_true, cond_false, Bool.not_true, Bool.not_false, go_sem]
def splitS (fs : List Fld) (next : Int) (c : Chg) : SR :=
  bif !hasF fs c.id then bad 61 else
  bif !decide ((getF fs c.id).type = 4) then bad 7 else
  bif !sepOk c.sep then bad 1 else
  bif taken fs ⟨0, c.name, 4, (getF fs c.id).par⟩ (getF fs c.id).id (getF fs c.id).id || (taken fs ⟨0, c.other, 4, (getF fs c.id).par⟩ (getF fs c.id).id (getF fs c.id).id || decide (c.name = c.other)) then bad 60 else
  bif decide (64 ≤ (fs.length : Int)) || decide (1073741822 < next) then bad 2 else
  ⟨fs.filter (keepB (getF fs c.id).id (getF fs c.id).id) ++ [⟨next, c.name, 4, (getF fs c.id).par⟩] ++ [⟨next + 1, c.other, 4, (getF fs c.id).par⟩], next + 1 + 1, 0⟩
theorem R06_split (fs : List Fld) (next : Int) (c : Chg) (h : SOK fs next) (hc : c.name.size < 1000000000000000) (hd : c.other.size < 1000000000000000) : Den prog 60 [.agg [.sl (fs.map Fld.cells), .int .i64 next], .agg c.cells] [] = some ((splitS fs next c).av, []) := by
  have hL1 : fs.length < 1000000000000 := by have := h.len; omega
  have hL2 : fs.length < 1000000000000000 := by have := h.len; omega
  have hL3 : ∀ a b, (fs.filter (keepB a b)).length < 1000000000000 := fun a b => by have := List.length_filter_le (keepB a b) fs; omega
  have hL4 : ∀ a b, (fs.filter (keepB a b)).length + 1 < 1000000000000 := fun a b => by have := List.length_filter_le (keepB a b) fs; have := h.len; omega
  have hn0 := h.n0
  have hn1 := h.n1
  rw [Den_ofK [] pr_R06_split rfl]
  simp only [splitS]
  cases d1 : hasF fs c.id with
  | false => simp only [f_R06_split, d1, hL2, cond_true, Bool.not_false, go_sem]
  | true =>
  cases d2 : decide ((getF fs c.id).type = 4) with
  | false => simp only [f_R06_split, d1, d2, hL2, cond_true, cond_false, Bool.not_true, Bool.not_false, go_sem]
  | true =>
  cases d3 : sepOk c.sep with
  | false => simp only [f_R06_split, d1, d2, d3, hL2, cond_true, cond_false, Bool.not_true, Bool.not_false, go_sem]
  | true =>
  cases d4 : taken fs ⟨0, c.name, 4, (getF fs c.id).par⟩ (getF fs c.id).id (getF fs c.id).id with
  | true => simp only [f_R06_split, d1, d2, d3, d4, hL2, hc, cond_true, cond_false, Bool.not_true, Bool.not_false, Bool.true_or, go_sem]
  | false =>
  cases d5 : taken fs ⟨0, c.other, 4, (getF fs c.id).par⟩ (getF fs c.id).id (getF fs c.id).id with
  | true => simp only [f_R06_split, d1, d2, d3, d4, d5, hL2, hc, hd, cond_true, cond_false, Bool.not_true, Bool.not_false, Bool.true_or, Bool.or_true, go_sem]
  | false =>
  cases d6 : decide (c.name = c.other) with
  | true => simp only [f_R06_split, d1, d2, d3, d4, d5, d6, hL2, hc, hd, cond_true, cond_false, Bool.not_true, Bool.not_false, Bool.true_or, Bool.or_true, go_sem]
  | false =>
  cases d7 : decide (64 ≤ (fs.length : Int)) with
  | true => simp only [f_R06_split, d1, d2, d3, d4, d5, d6, d7, hL2, hc, hd, cond_true, cond_false, Bool.not_true, Bool.not_false, Bool.true_or, Bool.or_false, go_sem]
  | false =>
  cases d8 : decide (1073741822 < next) with
  | true => simp only [f_R06_split, d1, d2, d3, d4, d5, d6, d7, d8, hL2, hc, hd, cond_true, cond_false, Bool.not_true, Bool.not_false, Bool.or_true, Bool.or_false, go_sem]
  | false =>
    have d8 : next ≤ 1073741822 := by simpa using d8
    have hn2 : 0 ≤ next + 1 := by omega
    have hn3 : next + 1 < 1000000000000 := by omega
    have d9 : decide (1073741822 < next) = false := by simp; omega
    have hl3 := hL3 (getF fs c.id).id (getF fs c.id).id
    have hl4 := hL4 (getF fs c.id).id (getF fs c.id).id
    have hp := R06_plus (fs.filter (keepB (getF fs c.id).id (getF fs c.id).id) ++ [Fld.mk next c.name 4 (getF fs c.id).par]) (next + 1) 0 c.other 4 (getF fs c.id).par (by rw [List.length_append]; exact hl4) hn2 hn3
    simp only [go_sem] at hp
    simp only [f_R06_split, d1, d2, d3, d4, d5, d6, d7, d9, hL2, hL1, hl3, hl4, hp, hn0, hn1, hn2, hn3, hc, hd, cond_true, cond_false, Bool.not_true, Bool.not_false, Bool.or_true, Bool.or_false, go_sem]
def joinS (fs : List Fld) (next : Int) (c : Chg) : SR :=
  bif !hasF fs c.id || (!hasF fs c.wi || decide ((getF fs c.id).id = (getF fs c.wi).id)) then bad 61 else
  bif !decide ((getF fs c.id).type = 4) || !decide ((getF fs c.wi).type = 4) then bad 7 else
  bif !decide ((getF fs c.id).par = (getF fs c.wi).par) then bad 63 else
  bif !sepOk c.sep then bad 1 else
  bif taken fs ⟨0, c.name, 4, (getF fs c.id).par⟩ (getF fs c.id).id (getF fs c.wi).id then bad 60 else
  bif decide (1073741824 ≤ next) then bad 2 else
  ⟨fs.filter (keepB (getF fs c.id).id (getF fs c.wi).id) ++ [⟨next, c.name, 4, (getF fs c.id).par⟩], next + 1, 0⟩
theorem R06_join (fs : List Fld) (next : Int) (c : Chg) (h : SOK fs next) (hc : c.name.size < 1000000000000000) : Den prog 61 [.agg [.sl (fs.map Fld.cells), .int .i64 next], .agg c.cells] [] = some ((joinS fs next c).av, []) := by
  have hL1 : fs.length < 1000000000000 := by have := h.len; omega
  have hL2 : fs.length < 1000000000000000 := by have := h.len; omega
  have hL3 : ∀ a b, (fs.filter (keepB a b)).length < 1000000000000 := fun a b => by have := List.length_filter_le (keepB a b) fs; omega
  have hn0 := h.n0
  have hn1 := h.n1
  rw [Den_ofK [] pr_R06_join rfl]
  simp only [joinS]
  cases d1 : hasF fs c.id with
  | false => cases d1' : hasF fs c.wi <;> simp only [f_R06_join, d1, d1', hL2, cond_true, Bool.not_false, Bool.not_true, Bool.true_or, go_sem]
  | true =>
  cases d2 : hasF fs c.wi with
  | false => simp only [f_R06_join, d1, d2, hL2, cond_true, Bool.not_false, Bool.not_true, Bool.true_or, Bool.or_true, go_sem]
  | true =>
  cases d3 : decide ((getF fs c.id).id = (getF fs c.wi).id) with
  | true => simp only [f_R06_join, d1, d2, d3, hL2, cond_true, cond_false, Bool.not_true, Bool.not_false, Bool.true_or, Bool.or_true, go_sem]
  | false =>
  cases d4 : decide ((getF fs c.id).type = 4) with
  | false => simp only [f_R06_join, d1, d2, d3, d4, hL2, cond_true, cond_false, Bool.not_true, Bool.not_false, Bool.true_or, Bool.or_false, go_sem]
  | true =>
  cases d5 : decide ((getF fs c.wi).type = 4) with
  | false => simp only [f_R06_join, d1, d2, d3, d4, d5, hL2, cond_true, cond_false, Bool.not_true, Bool.not_false, Bool.or_true, Bool.or_false, go_sem]
  | true =>
  cases d6 : decide ((getF fs c.id).par = (getF fs c.wi).par) with
  | false => simp only [f_R06_join, d1, d2, d3, d4, d5, d6, hL2, cond_true, cond_false, Bool.not_true, Bool.not_false, Bool.or_true, Bool.or_false, go_sem]
  | true =>
  cases d7 : sepOk c.sep with
  | false => simp only [f_R06_join, d1, d2, d3, d4, d5, d6, d7, hL2, cond_true, cond_false, Bool.not_true, Bool.not_false, Bool.or_true, Bool.or_false, go_sem]
  | true =>
  cases d8 : taken fs ⟨0, c.name, 4, (getF fs c.id).par⟩ (getF fs c.id).id (getF fs c.wi).id with
  | true => simp only [f_R06_join, d1, d2, d3, d4, d5, d6, d7, d8, hL2, hc, cond_true, cond_false, Bool.not_true, Bool.not_false, Bool.or_true, Bool.or_false, go_sem]
  | false =>
  have hl3 := hL3 (getF fs c.id).id (getF fs c.wi).id
  cases d9 : decide (1073741824 ≤ next) with
  | true => simp only [f_R06_join, d1, d2, d3, d4, d5, d6, d7, d8, d9, hL2, hc, cond_true, cond_false, Bool.not_true, Bool.not_false, Bool.or_true, Bool.or_false, go_sem]
  | false => simp only [f_R06_join, d1, d2, d3, d4, d5, d6, d7, d8, d9, hL2, hL1, hl3, hn0, hn1, hc, cond_true, cond_false, Bool.not_true, Bool.not_false, Bool.or_true, Bool.or_false, go_sem]
def applyC (fs : List Fld) (next : Int) (c : Chg) : SR :=
  if c.kind = 1 then addS fs next c else
  if c.kind = 2 ∨ c.kind = 3 ∨ c.kind = 4 ∨ c.kind = 5 then oneS fs next c else
  if c.kind = 6 then splitS fs next c else
  if c.kind = 7 then joinS fs next c else bad 1
structure COK (c : Chg) : Prop where
  name : c.name.size < 1000000000000000
  other : c.other.size < 1000000000000000
theorem R06_Apply (fs : List Fld) (next : Int) (c : Chg) (h : SOK fs next) (hc : COK c) : Den prog 63 [.agg [.sl (fs.map Fld.cells), .int .i64 next], .agg c.cells] [] = some ((applyC fs next c).av, []) := by
  have h1 := R06_add fs next c h hc.name
  have h2 := R06_one fs next c h hc.name
  have h3 := R06_split fs next c h hc.name hc.other
  have h4 := R06_join fs next c h hc.name
  rw [Den_ofK [] pr_R06_Apply rfl]
  simp only [Chg.cells] at h1 h2 h3 h4
  by_cases e1 : c.kind = 1
  · have q : applyC fs next c = addS fs next c := by simp [applyC, e1]
    rw [e1] at h1
    simp only [f_R06_Apply, q, h1, e1, decide_true, go_sem]
  by_cases e2 : c.kind = 2
  · have q : applyC fs next c = oneS fs next c := by simp [applyC, e2]
    rw [e2] at h2
    have z1 : decide ((2 : Int) = 1) = false := rfl
    simp only [f_R06_Apply, q, h2, e2, z1, decide_true, go_sem]
  by_cases e3 : c.kind = 3
  · have q : applyC fs next c = oneS fs next c := by simp [applyC, e3]
    rw [e3] at h2
    have z1 : decide ((3 : Int) = 1) = false := rfl
    have z2 : decide ((3 : Int) = 2) = false := rfl
    simp only [f_R06_Apply, q, h2, e3, z1, z2, decide_true, go_sem]
  by_cases e4 : c.kind = 4
  · have q : applyC fs next c = oneS fs next c := by simp [applyC, e4]
    rw [e4] at h2
    have z1 : decide ((4 : Int) = 1) = false := rfl
    have z2 : decide ((4 : Int) = 2) = false := rfl
    have z3 : decide ((4 : Int) = 3) = false := rfl
    simp only [f_R06_Apply, q, h2, e4, z1, z2, z3, decide_true, go_sem]
  by_cases e5 : c.kind = 5
  · have q : applyC fs next c = oneS fs next c := by simp [applyC, e5]
    rw [e5] at h2
    have z1 : decide ((5 : Int) = 1) = false := rfl
    have z2 : decide ((5 : Int) = 2) = false := rfl
    have z3 : decide ((5 : Int) = 3) = false := rfl
    have z4 : decide ((5 : Int) = 4) = false := rfl
    simp only [f_R06_Apply, q, h2, e5, z1, z2, z3, z4, decide_true, go_sem]
  have d1 : decide (c.kind = 1) = false := by simpa using e1
  have d2 : decide (c.kind = 2) = false := by simpa using e2
  have d3 : decide (c.kind = 3) = false := by simpa using e3
  have d4 : decide (c.kind = 4) = false := by simpa using e4
  have d5 : decide (c.kind = 5) = false := by simpa using e5
  by_cases e6 : c.kind = 6
  · have q : applyC fs next c = splitS fs next c := by simp [applyC, e6]
    have d6 : decide (c.kind = 6) = true := by simpa using e6
    simp only [f_R06_Apply, q, h3, d1, d2, d3, d4, d5, d6, go_sem]
  by_cases e7 : c.kind = 7
  · have q : applyC fs next c = joinS fs next c := by simp [applyC, e7]
    have d6 : decide (c.kind = 6) = false := by simpa using e6
    have d7 : decide (c.kind = 7) = true := by simpa using e7
    simp only [f_R06_Apply, q, h4, d1, d2, d3, d4, d5, d6, d7, go_sem]
  have q : applyC fs next c = bad 1 := by simp [applyC, e1, e2, e3, e4, e5, e6, e7]
  have d6 : decide (c.kind = 6) = false := by simpa using e6
  have d7 : decide (c.kind = 7) = false := by simpa using e7
  simp only [f_R06_Apply, q, d1, d2, d3, d4, d5, d6, d7, go_sem]
end Go.Den

/-! Schemas: what changes leave true; sequences of changes. -/
namespace Go.Den
open Go
set_option linter.unusedSimpArgs false
set_option linter.unusedVariables false
set_option maxRecDepth 100000
set_option maxHeartbeats 1000000
structure SInv (fs : List Fld) (next : Int) : Prop where
  len : fs.length ≤ 64
  n0 : 1 ≤ next
  n1 : next ≤ 1073741824
  nm : ∀ f ∈ fs, f.name.size < 1000000000000000
theorem SInv.ok {fs : List Fld} {next : Int} (h : SInv fs next) : SOK fs next := ⟨by have := h.len; omega, by have := h.n0; omega, by have := h.n1; omega, h.nm⟩
theorem SInv.nil : SInv [] 1 := ⟨by simp, by omega, by omega, by simp⟩
theorem bif_bad {b : Bool} {e : Int} {r : SR} (he : e ≠ 0) (h : (bif b then bad e else r).e = 0) : b = false ∧ (bif b then bad e else r) = r ∧ r.e = 0 := by
  cases b with
  | true => exact absurd h he
  | false => exact ⟨rfl, rfl, h⟩
theorem addS_inv {fs : List Fld} {next : Int} {c : Chg} (h : SInv fs next) (hc : c.name.size < 1000000000000000) (he : (addS fs next c).e = 0) : SInv (addS fs next c).fs (addS fs next c).next := by
  unfold addS at he ⊢
  obtain ⟨-, e1, he⟩ := bif_bad (by decide) he; rw [e1]
  obtain ⟨-, e1, he⟩ := bif_bad (by decide) he; rw [e1]
  obtain ⟨-, e1, he⟩ := bif_bad (by decide) he; rw [e1]
  obtain ⟨d, e1, he⟩ := bif_bad (by decide) he; rw [e1]
  simp only [Bool.or_eq_false_iff, decide_eq_false_iff_not] at d
  have := h.n0
  refine ⟨by simp; omega, by simp; omega, by simp; omega, ?_⟩
  intro f hf
  simp at hf
  rcases hf with hf | rfl
  · exact h.nm f hf
  · exact hc
theorem put_inv {fs : List Fld} {next : Int} (h : SInv fs next) (f : Fld) (hf : f.name.size < 1000000000000000) : SInv (fs.map (putF f)) next := by
  refine ⟨by simpa using h.len, h.n0, h.n1, ?_⟩
  intro g hg
  simp at hg
  obtain ⟨x, hx, rfl⟩ := hg
  unfold putF
  split
  · exact hf
  · exact h.nm x hx
theorem filter_inv {fs : List Fld} {next : Int} (h : SInv fs next) (p : Fld → Bool) : SInv (fs.filter p) next := by
  refine ⟨by have := List.length_filter_le p fs; have := h.len; omega, h.n0, h.n1, ?_⟩
  intro g hg
  simp at hg
  exact h.nm g hg.1
theorem oneS_inv {fs : List Fld} {next : Int} {c : Chg} (h : SInv fs next) (hc : c.name.size < 1000000000000000) (he : (oneS fs next c).e = 0) : SInv (oneS fs next c).fs (oneS fs next c).next := by
  have hn := getF_name h.nm c.id
  unfold oneS at he ⊢
  obtain ⟨-, e1, he⟩ := bif_bad (by decide) he; rw [e1]
  clear e1
  cases d1 : decide (c.kind = 2) with
  | true =>
    simp only [d1, cond_true] at he ⊢
    obtain ⟨-, e1, he⟩ := bif_bad (by decide) he; rw [e1]
    exact filter_inv h _
  | false =>
  simp only [d1, cond_false] at he ⊢
  cases d1 : decide (c.kind = 3) with
  | true =>
    simp only [d1, cond_true] at he ⊢
    obtain ⟨-, e1, he⟩ := bif_bad (by decide) he; rw [e1]
    exact put_inv h _ hc
  | false =>
  simp only [d1, cond_false] at he ⊢
  cases d1 : decide (c.kind = 4) with
  | true =>
    simp only [d1, cond_true] at he ⊢
    obtain ⟨-, e1, he⟩ := bif_bad (by decide) he; rw [e1]
    exact put_inv h _ hn
  | false =>
  simp only [d1, cond_false] at he ⊢
  unfold moveS at he ⊢
  obtain ⟨-, e1, he⟩ := bif_bad (by decide) he; rw [e1]
  obtain ⟨-, e1, he⟩ := bif_bad (by decide) he; rw [e1]
  obtain ⟨-, e1, he⟩ := bif_bad (by decide) he; rw [e1]
  exact put_inv h _ hn
theorem filter_less {fs : List Fld} {id : Int} (h : hasF fs id = true) (b : Int) : (fs.filter (keepB (getF fs id).id b)).length + 1 ≤ fs.length := by
  induction fs with
  | nil => simp [hasF] at h
  | cons f r ih =>
    rw [getF]
    by_cases e : f.id = id
    · rw [if_pos e]
      have := List.length_filter_le (keepB f.id b) r
      simp [keepB] at *
      omega
    · rw [if_neg e]
      have h : hasF r id = true := by simpa [hasF, e] using h
      have := ih h
      rw [List.filter_cons]
      split <;> simp <;> omega
theorem splitS_inv {fs : List Fld} {next : Int} {c : Chg} (h : SInv fs next) (hc : c.name.size < 1000000000000000) (hd : c.other.size < 1000000000000000) (he : (splitS fs next c).e = 0) : SInv (splitS fs next c).fs (splitS fs next c).next := by
  unfold splitS at he ⊢
  obtain ⟨d0, e1, he⟩ := bif_bad (by decide) he; rw [e1]
  obtain ⟨-, e1, he⟩ := bif_bad (by decide) he; rw [e1]
  obtain ⟨-, e1, he⟩ := bif_bad (by decide) he; rw [e1]
  obtain ⟨-, e1, he⟩ := bif_bad (by decide) he; rw [e1]
  obtain ⟨d, e1, he⟩ := bif_bad (by decide) he; rw [e1]
  simp only [Bool.or_eq_false_iff, decide_eq_false_iff_not] at d
  have := h.n0
  have hl := filter_less (id := c.id) (by simpa using d0) (getF fs c.id).id
  refine ⟨by simp only [List.length_append, List.length_cons, List.length_nil]; omega, by simp only []; omega, by simp only []; omega, ?_⟩
  intro f hf
  simp at hf
  rcases hf with hf | rfl | rfl
  · exact h.nm f hf.1
  · exact hc
  · exact hd
theorem joinS_inv {fs : List Fld} {next : Int} {c : Chg} (h : SInv fs next) (hc : c.name.size < 1000000000000000) (he : (joinS fs next c).e = 0) : SInv (joinS fs next c).fs (joinS fs next c).next := by
  unfold joinS at he ⊢
  obtain ⟨d0, e1, he⟩ := bif_bad (by decide) he; rw [e1]
  obtain ⟨-, e1, he⟩ := bif_bad (by decide) he; rw [e1]
  obtain ⟨-, e1, he⟩ := bif_bad (by decide) he; rw [e1]
  obtain ⟨-, e1, he⟩ := bif_bad (by decide) he; rw [e1]
  obtain ⟨-, e1, he⟩ := bif_bad (by decide) he; rw [e1]
  obtain ⟨d, e1, he⟩ := bif_bad (by decide) he; rw [e1]
  simp only [Bool.or_eq_false_iff, decide_eq_false_iff_not] at d
  simp only [Bool.or_eq_false_iff, Bool.not_eq_false'] at d0
  have := h.n0
  have := h.len
  have hl := filter_less d0.1 (getF fs c.wi).id
  refine ⟨by simp only [List.length_append, List.length_cons, List.length_nil]; omega, by simp only []; omega, by simp only []; omega, ?_⟩
  intro f hf
  simp at hf
  rcases hf with hf | rfl
  · exact h.nm f hf.1
  · exact hc
theorem applyC_inv {fs : List Fld} {next : Int} {c : Chg} (h : SInv fs next) (hc : COK c) (he : (applyC fs next c).e = 0) : SInv (applyC fs next c).fs (applyC fs next c).next := by
  unfold applyC at he ⊢
  split
  · rename_i e; rw [if_pos e] at he; exact addS_inv h hc.name he
  · rename_i e; rw [if_neg e] at he
    split
    · rename_i e; rw [if_pos e] at he; exact oneS_inv h hc.name he
    · rename_i e; rw [if_neg e] at he
      split
      · rename_i e; rw [if_pos e] at he; exact splitS_inv h hc.name hc.other he
      · rename_i e; rw [if_neg e] at he
        split
        · rename_i e; rw [if_pos e] at he; exact joinS_inv h hc.name he
        · rename_i e; rw [if_neg e] at he; exact absurd he (by decide)
/-- A schema, how far the changes came, and an error. -/
structure AR where
  fs : List Fld
  next : Int
  at_ : Int
  e : Int
def afterS (fs : List Fld) (next i : Int) : List Chg → AR
  | [] => ⟨fs, next, i, 0⟩
  | c :: r => bif decide ((applyC fs next c).e = 0) then afterS (applyC fs next c).fs (applyC fs next c).next (i + 1) r else ⟨fs, next, i, (applyC fs next c).e⟩
def AR.av (r : AR) : AV := .tup [.agg [.sl (r.fs.map Fld.cells), .int .i64 r.next], .int .i64 r.at_, .int .i64 r.e]
attribute [go_sem] AR.av
theorem afterS_inv {L : List Chg} (hc : ∀ c ∈ L, COK c) : ∀ {fs : List Fld} {next i : Int}, SInv fs next → SInv (afterS fs next i L).fs (afterS fs next i L).next := by
  induction L with
  | nil => intro fs next i h; exact h
  | cons c r ih =>
    intro fs next i h
    rw [afterS]
    cases d : decide ((applyC fs next c).e = 0) with
    | true => exact ih (fun x hx => hc x (by simp [hx])) (applyC_inv h (hc c (by simp)) (by simpa using d))
    | false => exact h
@[go_sem] theorem R06_After (L : List Chg) (hL : L.length < 1000000000000000) (hc : ∀ c ∈ L, COK c) : Den prog 88 [.sl (L.map Chg.cells)] [] = some ((afterS [] 1 0 L).av, []) := by
  rw [Den_ofK [] pr_R06_After rfl]
  simp only [f_R06_After, go_sem]
  refine range_ind L hL (fun i (s : List Fld × Int) => (Run prog 0 (.loop 2 [0, 2, 5, 6] f_R06_After_l0) [(0, .sl (L.map Chg.cells)), (2, .ref 0 0), (5, .ref 1 0), (6, .int .i64 i)] [.cells [.nils, .int .i64 0], .cells [.sl (s.1.map Fld.cells), .int .i64 s.2]]).bind _ = _)
    (fun i rest s => afterS s.1 s.2 i rest = afterS [] 1 0 L ∧ SInv s.1 s.2) ?_ ?_ ([], 1) ⟨rfl, SInv.nil⟩
  · intro s ⟨h, _⟩
    rw [← h]
    rw [Run_loop]
    simp only [f_R06_After_l0_eq, f_R06_After_l0u, afterS, go_sem]
  · intro i pre rest x s hp _ _ _ hx hcc hw ⟨h, hi⟩ ih
    have hcx := hc x (by rw [hp]; simp)
    have ha := R06_Apply s.1 s.2 x hi.ok hcx
    have hv := fun h0 => applyC_inv hi hcx h0
    rw [afterS] at h
    rw [← h] at ih ⊢
    clear h hp hc hi
    generalize applyC s.1 s.2 x = q at *
    rw [Run_loop]
    simp only [go_sem] at ha
    cases d : decide (q.e = 0) with
    | true =>
      have ih := ih (q.fs, q.next) ⟨by simp only [d, cond_true], hv (by simpa using d)⟩
      simp only [d, cond_true] at ih ⊢
      simp only [f_R06_After_l0_eq, f_R06_After_l0u, hx, hcc, hw, ha, d, ih, go_sem]
    | false =>
      simp only [f_R06_After_l0_eq, f_R06_After_l0u, hx, hcc, hw, ha, d, cond_false, go_sem]
end Go.Den

/-! Values: those that fit a type, and their order. -/
namespace Go.Den
open Go
set_option linter.unusedSimpArgs false
set_option linter.unusedVariables false
set_option maxRecDepth 100000
set_option maxHeartbeats 1000000
def Val.cells (v : Val) : List AV := [.bool v.null, .int .i64 v.n, .str v.s]
attribute [go_sem] Val.cells
def nullV : Val := ⟨true, 0, ⟨#[]⟩⟩
def typeOk (t : Int) : Bool := decide (1 ≤ t) && decide (t ≤ 5)
@[go_sem] theorem R05_Type (t : Int) : Den prog 67 [.int .i64 t] [] = some (.bool (typeOk t), []) := by
  rw [Den_ofK [] pr_R05_Type rfl]
  simp only [typeOk]
  cases h1 : decide (1 ≤ t) <;> cases h2 : decide (t ≤ 5) <;>
  simp only [f_R05_Type, h1, h2, go_sem]
def cutI (k : Int) (s : ByteArray) : Int := if k < s.size then k else s.size
def cutS (k : Int) (s : ByteArray) : ByteArray := s.extract 0 (cutI k s).toNat
theorem cutI_ge {k : Int} (s : ByteArray) (h : 0 ≤ k) : 0 ≤ cutI k s := by unfold cutI; split <;> omega
theorem cutI_le (k : Int) (s : ByteArray) : cutI k s ≤ s.size := by unfold cutI; split <;> omega
def fitS (v : Val) (t : Int) : Val :=
  bif v.null then nullV else
  bif decide (t = 1) then ⟨false, andI .i64 v.n 1, ⟨#[]⟩⟩ else
  bif decide (t = 2) then ⟨false, IntKind.wrap .i64 (IntKind.wrap .i32 v.n), ⟨#[]⟩⟩ else
  bif decide (t = 5) then ⟨false, v.n.tmod 1000001, ⟨#[]⟩⟩ else
  bif decide (t = 4) then ⟨false, 0, cutS 200 v.s⟩ else ⟨false, v.n, ⟨#[]⟩⟩
@[go_sem] theorem R05_Fit (b : Bool) (n : Int) (s : ByteArray) (t : Int) : Den prog 68 [.agg [.bool b, .int .i64 n, .str s], .int .i64 t] [] = some (.agg (fitS ⟨b, n, s⟩ t).cells, []) := by
  have c1 := cutI_ge (k := 200) s (by decide)
  have c2 := cutI_le 200 s
  rw [Den_ofK [] pr_R05_Fit rfl]
  simp only [fitS]
  cases b with
  | true => simp only [f_R05_Fit, cond_true, nullV, go_sem]
  | false =>
  cases h1 : decide (t = 1) with
  | true => simp only [f_R05_Fit, h1, cond_true, cond_false, go_sem]
  | false =>
  cases h2 : decide (t = 2) with
  | true => simp only [f_R05_Fit, h1, h2, cond_true, cond_false, go_sem]
  | false =>
  cases h3 : decide (t = 5) with
  | true =>
    have e : (1000001 : Int) ≠ 0 := by decide
    simp only [f_R05_Fit, h1, h2, h3, cond_true, cond_false, e, go_sem]
  | false =>
  cases h4 : decide (t = 4) with
  | true => 
    unfold cutI at c1 c2
    simp only [f_R05_Fit, h1, h2, h3, h4, cond_true, cond_false, c1, c2, cutS, cutI, go_sem]
  | false => simp only [f_R05_Fit, h1, h2, h3, h4, cond_true, cond_false, go_sem]
def madeV (v : Val) (t : Int) : Val := bif typeOk t then fitS v t else nullV
@[go_sem] theorem R05_Made (b : Bool) (n : Int) (s : ByteArray) (t : Int) : Den prog 69 [.agg [.bool b, .int .i64 n, .str s], .int .i64 t] [] = some (.agg [.bool (madeV ⟨b, n, s⟩ t).null, .int .i64 (madeV ⟨b, n, s⟩ t).n, .str (madeV ⟨b, n, s⟩ t).s], []) := by
  rw [Den_ofK [] pr_R05_Made rfl]
  simp only [madeV]
  cases h1 : typeOk t <;>
  simp only [f_R05_Made, h1, cond_true, cond_false, nullV, go_sem]
/-- The order of texts. -/
def cmpB : List UInt8 → List UInt8 → Int
  | [], [] => 0
  | [], _ :: _ => -1
  | _ :: _, [] => 1
  | a :: r, b :: q => if a.toNat < b.toNat then -1 else if b.toNat < a.toNat then 1 else cmpB r q
def cmpV (a b : Val) : Int :=
  bif a.null && !b.null then -1 else
  bif !a.null && b.null then 1 else
  bif decide (a.n < b.n) then -1 else
  bif decide (b.n < a.n) then 1 else cmpB a.s.data.toList b.s.data.toList
end Go.Den

/-! Schemas: made changes and rows. -/
namespace Go.Den
open Go
set_option linter.unusedSimpArgs false
set_option linter.unusedVariables false
set_option maxRecDepth 100000
set_option maxHeartbeats 1000000
def modI (x n : Int) : Int := if n ≤ 0 then 0 else x % n
theorem modI_ge (x n : Int) : 0 ≤ modI x n := by
  unfold modI; split
  · omega
  · exact Int.emod_nonneg _ (by omega)
theorem modI_lt {n : Int} (x : Int) (h : 0 < n) : modI x n < n := by
  unfold modI; rw [if_neg (by omega)]; exact Int.emod_lt_of_pos _ h
theorem tmod_two {x n : Int} (h : 0 < n) : (x.tmod n + n).tmod n = x % n ∧ 0 < x.tmod n + n ∧ x.tmod n + n < 2 * n := by
  have h1 := Int.emod_nonneg x (by omega : n ≠ 0)
  have h2 := Int.emod_lt_of_pos x h
  have hself : x % n % n = x % n := Int.emod_emod_of_dvd x (Int.dvd_refl n)
  have key : x.tmod n = x % n ∨ (x.tmod n = x % n - n ∧ 0 < x % n) := by
    have e := Int.tmod_eq_emod (a := x) (b := n)
    by_cases hx : 0 ≤ x ∨ n ∣ x
    · rw [if_pos hx] at e; left; rw [e]; omega
    · rw [if_neg hx] at e
      right
      refine ⟨by rw [e]; omega, ?_⟩
      rcases Int.lt_or_eq_of_le h1 with h3 | h3
      · exact h3
      · exact absurd (.inr (Int.dvd_of_emod_eq_zero h3.symm)) hx
  rcases key with e | ⟨e, h3⟩
  · rw [e]
    refine ⟨?_, by omega, by omega⟩
    rw [Int.tmod_eq_emod_of_nonneg (by omega), Int.add_emod_right, hself]
  · rw [e, Int.sub_add_cancel]
    refine ⟨?_, by omega, by omega⟩
    rw [Int.tmod_eq_emod_of_nonneg (by omega), hself]
@[go_sem] theorem R06_mod (x n : Int) (h : n < 1000000000000000) : Den prog 64 [.int .i64 x, .int .i64 n] [] = some (.int .i64 (modI x n), []) := by
  rw [Den_ofK [] pr_R06_mod rfl]
  by_cases h0 : n ≤ 0
  · have d : decide (n ≤ 0) = true := by simpa using h0
    have q : modI x n = 0 := by rw [modI, if_pos h0]
    simp only [f_R06_mod, d, q, go_sem]
  · have d : decide (n ≤ 0) = false := by simpa using h0
    obtain ⟨t1, t2, t3⟩ := tmod_two (x := x) (n := n) (by omega)
    have hw : IntKind.wrap .i64 (x.tmod n + n) = x.tmod n + n := wrap_i64 (by omega) (by omega)
    have q : modI x n = x % n := by rw [modI, if_neg h0]
    have hn : n ≠ 0 := by omega
    simp only [f_R06_mod, d, q, hn, hw, t1, go_sem]
def letters : List ByteArray := [⟨#[97]⟩, ⟨#[98]⟩, ⟨#[99]⟩, ⟨#[100]⟩, ⟨#[101]⟩, ⟨#[102]⟩]
def nameS (s : ByteArray) : ByteArray := bif nameOk s && decide ((s.size : Int) ≤ 4) then s else (letters[s.size % 6]?).getD ⟨#[]⟩
theorem nameS_size (s : ByteArray) : (nameS s).size ≤ 4 := by
  unfold nameS
  cases h : nameOk s && decide ((s.size : Int) ≤ 4) with
  | true => simp at h; simp; omega
  | false =>
    have : s.size % 6 < 6 := Nat.mod_lt _ (by omega)
    generalize s.size % 6 = k at *
    match k, this with
    | 0, _ => show (letters[0]?.getD (ByteArray.mk #[])).size ≤ 4; decide
    | 1, _ => show (letters[1]?.getD (ByteArray.mk #[])).size ≤ 4; decide
    | 2, _ => show (letters[2]?.getD (ByteArray.mk #[])).size ≤ 4; decide
    | 3, _ => show (letters[3]?.getD (ByteArray.mk #[])).size ≤ 4; decide
    | 4, _ => show (letters[4]?.getD (ByteArray.mk #[])).size ≤ 4; decide
    | 5, _ => show (letters[5]?.getD (ByteArray.mk #[])).size ≤ 4; decide
@[go_sem] theorem R06_name (s : ByteArray) (hL : s.size < 1000000000000000) : Den prog 65 [.str s] [] = some (.str (nameS s), []) := by
  rw [Den_ofK [] pr_R06_name rfl]
  simp only [nameS]
  cases h1 : nameOk s with
  | true =>
    cases h2 : decide ((s.size : Int) ≤ 4) with
    | true => simp only [f_R06_name, hL, h1, h2, Bool.and_true, cond_true, go_sem]
    | false =>
      have e : (6 : Int) ≠ 0 := by decide
      have ht : (s.size : Int).tmod 6 = ((s.size % 6 : Nat) : Int) := by rw [Int.tmod_eq_emod_of_nonneg (by omega)]; omega
      have : s.size % 6 < 6 := Nat.mod_lt _ (by omega)
      generalize s.size % 6 = k at *
      match k, this with
      | 0, _ => simp only [f_R06_name, hL, h1, h2, e, ht, letters, Bool.and_false, cond_false, go_sem] <;> rfl
      | 1, _ => simp only [f_R06_name, hL, h1, h2, e, ht, letters, Bool.and_false, cond_false, go_sem] <;> rfl
      | 2, _ => simp only [f_R06_name, hL, h1, h2, e, ht, letters, Bool.and_false, cond_false, go_sem] <;> rfl
      | 3, _ => simp only [f_R06_name, hL, h1, h2, e, ht, letters, Bool.and_false, cond_false, go_sem] <;> rfl
      | 4, _ => simp only [f_R06_name, hL, h1, h2, e, ht, letters, Bool.and_false, cond_false, go_sem] <;> rfl
      | 5, _ => simp only [f_R06_name, hL, h1, h2, e, ht, letters, Bool.and_false, cond_false, go_sem] <;> rfl
  | false =>
      have e : (6 : Int) ≠ 0 := by decide
      have ht : (s.size : Int).tmod 6 = ((s.size % 6 : Nat) : Int) := by rw [Int.tmod_eq_emod_of_nonneg (by omega)]; omega
      have : s.size % 6 < 6 := Nat.mod_lt _ (by omega)
      generalize s.size % 6 = k at *
      match k, this with
      | 0, _ => simp only [f_R06_name, hL, h1, e, ht, letters, Bool.false_and, cond_false, go_sem] <;> rfl
      | 1, _ => simp only [f_R06_name, hL, h1, e, ht, letters, Bool.false_and, cond_false, go_sem] <;> rfl
      | 2, _ => simp only [f_R06_name, hL, h1, e, ht, letters, Bool.false_and, cond_false, go_sem] <;> rfl
      | 3, _ => simp only [f_R06_name, hL, h1, e, ht, letters, Bool.false_and, cond_false, go_sem] <;> rfl
      | 4, _ => simp only [f_R06_name, hL, h1, e, ht, letters, Bool.false_and, cond_false, go_sem] <;> rfl
      | 5, _ => simp only [f_R06_name, hL, h1, e, ht, letters, Bool.false_and, cond_false, go_sem] <;> rfl
end Go.Den

/-! Schemas: made changes and rows, on. -/
namespace Go.Den
open Go
set_option linter.unusedSimpArgs false
set_option linter.unusedVariables false
set_option maxRecDepth 100000
set_option maxHeartbeats 1000000
def parS (fs : List Fld) (p : Int) : Int := bif groupOk fs p then p else 0
def dash : ByteArray := ⟨#[45]⟩
def chgS (fs : List Fld) (next : Int) (c : Chg) : Chg :=
  ⟨1 + modI c.kind 7, 1 + modI c.id next, 1 + modI c.wi next, nameS c.name, nameS c.other, 1 + modI c.type 6, parS fs (modI c.par next), bif sepOk c.sep then c.sep else dash⟩
structure COK2 (c : Chg) : Prop where
  name : c.name.size < 1000000000000000
  other : c.other.size < 1000000000000000
theorem chgS_ok (fs : List Fld) (next : Int) (c : Chg) : COK (chgS fs next c) := by
  have h1 := nameS_size c.name
  have h2 := nameS_size c.other
  exact ⟨by show (nameS c.name).size < _; omega, by show (nameS c.other).size < _; omega⟩
theorem R06_Change (fs : List Fld) (next : Int) (c : Chg) (h : SInv fs next) (hc : COK2 c) : Den prog 66 [.agg [.sl (fs.map Fld.cells), .int .i64 next], .agg c.cells] [] = some (.agg (chgS fs next c).cells, []) := by
  have hL : fs.length < 1000000000000000 := by have := h.len; omega
  have hn : next < 1000000000000000 := by have := h.n1; omega
  have h7 : (7 : Int) < 1000000000000000 := by decide
  have h6 : (6 : Int) < 1000000000000000 := by decide
  have hp : 0 < next := by have := h.n0; omega
  have hnn := h.n1
  have w : ∀ x n : Int, 0 < n → n ≤ 1073741824 → IntKind.wrap .i64 (1 + modI x n) = 1 + modI x n := fun x n a b => by
    have := modI_ge x n
    have := modI_lt x a
    exact wrap_i64 (by omega) (by omega)
  have w1 := w c.kind 7 (by decide) (by decide)
  have w2 := w c.id next hp hnn
  have w3 := w c.wi next hp hnn
  have w4 := w c.type 6 (by decide) (by decide)
  have hc1 := hc.name
  have hc2 := hc.other
  clear w h hc hp hnn
  rw [Den_ofK [] pr_R06_Change rfl]
  simp only [chgS, parS, dash]
  cases d1 : sepOk c.sep <;> cases d2 : groupOk fs (modI c.par next) <;>
  simp only [f_R06_Change, hL, hn, h7, h6, hc1, hc2, w1, w2, w3, w4, d1, d2, cond_true, cond_false, Bool.not_true, Bool.not_false, go_sem]
def madeC (fs : List Fld) (next : Int) : List Chg → List Chg
  | [] => []
  | c :: r => bif decide ((applyC fs next (chgS fs next c)).e = 0) then chgS fs next c :: madeC (applyC fs next (chgS fs next c)).fs (applyC fs next (chgS fs next c)).next r else madeC fs next r
theorem madeC_ok (L : List Chg) : ∀ (fs : List Fld) (next : Int), ∀ c ∈ madeC fs next L, COK c := by
  induction L with
  | nil => intro fs next c h; simp [madeC] at h
  | cons x r ih =>
    intro fs next c h
    rw [madeC] at h
    cases d : decide ((applyC fs next (chgS fs next x)).e = 0) with
    | true =>
      simp only [d, cond_true, List.mem_cons] at h
      rcases h with rfl | h
      · exact chgS_ok fs next x
      · exact ih _ _ c h
    | false => simp only [d, cond_false] at h; exact ih _ _ c h
theorem madeC_len (L : List Chg) : ∀ (fs : List Fld) (next : Int), (madeC fs next L).length ≤ L.length := by
  induction L with
  | nil => intro fs next; simp [madeC]
  | cons x r ih =>
    intro fs next
    rw [madeC]
    cases d : decide ((applyC fs next (chgS fs next x)).e = 0) with
    | true => simpa using ih _ _
    | false => simp only [cond_false, List.length_cons]; have := ih fs next; omega
@[go_sem] theorem R06_Made (L : List Chg) (n : Int) (hL : L.length < 1000000000000000) (hc : ∀ c ∈ L, COK2 c) (h0 : 0 ≤ n) (hn : n < 1000000000) : Den prog 87 [.sl (L.map Chg.cells), .int .i64 n] [] = some (.sl ((madeC [] 1 (L.take n.toNat)).map Chg.cells), []) := by
  rw [Den_ofK [] pr_R06_Made rfl]
  simp only [f_R06_Made, go_sem]
  refine range_ind L hL (fun i (s : List Fld × Int × List Chg) => (Run prog 0 (.loop 2 [0, 1, 5, 6, 7] f_R06_Made_l0) [(0, .sl (L.map Chg.cells)), (1, .int .i64 n), (5, .ref 0 0), (6, .osl 1 0 s.2.2.length 0 s.2.2.length), (7, .int .i64 i)] [.cells [.sl (s.1.map Fld.cells), .int .i64 s.2.1], .arr 0 8 (s.2.2.map Chg.cells)]).bind _ = _)
    (fun i rest s => s.2.2 ++ madeC s.1 s.2.1 (rest.take (n - i).toNat) = madeC [] 1 (L.take n.toNat) ∧ SInv s.1 s.2.1 ∧ i ≤ n ∧ (s.2.2.length : Int) ≤ i) ?_ ?_ ([], 1, []) ⟨by simp, SInv.nil, h0, by simp⟩
  · intro s ⟨h, _⟩
    have h : madeC [] 1 (L.take n.toNat) = s.2.2 := by rw [← h]; simp [madeC]
    rw [h, Run_loop]
    simp only [f_R06_Made_l0_eq, f_R06_Made_l0u, go_sem]
  · intro i pre rest x s hp _ hi0 hi1 hx hcc hw ⟨h, hi, hin, hl⟩ ih
    rw [Run_loop]
    by_cases hlt : i < n
    · have hd : decide (i < n) = true := by simpa using hlt
      have hcx := hc x (by rw [hp]; simp)
      have hg := R06_Change s.1 s.2.1 x hi hcx
      have hco := chgS_ok s.1 s.2.1 x
      have ha := R06_Apply s.1 s.2.1 (chgS s.1 s.2.1 x) hi.ok hco
      have hv := fun h0 => applyC_inv hi hco h0
      have hb : (s.2.2.length + 1) * 88 ≤ 140737488355328 := by clear hw hx hcc ih h hp hg ha hd; omega
      have et : (n - i).toNat = (n - (i + 1)).toNat + 1 := by clear hw hx hcc ih h hp hg ha; omega
      rw [et, List.take_succ_cons, madeC] at h
      generalize chgS s.1 s.2.1 x = y at *
      generalize applyC s.1 s.2.1 y = q at *
      simp only [go_sem] at ha hg
      cases d : decide (q.e = 0) with
      | true =>
        have ih := ih (q.fs, q.next, s.2.2 ++ [y]) ⟨by simp only [d, cond_true] at h; rw [← h]; simp, hv (by simpa using d), by omega, by simp; omega⟩
        clear h hp hc hi hv
        simp only [go_sem] at ih
        simp only [f_R06_Made_l0_eq, f_R06_Made_l0u, hx, hcc, hw, hd, hg, ha, d, hb, ih, go_sem]
      | false =>
        have ih := ih s ⟨by simp only [d, cond_false] at h; exact h, hi, by omega, by omega⟩
        clear h hp hc hi hv
        simp only [f_R06_Made_l0_eq, f_R06_Made_l0u, hx, hcc, hw, hd, hg, ha, d, hb, ih, go_sem]
    · have hd : decide (i < n) = false := by simpa using hlt
      have et : (n - i).toNat = 0 := by clear hw hx hcc ih h hp; omega
      rw [et, List.take_zero, madeC, List.append_nil] at h
      rw [← h]
      simp only [f_R06_Made_l0_eq, f_R06_Made_l0u, hx, hcc, hd, go_sem]
def isLeaf (f : Fld) : Bool := !decide (f.type = 6)
def leavesS (fs : List Fld) : List Int := (fs.filter isLeaf).map (·.id)
def icell (i : Int) : List AV := [.int .i64 i]
attribute [go_sem] icell
def getC : List Cell → Int → Val
  | [], _ => nullV
  | c :: r, id => if c.id = id then c.v else getC r id
@[go_sem] theorem R06_Get (r : List Cell) (id : Int) (hL : r.length < 1000000000000000) : Den prog 84 [.agg [.sl (r.map Cell.cells)], .int .i64 id] [] = some (.agg [.bool (getC r id).null, .int .i64 (getC r id).n, .str (getC r id).s], []) := by
  rw [Den_ofK [] pr_R06_Get rfl]
  simp only [f_R06_Get, go_sem]
  refine range_ind r hL (fun i (_ : Unit) => (Run prog 0 (.loop 1 [1, 2, 4, 5] f_R06_Get_l0) [(1, .int .i64 id), (2, .rptr [.sl (r.map Cell.cells)]), (4, .ref 0 0), (5, .int .i64 i)] [.cells [.bool false, .int .i64 0, .str ⟨#[]⟩]]).bind _ = _) (fun i rest _ => getC rest id = getC r id) ?_ ?_ () rfl
  · intro _ h
    have h : getC r id = nullV := h.symm
    rw [Run_loop]
    simp only [f_R06_Get_l0_eq, f_R06_Get_l0u, h, nullV, go_sem]
  · intro i pre rest x _ hp _ _ _ hx hc hw h ih
    rw [Run_loop]
    by_cases hn : x.id = id
    · have hd : decide (x.id = id) = true := by simpa using hn
      have h : getC r id = x.v := by rw [← h]; simp [getC, hn]
      simp only [f_R06_Get_l0_eq, f_R06_Get_l0u, hx, hc, hd, h, go_sem]
    · have hd : decide (x.id = id) = false := by simpa using hn
      have ih := ih () (by rw [← h]; simp [getC, hn])
      simp only [f_R06_Get_l0_eq, f_R06_Get_l0u, hx, hc, hw, hd, ih, go_sem]
/-- A row out of raw values. -/
def rowS : List Fld → List Val → List Cell
  | f :: r, v :: q => bif decide (f.type = 6) || v.null then rowS r q else bif (madeV v f.type).null then rowS r q else ⟨f.id, madeV v f.type⟩ :: rowS r q
  | _, _ => []
theorem rowS_nil (fs : List Fld) : rowS fs [] = [] := by cases fs <;> rfl
theorem rowS_len (fs : List Fld) : ∀ q, (rowS fs q).length ≤ fs.length := by
  induction fs with
  | nil => intro q; simp [rowS]
  | cons f r ih =>
    intro q
    cases q with
    | nil => simp [rowS]
    | cons v q =>
      have := ih q
      rw [rowS]
      cases decide (f.type = 6) || v.null <;> cases (madeV v f.type).null <;> simp <;> omega
@[go_sem] theorem R06_Row (fs : List Fld) (n : Int) (raw : List Val) (hL : fs.length < 1000000000000) : Den prog 75 [.agg [.sl (fs.map Fld.cells), .int .i64 n], .sl (raw.map Val.cells)] [] = some (.agg [.sl ((rowS fs raw).map Cell.cells)], []) := by
  rw [Den_ofK [] pr_R06_Row rfl]
  simp only [f_R06_Row, go_sem]
  refine range_ind fs (by omega) (fun i (s : List Cell × List Val) => (Run prog 0 (.loop 3 [1, 2, 4, 5, 6] f_R06_Row_l0) [(1, .sl (raw.map Val.cells)), (2, .rptr [.sl (fs.map Fld.cells), .int .i64 n]), (4, .ref 0 0), (5, .ref 2 0), (6, .int .i64 i)] [.cells [.nils], .arr 0 4 (s.1.map Cell.cells), .cells [.osl 1 0 s.1.length 0 s.1.length]]).bind _ = _)
    (fun i rest s => s.1 ++ rowS rest s.2 = rowS fs raw ∧ (s.1.length : Int) ≤ i ∧ ∃ p, raw = p ++ s.2 ∧ (p.length : Int) = i) ?_ ?_ ([], raw) ⟨by simp, by simp, [], rfl, rfl⟩
  · intro s ⟨h, _⟩
    have h : rowS fs raw = s.1 := by rw [← h]; simp [rowS]
    rw [h, Run_loop]
    simp only [f_R06_Row_l0_eq, f_R06_Row_l0u, go_sem]
  · intro i pre rest x s hp _ hi0 hi1 hx hc hw ⟨h, hl, p, hq, hpl⟩ ih
    obtain ⟨out, q⟩ := s
    have hb : (out.length + 1) * 40 ≤ 140737488355328 := by clear hw hx hc ih h hp hq; simp only [] at hl; omega
    have hql := congrArg List.length hq
    simp only [List.length_append] at hql
    rw [Run_loop]
    cases q with
    | nil =>
      have hd : decide (i < (raw.length : Int)) = false := by simp only [List.length_nil] at hql; simp only [decide_eq_false_iff_not]; omega
      rw [rowS_nil, List.append_nil] at h
      rw [← h]
      simp only [f_R06_Row_l0_eq, f_R06_Row_l0u, hx, hc, hd, go_sem]
    | cons v q =>
      have hd : decide (i < (raw.length : Int)) = true := by simp only [List.length_cons] at hql; simp only [decide_eq_true_eq]; omega
      have hy : getE raw i = some v := by rw [← hpl]; exact getE_at hq
      rw [rowS] at h
      have hsk : ∀ e : rowS rest q = (bif decide (x.type = 6) || v.null then rowS rest q else bif (madeV v x.type).null then rowS rest q else ⟨x.id, madeV v x.type⟩ :: rowS rest q), _ := fun e => ih (out, q) ⟨by rw [← h]; simp only [← e], by simp only [] at hl ⊢; omega, p ++ [v], by simpa using hq, by simp; omega⟩
      cases h1 : decide (x.type = 6) with
      | true =>
        have ih := hsk (by simp [h1])
        clear h hp hsk hq
        simp only [f_R06_Row_l0_eq, f_R06_Row_l0u, hx, hc, hw, hd, hy, h1, ih, go_sem]
      | false => cases h2 : v.null with
        | true =>
          have ih := hsk (by simp [h2])
          clear h hp hsk hq
          simp only [f_R06_Row_l0_eq, f_R06_Row_l0u, hx, hc, hw, hd, hy, h1, h2, ih, go_sem]
        | false => cases h3 : (madeV v x.type).null with
          | true =>
            have ih := hsk (by simp [h3])
            clear h hp hsk hq
            have hm := R05_Made v.null v.n v.s x.type
            simp only [h2] at hm
            have h3' : (madeV ⟨false, v.n, v.s⟩ x.type).null = true := by rw [← h2]; exact h3
            simp only [f_R06_Row_l0_eq, f_R06_Row_l0u, hx, hc, hw, hd, hy, h1, h2, hm, h3', ih, go_sem]
          | false =>
            have ih := ih (out ++ [⟨x.id, madeV v x.type⟩], q) ⟨by rw [← h]; simp [h1, h2, h3], by simp; omega, p ++ [v], by simpa using hq, by simp; omega⟩
            have ev : v = ⟨false, v.n, v.s⟩ := by rw [← h2]
            clear h hp hsk hq
            have hm := R05_Made v.null v.n v.s x.type
            simp only [h2] at hm
            rw [ev] at h3 ih
            simp only [h3, go_sem] at ih
            simp only [f_R06_Row_l0_eq, f_R06_Row_l0u, hx, hc, hw, hd, hy, h1, h2, hm, h3, hb, ih, go_sem]
def vals (r : List Val) : List AV := [.sl (r.map Val.cells)]
def rowc (r : List Cell) : List AV := [.sl (r.map Cell.cells)]
attribute [go_sem] vals rowc
/-! The first place where something holds. -/
def idxF {α : Type} (p : α → Bool) (i : Int) : List α → Int
  | [] => -1
  | x :: r => bif p x then i else idxF p (i + 1) r
theorem idxF_ge {α : Type} (p : α → Bool) : ∀ (L : List α) (i : Int), 0 ≤ i → (decide (0 ≤ idxF p i L)) = L.any p
  | [], i, h => by simp [idxF]
  | x :: r, i, h => by
    rw [idxF, List.any_cons]
    cases p x with
    | true => simp [h]
    | false => simpa using idxF_ge p r (i + 1) (by omega)
theorem idxF_lt {α : Type} (p : α → Bool) : ∀ (L : List α) (i : Int), idxF p i L < i + L.length ∨ idxF p i L = -1
  | [], i => .inr rfl
  | x :: r, i => by
    rw [idxF]
    cases p x with
    | true => left; simp; omega
    | false =>
      rcases idxF_lt p r (i + 1) with h | h
      · left; simp only [cond_false, List.length_cons]; omega
      · right; simpa using h
end Go.Den
