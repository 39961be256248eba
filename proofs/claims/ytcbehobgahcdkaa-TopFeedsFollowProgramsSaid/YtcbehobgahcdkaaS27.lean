
import Derived.Test.YtcbehobgahcdkaaS08
/-! Programs: tables, what they touch, how they run. -/
namespace Go.Den
open Go
set_option linter.unusedSimpArgs false
set_option linter.unusedVariables false
set_option maxRecDepth 100000
set_option maxHeartbeats 1000000
structure Grd where
  w : Prd
  id : Int
  lo : Int
  hi : Int
def Grd.cells (g : Grd) : List AV := g.w.cells ++ [.int .i64 g.id, .int .i64 g.lo, .int .i64 g.hi]
structure Pro where
  read : Prd
  rem : Prd
  add : List (List Cell)
  gs : List Grd
def Pro.cells (p : Pro) : List AV := p.read.cells ++ (p.rem.cells ++ [.sl (p.add.map rowc), .sl (p.gs.map Grd.cells)])
attribute [go_sem] Grd.cells Pro.cells
def tabStep (s : List Line × Int) (r : List Cell) : List Line × Int := ((s.1 ++ [⟨bif decide (s.2.tmod 3 = 2) then s.2 + 1 else s.2, r⟩]), (bif decide (s.2.tmod 3 = 2) then s.2 + 1 else s.2) + 1)
def tabS (fs : List Fld) (raw : List (List Val)) (n : Int) : Table := ⟨(((raw.take n.toNat).map (rowS fs)).foldl tabStep ([], 0)).2, (((raw.take n.toNat).map (rowS fs)).foldl tabStep ([], 0)).1⟩
@[go_sem] theorem R27_Table (fs : List Fld) (m : Int) (raw : List (List Val)) (n : Int) (hF : fs.length < 1000000000000) (hL : raw.length < 1000000000000000) (h0 : 0 ≤ n) (hn : n < 1000000000) : Den prog 90 [.agg [.sl (fs.map Fld.cells), .int .i64 m], .sl (raw.map vals), .int .i64 n] [] =
    some (.agg [.int .i64 (tabS fs raw n).next, .sl ((tabS fs raw n).l.map Line.cells)], []) := by
  have hR := R06_Rows fs m raw n hF hL h0 hn
  rw [Den_ofK [] pr_R27_Table rfl]
  have hlen : ((raw.take n.toNat).map (rowS fs)).length < 1000000000 := by rw [List.length_map, List.length_take]; omega
  simp only [tabS]
  generalize (raw.take n.toNat).map (rowS fs) = rows at *
  simp only [f_R27_Table, hR, go_sem]
  refine range_ind rows (by omega) (fun i (s : List Line × Int) => (Run prog 0 (.loop 3 [6, 7, 8, 9] f_R27_Table_l0) [(6, .ref 0 0), (7, .sl (rows.map rowc)), (8, .ref 2 0), (9, .int .i64 i)] [.cells [.int .i64 0, .nils], .arr 0 2 (s.1.map Line.cells), .cells [.int .i64 s.2, .osl 1 0 s.1.length 0 s.1.length]]).bind _ = _)
    (fun i rest s => rest.foldl tabStep s = rows.foldl tabStep ([], 0) ∧ 0 ≤ s.2 ∧ s.2 ≤ 2 * i ∧ (s.1.length : Int) ≤ i) ?_ ?_ ([], 0) ⟨rfl, by simp, by simp, by simp⟩
  · intro s ⟨h, _⟩
    have h : rows.foldl tabStep ([], 0) = s := by rw [← h]; rfl
    rw [h, Run_loop]
    simp only [f_R27_Table_l0_eq, f_R27_Table_l0u, go_sem]
  · intro i pre rest x s hp _ hi0 hi1 hx hc hw ⟨h, b0, b1, b2⟩ ih
    obtain ⟨out, next⟩ := s
    simp only [] at b0 b1 b2
    rw [List.foldl_cons] at h
    have hb : (out.length + 1) * 32 ≤ 140737488355328 := by clear hw hx hc ih h hp hR; omega
    have e3 : (3 : Int) ≠ 0 := by decide
    have w1 : IntKind.wrap .i64 (next + 1) = next + 1 := wrap_i64 (by clear hw hx hc ih h hp hR; omega) (by clear hw hx hc ih h hp hR; omega)
    have w2 : IntKind.wrap .i64 (next + 1 + 1) = next + 1 + 1 := wrap_i64 (by clear hw hx hc ih h hp hR w1; omega) (by clear hw hx hc ih h hp hR w1; omega)
    rw [Run_loop]
    cases d : decide (next.tmod 3 = 2) with
    | true =>
      have e : tabStep (out, next) x = (out ++ [⟨next + 1, x⟩], next + 1 + 1) := by simp only [tabStep, d, cond_true]
      rw [e] at h
      have ih := ih _ ⟨h, by simp only []; clear hw hx hc hp hR w1 w2 h e; omega, by simp only []; clear hw hx hc hp hR w1 w2 h e; omega, by simp; clear hw hx hc hp hR w1 w2 h e; omega⟩
      clear h hp hR e
      simp only [go_sem] at ih
      simp only [f_R27_Table_l0_eq, f_R27_Table_l0u, hx, hc, hw, d, e3, w1, w2, hb, ih, go_sem]
    | false =>
      have e : tabStep (out, next) x = (out ++ [⟨next, x⟩], next + 1) := by simp only [tabStep, d, cond_false]
      rw [e] at h
      have ih := ih _ ⟨h, by simp only []; clear hw hx hc hp hR w1 w2 h e; omega, by simp only []; clear hw hx hc hp hR w1 w2 h e; omega, by simp; clear hw hx hc hp hR w1 w2 h e; omega⟩
      clear h hp hR e
      simp only [go_sem] at ih
      simp only [f_R27_Table_l0_eq, f_R27_Table_l0u, hx, hc, hw, d, e3, w1, hb, ih, go_sem]
def sumS (w : Prd) (id : Int) : Int → List Line → Int
  | n, [] => n
  | n, x :: r => bif matchP w x.r && !(getC x.r id).null then sumS w id (IntKind.wrap .i64 (n + (getC x.r id).n)) r else sumS w id n r
def rowsOk (L : List Line) : Prop := ∀ x ∈ L, x.r.length < 1000000000000
def checkS (L : List Line) (i : Int) : List Grd → Int × Int
  | [] => (i, 0)
  | g :: q => bif decide (sumS g.w g.id 0 L < g.lo) || decide (g.hi < sumS g.w g.id 0 L) then (i, 270) else checkS L (i + 1) q
end Go.Den

/-! Programs: what they touch, how they run, how they are made. -/
namespace Go.Den
open Go
set_option linter.unusedSimpArgs false
set_option linter.unusedVariables false
set_option maxRecDepth 100000
set_option maxHeartbeats 1000000
def goneE (x : Line) : Event := ⟨2, x⟩
def addE (n : Int) : List (List Cell) → List Event
  | [] => []
  | r :: q => ⟨1, ⟨n, r⟩⟩ :: addE (n + 1) q
def addL (n : Int) : List (List Cell) → List Line
  | [] => []
  | r :: q => ⟨n, r⟩ :: addL (n + 1) q
theorem addL_len (n : Int) (q : List (List Cell)) : (addL n q).length = q.length := by
  induction q generalizing n with
  | nil => rfl
  | cons r q ih => simp [addL, ih]
theorem addE_len (n : Int) (q : List (List Cell)) : (addE n q).length = q.length := by
  induction q generalizing n with
  | nil => rfl
  | cons r q ih => simp [addE, ih]
def touchS (p : Pro) (t : Table) : List Event := (t.l.filter (fun x => matchP p.rem x.r)).map goneE ++ addE t.next p.add
section
variable (r1 r2 r3 r4 : Int) (r5 : List Val) (r6 : ByteArray) (r7 : List Prd) (p1 p2 p3 p4 : Int) (p5 : List Val) (p6 : ByteArray) (p7 : List Prd) (add : List (List Cell)) (gs : List Grd) (nx : Int) (L : List Line)
/-- A table and an error. -/
structure TR where
  next : Int
  l : List Line
  e : Int
def runS (p : Pro) (t : Table) : TR :=
  bif !decide ((checkS t.l 0 p.gs).2 = 0) then ⟨0, [], (checkS t.l 0 p.gs).2⟩ else
  bif decide (4096 < (((t.l.filter (fun x => !matchP p.rem x.r)) ++ addL t.next p.add).length : Int)) || decide (4611686018427387904 < t.next + p.add.length) then ⟨0, [], 2⟩ else
  ⟨t.next + p.add.length, (t.l.filter (fun x => !matchP p.rem x.r)) ++ addL t.next p.add, 0⟩
def TR.av (r : TR) : AV := .tup [.agg [.int .i64 r.next, .sl (r.l.map Line.cells)], .int .i64 r.e]
attribute [go_sem] TR.av
end
end Go.Den

/-! Programs: how they are made. -/
namespace Go.Den
open Go
set_option linter.unusedSimpArgs false
set_option linter.unusedVariables false
set_option maxRecDepth 100000
set_option maxHeartbeats 1000000
theorem fold_ins (l : List Val) : ∀ (out : List Val), smallS out → smallS l → smallS (l.foldl insV out) ∧ (l.foldl insV out).length ≤ out.length + l.length := by
  induction l with
  | nil => intro out h _; exact ⟨h, by simp⟩
  | cons x r ih =>
    intro out h hl
    obtain ⟨a, b⟩ := ih (insV out x) (insV_small h (hl x (by simp))) (fun y hy => hl y (by simp [hy]))
    have := insV_len out x
    refine ⟨a, ?_⟩
    simp only [List.foldl_cons, List.length_cons]
    omega
theorem setS_ok (l : List Val) (t : Int) : smallS (setS l t) ∧ (setS l t).length ≤ 4 := by
  have hl : ((l.take 4).map fun v => madeV v t).length ≤ 4 := by rw [List.length_map, List.length_take]; exact Nat.min_le_left ..
  obtain ⟨a, b⟩ := fold_ins ((l.take 4).map fun v => madeV v t) [] (by intro v hv; simp at hv) (by
    intro v hv
    rw [List.mem_map] at hv
    obtain ⟨x, _, rfl⟩ := hv
    have := madeV_size x t
    omega)
  refine ⟨a, ?_⟩
  simp only [List.length_nil] at b
  unfold setS
  omega
theorem cutS_size (k : Nat) (s : ByteArray) : (cutS k s).size ≤ k := by
  unfold cutS
  have h2 : cutI k s ≤ k := by unfold cutI; split <;> omega
  rw [ByteArray.size_extract]; omega
theorem void_ok : POK voidP := .mk _ _ _ _ _ _ _ (by decide) (by decide) (by simp) (by simp) (by decide)
theorem baseP_ok (fs : List Fld) (op id lo hi : Int) (set : List Val) (text : ByteArray) : POK (baseP fs op id lo hi set text) := by
  unfold baseP
  obtain ⟨s1, s2⟩ := setS_ok set (getF fs (leafAt fs id)).type
  have s3 := cutS_size 3 text
  have z : (ByteArray.mk #[]).size < 1000000000000000 := by decide
  have s4 : (cutS 3 text).size < 1000000000000000 := by have : (cutS 3 text).size ≤ 3 := s3; omega
  cases decide ((leavesS fs).length = (0 : Int)) || decide (op = 0) with
  | true => exact void_ok
  | false => cases decide (op = 4) with
    | true => exact .mk _ _ _ _ _ _ _ (by decide) (by decide) (by simp) (by simp) z
    | false => cases decide (op = 2) && decide (0 < ((setS set (getF fs (leafAt fs id)).type).length : Int)) with
      | true => exact .mk _ _ _ _ _ _ _ (by omega) (by decide) (by simp) s1 z
      | false => cases decide ((getF fs (leafAt fs id)).type = 4) with
        | true => exact .mk _ _ _ _ _ _ _ (by decide) (by decide) (by simp) (by simp) s4
        | false => exact .mk _ _ _ _ _ _ _ (by decide) (by decide) (by simp) (by simp) z
theorem predS_ok (fs : List Fld) : ∀ (D : Nat) (p : Prd), POK (predS fs D p)
  | 0, .mk op id lo hi set text kids => by rw [predS]; exact baseP_ok ..
  | D + 1, .mk op id lo hi set text kids => by
    rw [predS]
    cases decide (5 ≤ modI op 8) with
    | false => exact baseP_ok ..
    | true =>
      have hk : ∀ k ∈ (kids.take 3).map (predS fs D), POK k := by
        intro k hk
        rw [List.mem_map] at hk
        obtain ⟨x, _, rfl⟩ := hk
        exact predS_ok fs D x
      have hlen : ((kids.take 3).map (predS fs D)).length ≤ 3 := by rw [List.length_map, List.length_take]; exact Nat.min_le_left ..
      generalize (kids.take 3).map (predS fs D) = ks at *
      have z : (ByteArray.mk #[]).size < 1000000000000000 := by decide
      simp only [cond_true]
      cases decide (modI op 8 = 7) with
      | false => exact .mk _ _ _ _ _ _ _ (by decide) (by simp only [cond_false]; omega) hk (by simp) z
      | true =>
        cases ks with
        | nil => exact .mk _ _ _ _ _ _ _ (by decide) (by simp [orVoid]) (by intro k hk; simp [orVoid] at hk; rw [hk]; exact void_ok) (by simp) z
        | cons k r => exact .mk _ _ _ _ _ _ _ (by decide) (by simp [orVoid]) (by intro j hj; simp [orVoid] at hj; rw [hj]; exact hk k (by simp)) (by simp) z
structure Raw where
  read : Prd
  rem : Prd
  add : List (List Val)
  gs : List Grd
def Raw.cells (p : Raw) : List AV := p.read.cells ++ (p.rem.cells ++ [.sl (p.add.map vals), .sl (p.gs.map Grd.cells)])
attribute [go_sem] Raw.cells
def isNum (f : Fld) : Bool := !decide (f.type = 4) && !decide (f.type = 6)
def idsS (fs : List Fld) : List Int := (fs.filter isNum).map (·.id)
def grdS (fs : List Fld) (g : Grd) : Grd := ⟨predS fs 1 g.w, (getE (idsS fs) (modI g.id (idsS fs).length)).getD 0, g.lo, g.hi⟩
def grdsS (fs : List Fld) (L : List Grd) : List Grd := bif decide (0 < ((idsS fs).length : Int)) then (L.take 3).map (grdS fs) else []
def proS (fs : List Fld) (x : Raw) : Pro := ⟨predS fs 2 x.read, predS fs 2 x.rem, (x.add.take 4).map (rowS fs), grdsS fs x.gs⟩
end Go.Den

/-! Programs: how they are made, the code. -/
namespace Go.Den
open Go
set_option linter.unusedSimpArgs false
set_option linter.unusedVariables false
set_option maxRecDepth 100000
set_option maxHeartbeats 1000000
section
variable (fs : List Fld) (m : Int) (r1 r2 r3 r4 : Int) (r5 : List Val) (r6 : ByteArray) (r7 : List Prd) (p1 p2 p3 p4 : Int) (p5 : List Val) (p6 : ByteArray) (p7 : List Prd) (add : List (List Val)) (gs : List Grd)
variable (q1 q2 q3 q4 : Int) (q5 : List Val) (q6 : ByteArray) (q7 : List Prd) (s1 s2 s3 s4 : Int) (s5 : List Val) (s6 : ByteArray) (s7 : List Prd) (rows : List (List Cell))
theorem R27_Made_l0 (hF : fs.length < 1000000000) (K : Ex × Env × St → Option (AV × St)) (Z : Option (AV × St))
    (h : K (.exit 0, [(2, .rptr ([AV.sl (List.map Fld.cells fs), AV.int IntKind.i64 m] : List AV)), (3, .rptr ([AV.int IntKind.i64 r1, AV.int IntKind.i64 r2, AV.int IntKind.i64 r3, AV.int IntKind.i64 r4, AV.sl (List.map Val.cells r5), AV.str r6, AV.sl (List.map Prd.cells r7), AV.int IntKind.i64 p1, AV.int IntKind.i64 p2, AV.int IntKind.i64 p3, AV.int IntKind.i64 p4, AV.sl (List.map Val.cells p5), AV.str p6, AV.sl (List.map Prd.cells p7), AV.sl (List.map vals add), AV.sl (List.map Grd.cells gs)] : List AV)), (4, .ref 0 0), (5, .ref 1 0), (6, .osl 3 0 (idsS fs).length 0 (idsS fs).length), (7, .int .i64 fs.length), (28, .bool false)], [.cells ([AV.int IntKind.i64 0, AV.int IntKind.i64 0, AV.int IntKind.i64 0, AV.int IntKind.i64 0, AV.nils, AV.str (ByteArray.mk #[]), AV.nils, AV.int IntKind.i64 0, AV.int IntKind.i64 0, AV.int IntKind.i64 0, AV.int IntKind.i64 0, AV.nils, AV.str (ByteArray.mk #[]), AV.nils, AV.nils, AV.nils] : List AV), .cells (([AV.int IntKind.i64 q1, AV.int IntKind.i64 q2, AV.int IntKind.i64 q3, AV.int IntKind.i64 q4, AV.sl (List.map Val.cells q5), AV.str q6, AV.sl (List.map Prd.cells q7), AV.int IntKind.i64 s1, AV.int IntKind.i64 s2, AV.int IntKind.i64 s3, AV.int IntKind.i64 s4, AV.sl (List.map Val.cells s5), AV.str s6, AV.sl (List.map Prd.cells s7), AV.sl (List.map rowc rows)] : List AV) ++ [.osl 2 0 0 0 0]), .arr 0 10 [], .arr 0 1 ((idsS fs).map icell)]) = Z) :
    (Run prog 0 (.loop 4 [2, 3, 4, 5, 6, 7] f_R27_Made_l0) [(2, .rptr ([AV.sl (List.map Fld.cells fs), AV.int IntKind.i64 m] : List AV)), (3, .rptr ([AV.int IntKind.i64 r1, AV.int IntKind.i64 r2, AV.int IntKind.i64 r3, AV.int IntKind.i64 r4, AV.sl (List.map Val.cells r5), AV.str r6, AV.sl (List.map Prd.cells r7), AV.int IntKind.i64 p1, AV.int IntKind.i64 p2, AV.int IntKind.i64 p3, AV.int IntKind.i64 p4, AV.sl (List.map Val.cells p5), AV.str p6, AV.sl (List.map Prd.cells p7), AV.sl (List.map vals add), AV.sl (List.map Grd.cells gs)] : List AV)), (4, .ref 0 0), (5, .ref 1 0), (6, .osl 3 0 0 0 0), (7, .int .i64 0)] [.cells ([AV.int IntKind.i64 0, AV.int IntKind.i64 0, AV.int IntKind.i64 0, AV.int IntKind.i64 0, AV.nils, AV.str (ByteArray.mk #[]), AV.nils, AV.int IntKind.i64 0, AV.int IntKind.i64 0, AV.int IntKind.i64 0, AV.int IntKind.i64 0, AV.nils, AV.str (ByteArray.mk #[]), AV.nils, AV.nils, AV.nils] : List AV), .cells (([AV.int IntKind.i64 q1, AV.int IntKind.i64 q2, AV.int IntKind.i64 q3, AV.int IntKind.i64 q4, AV.sl (List.map Val.cells q5), AV.str q6, AV.sl (List.map Prd.cells q7), AV.int IntKind.i64 s1, AV.int IntKind.i64 s2, AV.int IntKind.i64 s3, AV.int IntKind.i64 s4, AV.sl (List.map Val.cells s5), AV.str s6, AV.sl (List.map Prd.cells s7), AV.sl (List.map rowc rows)] : List AV) ++ [.osl 2 0 0 0 0]), .arr 0 10 [], .arr 0 1 []]).bind K = Z := by
  have key := range_ind fs (by omega) (fun i (out : List Int) => (Run prog 0 (.loop 4 [2, 3, 4, 5, 6, 7] f_R27_Made_l0) [(2, .rptr ([AV.sl (List.map Fld.cells fs), AV.int IntKind.i64 m] : List AV)), (3, .rptr ([AV.int IntKind.i64 r1, AV.int IntKind.i64 r2, AV.int IntKind.i64 r3, AV.int IntKind.i64 r4, AV.sl (List.map Val.cells r5), AV.str r6, AV.sl (List.map Prd.cells r7), AV.int IntKind.i64 p1, AV.int IntKind.i64 p2, AV.int IntKind.i64 p3, AV.int IntKind.i64 p4, AV.sl (List.map Val.cells p5), AV.str p6, AV.sl (List.map Prd.cells p7), AV.sl (List.map vals add), AV.sl (List.map Grd.cells gs)] : List AV)), (4, .ref 0 0), (5, .ref 1 0), (6, .osl 3 0 out.length 0 out.length), (7, .int .i64 i)] [.cells ([AV.int IntKind.i64 0, AV.int IntKind.i64 0, AV.int IntKind.i64 0, AV.int IntKind.i64 0, AV.nils, AV.str (ByteArray.mk #[]), AV.nils, AV.int IntKind.i64 0, AV.int IntKind.i64 0, AV.int IntKind.i64 0, AV.int IntKind.i64 0, AV.nils, AV.str (ByteArray.mk #[]), AV.nils, AV.nils, AV.nils] : List AV), .cells (([AV.int IntKind.i64 q1, AV.int IntKind.i64 q2, AV.int IntKind.i64 q3, AV.int IntKind.i64 q4, AV.sl (List.map Val.cells q5), AV.str q6, AV.sl (List.map Prd.cells q7), AV.int IntKind.i64 s1, AV.int IntKind.i64 s2, AV.int IntKind.i64 s3, AV.int IntKind.i64 s4, AV.sl (List.map Val.cells s5), AV.str s6, AV.sl (List.map Prd.cells s7), AV.sl (List.map rowc rows)] : List AV) ++ [.osl 2 0 0 0 0]), .arr 0 10 [], .arr 0 1 (out.map icell)]).bind K = Z)
    (fun i rest out => out ++ idsS rest = idsS fs ∧ (out.length : Int) ≤ i) ?_ ?_ [] ⟨rfl, by simp⟩
  · exact key
  · intro out ⟨hs, _⟩
    have hs : idsS fs = out := by rw [← hs]; simp [idsS]
    rw [hs] at h
    simp only [go_sem] at h
    rw [Run_loop]
    simp only [f_R27_Made_l0_eq, f_R27_Made_l0u, h, go_sem]
  · intro i pre rest x out hp _ hi0 hi1 hx hc hw ⟨hs, hl⟩ ih
    have hb : (out.length + 1) * 8 ≤ 140737488355328 := by clear hw hx hc ih h hp hs; omega
    rw [Run_loop]
    cases h4 : decide (x.type = 4) with
    | true =>
      have ih := ih out ⟨by rw [← hs]; simp [idsS, isNum, h4], by omega⟩
      clear hs h hp
      simp only [go_sem] at ih
      simp only [f_R27_Made_l0_eq, f_R27_Made_l0u, hx, hc, hw, h4, ih, go_sem]
    | false => cases h6 : decide (x.type = 6) with
      | true =>
        have ih := ih out ⟨by rw [← hs]; simp [idsS, isNum, h4, h6], by omega⟩
        clear hs h hp
        simp only [go_sem] at ih
        simp only [f_R27_Made_l0_eq, f_R27_Made_l0u, hx, hc, hw, h4, h6, ih, go_sem]
      | false =>
        have ih := ih (out ++ [x.id]) ⟨by rw [← hs]; simp [idsS, isNum, h4, h6], by simp; omega⟩
        clear hs h hp
        simp only [go_sem] at ih
        simp only [f_R27_Made_l0_eq, f_R27_Made_l0u, hx, hc, hw, h4, h6, hb, ih, go_sem]
theorem R27_Made_l1 (hF : fs.length < 1000000000) (hg : gs.length < 1000000000000000) (hgp : ∀ g ∈ gs, POK g.w) (K : Ex × Env × St → Option (AV × St)) (Z : Option (AV × St))
    (h : ∀ i : Int, K (.exit 2, [(2, .rptr ([AV.sl (List.map Fld.cells fs), AV.int IntKind.i64 m] : List AV)), (3, .rptr ([AV.int IntKind.i64 r1, AV.int IntKind.i64 r2, AV.int IntKind.i64 r3, AV.int IntKind.i64 r4, AV.sl (List.map Val.cells r5), AV.str r6, AV.sl (List.map Prd.cells r7), AV.int IntKind.i64 p1, AV.int IntKind.i64 p2, AV.int IntKind.i64 p3, AV.int IntKind.i64 p4, AV.sl (List.map Val.cells p5), AV.str p6, AV.sl (List.map Prd.cells p7), AV.sl (List.map vals add), AV.sl (List.map Grd.cells gs)] : List AV)), (4, .ref 0 0), (5, .ref 1 0), (6, .osl 3 0 (idsS fs).length 0 (idsS fs).length), (8, .int .i64 i), (69, .bool false)], [.cells ([AV.int IntKind.i64 0, AV.int IntKind.i64 0, AV.int IntKind.i64 0, AV.int IntKind.i64 0, AV.nils, AV.str (ByteArray.mk #[]), AV.nils, AV.int IntKind.i64 0, AV.int IntKind.i64 0, AV.int IntKind.i64 0, AV.int IntKind.i64 0, AV.nils, AV.str (ByteArray.mk #[]), AV.nils, AV.nils, AV.nils] : List AV), .cells (([AV.int IntKind.i64 q1, AV.int IntKind.i64 q2, AV.int IntKind.i64 q3, AV.int IntKind.i64 q4, AV.sl (List.map Val.cells q5), AV.str q6, AV.sl (List.map Prd.cells q7), AV.int IntKind.i64 s1, AV.int IntKind.i64 s2, AV.int IntKind.i64 s3, AV.int IntKind.i64 s4, AV.sl (List.map Val.cells s5), AV.str s6, AV.sl (List.map Prd.cells s7), AV.sl (List.map rowc rows)] : List AV) ++ [.osl 2 0 (grdsS fs gs).length 0 (grdsS fs gs).length]), .arr 0 10 ((grdsS fs gs).map Grd.cells), .arr 0 1 ((idsS fs).map icell)]) = Z) :
    (Run prog 0 (.loop 4 [2, 3, 4, 5, 6, 8] f_R27_Made_l1) [(2, .rptr ([AV.sl (List.map Fld.cells fs), AV.int IntKind.i64 m] : List AV)), (3, .rptr ([AV.int IntKind.i64 r1, AV.int IntKind.i64 r2, AV.int IntKind.i64 r3, AV.int IntKind.i64 r4, AV.sl (List.map Val.cells r5), AV.str r6, AV.sl (List.map Prd.cells r7), AV.int IntKind.i64 p1, AV.int IntKind.i64 p2, AV.int IntKind.i64 p3, AV.int IntKind.i64 p4, AV.sl (List.map Val.cells p5), AV.str p6, AV.sl (List.map Prd.cells p7), AV.sl (List.map vals add), AV.sl (List.map Grd.cells gs)] : List AV)), (4, .ref 0 0), (5, .ref 1 0), (6, .osl 3 0 (idsS fs).length 0 (idsS fs).length), (8, .int .i64 0)] [.cells ([AV.int IntKind.i64 0, AV.int IntKind.i64 0, AV.int IntKind.i64 0, AV.int IntKind.i64 0, AV.nils, AV.str (ByteArray.mk #[]), AV.nils, AV.int IntKind.i64 0, AV.int IntKind.i64 0, AV.int IntKind.i64 0, AV.int IntKind.i64 0, AV.nils, AV.str (ByteArray.mk #[]), AV.nils, AV.nils, AV.nils] : List AV), .cells (([AV.int IntKind.i64 q1, AV.int IntKind.i64 q2, AV.int IntKind.i64 q3, AV.int IntKind.i64 q4, AV.sl (List.map Val.cells q5), AV.str q6, AV.sl (List.map Prd.cells q7), AV.int IntKind.i64 s1, AV.int IntKind.i64 s2, AV.int IntKind.i64 s3, AV.int IntKind.i64 s4, AV.sl (List.map Val.cells s5), AV.str s6, AV.sl (List.map Prd.cells s7), AV.sl (List.map rowc rows)] : List AV) ++ [.osl 2 0 0 0 0]), .arr 0 10 [], .arr 0 1 ((idsS fs).map icell)]).bind K = Z := by
  cases d : decide (0 < ((idsS fs).length : Int)) with
  | false =>
    have e : grdsS fs gs = [] := by simp only [grdsS, d, cond_false]
    have h := h 0
    rw [e] at h
    simp only [go_sem] at h
    have d0 : decide ((0 : Int) < 3) = true := rfl
    rw [Run_loop]
    cases dg : decide ((0 : Int) < gs.length) <;>
    simp only [f_R27_Made_l1_eq, f_R27_Made_l1u, d, d0, dg, h, go_sem]
  | true =>
  have hpos : 0 < ((idsS fs).length : Int) := by simpa using d
  have hle : (idsS fs).length ≤ fs.length := by unfold idsS; rw [List.length_map]; exact List.length_filter_le _ _
  have e : grdsS fs gs = (gs.take 3).map (grdS fs) := by simp only [grdsS, d, cond_true]
  rw [e] at h
  have key := range_ind gs (by omega) (fun i (out : List Grd) => (Run prog 0 (.loop 4 [2, 3, 4, 5, 6, 8] f_R27_Made_l1) [(2, .rptr ([AV.sl (List.map Fld.cells fs), AV.int IntKind.i64 m] : List AV)), (3, .rptr ([AV.int IntKind.i64 r1, AV.int IntKind.i64 r2, AV.int IntKind.i64 r3, AV.int IntKind.i64 r4, AV.sl (List.map Val.cells r5), AV.str r6, AV.sl (List.map Prd.cells r7), AV.int IntKind.i64 p1, AV.int IntKind.i64 p2, AV.int IntKind.i64 p3, AV.int IntKind.i64 p4, AV.sl (List.map Val.cells p5), AV.str p6, AV.sl (List.map Prd.cells p7), AV.sl (List.map vals add), AV.sl (List.map Grd.cells gs)] : List AV)), (4, .ref 0 0), (5, .ref 1 0), (6, .osl 3 0 (idsS fs).length 0 (idsS fs).length), (8, .int .i64 i)] [.cells ([AV.int IntKind.i64 0, AV.int IntKind.i64 0, AV.int IntKind.i64 0, AV.int IntKind.i64 0, AV.nils, AV.str (ByteArray.mk #[]), AV.nils, AV.int IntKind.i64 0, AV.int IntKind.i64 0, AV.int IntKind.i64 0, AV.int IntKind.i64 0, AV.nils, AV.str (ByteArray.mk #[]), AV.nils, AV.nils, AV.nils] : List AV), .cells (([AV.int IntKind.i64 q1, AV.int IntKind.i64 q2, AV.int IntKind.i64 q3, AV.int IntKind.i64 q4, AV.sl (List.map Val.cells q5), AV.str q6, AV.sl (List.map Prd.cells q7), AV.int IntKind.i64 s1, AV.int IntKind.i64 s2, AV.int IntKind.i64 s3, AV.int IntKind.i64 s4, AV.sl (List.map Val.cells s5), AV.str s6, AV.sl (List.map Prd.cells s7), AV.sl (List.map rowc rows)] : List AV) ++ [.osl 2 0 out.length 0 out.length]), .arr 0 10 (out.map Grd.cells), .arr 0 1 ((idsS fs).map icell)]).bind K = Z)
    (fun i rest out => out ++ (rest.take (3 - i).toNat).map (grdS fs) = (gs.take 3).map (grdS fs) ∧ i ≤ 3 ∧ (out.length : Int) ≤ i) ?_ ?_ [] ⟨rfl, by decide, by simp⟩
  · exact key
  · intro out ⟨hs, _⟩
    simp only [List.take_nil, List.map_nil, List.append_nil] at hs
    have h := h gs.length
    rw [← hs] at h
    simp only [go_sem] at h
    rw [Run_loop]
    simp only [f_R27_Made_l1_eq, f_R27_Made_l1u, h, go_sem]
  · intro i pre rest x out hp _ hi0 hi1 hx hc hw ⟨hs, h3, hl⟩ ih
    have hb : (out.length + 1) * 120 ≤ 140737488355328 := by clear hw hx hc ih h hp hs; omega
    rw [Run_loop]
    by_cases hlt : i < 3
    · have hd : decide (i < 3) = true := by simpa using hlt
      have et : (3 - i).toNat = (3 - (i + 1)).toNat + 1 := by clear hs hw hx hc ih h hp hd; omega
      rw [et, List.take_succ_cons, List.map_cons] at hs
      have hpx := hgp x (by rw [hp]; simp)
      have hpr := R09_Pred fs m hF 1 x.w (by omega) hpx
      have ih := ih (out ++ [grdS fs x]) ⟨by rw [← hs]; simp, by omega, by simp; omega⟩
      obtain ⟨t1, t2, t3⟩ := tmod_two (x := x.id) hpos
      have hw2 : IntKind.wrap .i64 (x.id.tmod (idsS fs).length + (idsS fs).length) = x.id.tmod (idsS fs).length + (idsS fs).length := wrap_i64 (by clear hw hx hc ih h hp hs hpr hd; omega) (by clear hw hx hc ih h hp hs hpr hd; omega)
      have hge : getE (idsS fs) (x.id % (idsS fs).length) = some ((getE (idsS fs) (modI x.id (idsS fs).length)).getD 0) := by
        have h1 := modI_ge x.id (idsS fs).length
        have h2 := modI_lt x.id hpos
        have h3 : modI x.id (idsS fs).length = x.id % (idsS fs).length := by unfold modI; rw [if_neg (by omega)]
        rw [h3] at h1 h2 ⊢
        have : (x.id % (idsS fs).length).toNat < (idsS fs).length := by clear ih hp hs hw hx hc hpr; omega
        simp [getE, h1, this]
      have hne : ((idsS fs).length : Int) ≠ 0 := by omega
      have hlt2 : (x.id % (idsS fs).length).toNat < (idsS fs).length := by have := Int.emod_lt_of_pos x.id hpos; clear ih hp hs hw hx hc hpr hge; omega
      have hlt3 : x.id % (idsS fs).length < (idsS fs).length := Int.emod_lt_of_pos x.id hpos
      have hge0 : 0 ≤ x.id % (idsS fs).length := Int.emod_nonneg _ hne
      unfold grdS at ih
      clear hs h hp
      generalize predS fs 1 x.w = v at *
      generalize (getE (idsS fs) (modI x.id (idsS fs).length)).getD 0 = gid at *
      obtain ⟨v1, v2, v3, v4, v5, v6, v7⟩ := v
      obtain ⟨⟨w1, w2, w3, w4, w5, w6, w7⟩, xi, xlo, xhi⟩ := x
      simp only [Int.cast_ofNat_Int, Int.ofNat_one, go_sem] at ih hpr
      have hg2 : getE ((idsS fs).map icell) (xi % (idsS fs).length) = some [.int .i64 gid] := by rw [getE_map, hge]; rfl
      generalize hI : (idsS fs).length = n at *
      simp only [] at hw2 t1 hg2 hge hne hge0 hlt2 hlt3
      have hat : ((idsS fs).map icell)[(xi % (n : Int)).toNat]? = some [.int .i64 gid] := by
        have := hg2
        rw [getE, if_pos hge0] at this
        exact this
      simp only [f_R27_Made_l1_eq, f_R27_Made_l1u, hx, hc, hw, hd, d, hpr, hne, hw2, t1, hge0, hlt2, hlt3, hat, hI, hb, ih, go_sem]
    · have hd : decide (i < 3) = false := by simpa using hlt
      have et : (3 - i).toNat = 0 := by clear hs hw hx hc ih h hp; omega
      rw [et, List.take_zero, List.map_nil, List.append_nil] at hs
      have h := h i
      rw [← hs] at h
      simp only [go_sem] at h
      simp only [f_R27_Made_l1_eq, f_R27_Made_l1u, hx, hc, hd, d, h, go_sem]
theorem R27_Made (hF : fs.length < 1000000000) (hg : gs.length < 1000000000000000) (hgp : ∀ g ∈ gs, POK g.w) (ha : add.length < 1000000000000000) (hr : POK (.mk r1 r2 r3 r4 r5 r6 r7)) (hp : POK (.mk p1 p2 p3 p4 p5 p6 p7)) :
    Den prog 89 [.agg ([AV.sl (List.map Fld.cells fs), AV.int IntKind.i64 m] : List AV), .agg ([AV.int IntKind.i64 r1, AV.int IntKind.i64 r2, AV.int IntKind.i64 r3, AV.int IntKind.i64 r4, AV.sl (List.map Val.cells r5), AV.str r6, AV.sl (List.map Prd.cells r7), AV.int IntKind.i64 p1, AV.int IntKind.i64 p2, AV.int IntKind.i64 p3, AV.int IntKind.i64 p4, AV.sl (List.map Val.cells p5), AV.str p6, AV.sl (List.map Prd.cells p7), AV.sl (List.map vals add), AV.sl (List.map Grd.cells gs)] : List AV)] [] = some (.agg (proS fs ⟨.mk r1 r2 r3 r4 r5 r6 r7, .mk p1 p2 p3 p4 p5 p6 p7, add, gs⟩).cells, []) := by
  have a1 := R09_Pred fs m hF 2 (.mk r1 r2 r3 r4 r5 r6 r7) (by omega) hr
  have a2 := R09_Pred fs m hF 2 (.mk p1 p2 p3 p4 p5 p6 p7) (by omega) hp
  have a3 := R06_Rows fs m add 4 (by omega) ha (by decide) (by decide)
  rw [show (4 : Int).toNat = 4 from rfl] at a3
  rw [Den_ofK [] pr_R27_Made rfl]
  simp only [proS]
  generalize predS fs 2 (.mk r1 r2 r3 r4 r5 r6 r7) = q at *
  generalize predS fs 2 (.mk p1 p2 p3 p4 p5 p6 p7) = s at *
  generalize (add.take 4).map (rowS fs) = rows at *
  obtain ⟨q1, q2, q3, q4, q5, q6, q7⟩ := q
  obtain ⟨s1, s2, s3, s4, s5, s6, s7⟩ := s
  have h0 := fun K Z => R27_Made_l0 fs m r1 r2 r3 r4 r5 r6 r7 p1 p2 p3 p4 p5 p6 p7 add gs q1 q2 q3 q4 q5 q6 q7 s1 s2 s3 s4 s5 s6 s7 rows hF K Z
  have h1 := fun K Z => R27_Made_l1 fs m r1 r2 r3 r4 r5 r6 r7 p1 p2 p3 p4 p5 p6 p7 add gs q1 q2 q3 q4 q5 q6 q7 s1 s2 s3 s4 s5 s6 s7 rows hF hg hgp K Z
  simp only [Int.cast_ofNat_Int, go_sem] at a1 a2 a3 h0 h1
  simp only [f_R27_Made, a1, a2, a3, go_sem]
  refine h0 _ _ ?_
  simp only [go_sem]
  refine h1 _ _ fun i => ?_
  simp only [go_sem]
end
end Go.Den
