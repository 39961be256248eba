import Derived.Test.YtggelolphgcpgaaS06M
import Derived.Test.YtggelolphgcpgaaS06L
import Derived.Test.YtggelolphgcpgaaS06O
/-! Paths: plain facts. -/
namespace Go.Den
open Go
set_option linter.unusedSimpArgs false
set_option linter.unusedVariables false
set_option maxRecDepth 100000
set_option maxHeartbeats 1000000
/-- The path of a field, as bytes; k bounds how far up it goes. -/
def pathL (fs : List Fld) : Nat → Int → List UInt8
  | 0, _ => []
  | k + 1, id => if hasF fs id then (if pathL fs k (getF fs id).par = [] then (getF fs id).name.data.toList else pathL fs k (getF fs id).par ++ 46 :: (getF fs id).name.data.toList) else []
def nmL (s : ByteArray) : List UInt8 := s.data.toList
theorem nameOk_list {s : ByteArray} (h : nameOk s = true) : s.data.toList ≠ [] ∧ s.data.toList.length ≤ 32 ∧ ∀ b ∈ s.data.toList, b ≠ 46 ∧ b ≠ 32 := by
  unfold nameOk at h
  simp only [Bool.and_eq_true, decide_eq_true_eq, List.all_eq_true] at h
  obtain ⟨h1, h2, h3⟩ := h
  have hs : s.data.toList.length = s.size := by rw [Array.length_toList]; rfl
  refine ⟨fun e => ?_, by omega, fun b hb => ?_⟩
  · rw [e] at hs; simp at hs; omega
  · have := h1 b hb
    constructor
    · rintro rfl; revert this; decide
    · rintro rfl; revert this; decide
theorem pathL_some {fs : List Fld} {id : Int} (h : hasF fs id = true) (k : Nat) : pathL fs (k + 1) id = if pathL fs k (getF fs id).par = [] then (getF fs id).name.data.toList else pathL fs k (getF fs id).par ++ 46 :: (getF fs id).name.data.toList := by
  rw [pathL, if_pos h]
theorem pathL_zero (fs : List Fld) (h : hasF fs 0 = false) : ∀ k, pathL fs k 0 = []
  | 0 => rfl
  | k + 1 => by rw [pathL, h]; rfl
/-- More steps do not change it. -/
theorem pathL_more {fs : List Fld} (h0 : hasF fs 0 = false) : ∀ {k : Nat} {id : Int}, Dp fs k id → ∀ m, k ≤ m → pathL fs m id = pathL fs k id
  | 0, id, h, m, _ => by rw [h, pathL_zero fs h0, pathL_zero fs h0]
  | k + 1, id, h, m, hm => by
    obtain ⟨m, rfl⟩ : ∃ m', m = m' + 1 := ⟨m - 1, by omega⟩
    rcases h with h | ⟨h1, h2⟩
    · rw [h, pathL_zero fs h0, pathL_zero fs h0]
    · rw [pathL, pathL, pathL_more h0 h2 m (by omega)]
theorem split46 : ∀ {u w a b : List UInt8}, (∀ x ∈ a, x ≠ 46) → (∀ x ∈ b, x ≠ 46) → u ++ 46 :: a = w ++ 46 :: b → u = w ∧ a = b := by
  intro u
  induction u with
  | nil =>
    intro w a b ha hb h
    cases w with
    | nil => simp at h; exact ⟨rfl, h⟩
    | cons y w =>
      simp only [List.nil_append, List.cons_append, List.cons.injEq] at h
      exact absurd rfl (ha 46 (by rw [h.2]; simp))
  | cons x u ih =>
    intro w a b ha hb h
    cases w with
    | nil =>
      simp only [List.nil_append, List.cons_append, List.cons.injEq] at h
      exact absurd rfl (hb 46 (by rw [← h.2]; simp))
    | cons y w =>
      simp only [List.cons_append, List.cons.injEq] at h
      obtain ⟨h1, h2⟩ := ih ha hb h.2
      exact ⟨by rw [h.1, h1], h2⟩
theorem bytes_ext {s t : ByteArray} (h : s.data.toList = t.data.toList) : s = t := by
  cases s; cases t
  congr
  exact Array.toList_inj.1 h
theorem SV.no0 {fs : List Fld} {next : Int} (s : SV fs next) : hasF fs 0 = false := by
  cases h : hasF fs 0 with
  | false => rfl
  | true =>
    obtain ⟨e, hm⟩ := getF_id h
    have := s.n.q.pos _ hm; omega
theorem path_ne {fs : List Fld} {next : Int} (s : SV fs next) {k : Nat} {id : Int} (h : hasF fs id = true) : pathL fs (k + 1) id ≠ [] := by
  rw [pathL, h]
  simp only [if_true]
  split
  · exact (nameOk_list (s.nm _ (getF_id h).2)).1
  · simp
/-- Different fields have different paths. -/
theorem path_inj {fs : List Fld} {next : Int} (s : SV fs next) : ∀ (k : Nat) {a b : Int}, hasF fs a = true → hasF fs b = true → Dp fs k (getF fs a).par → Dp fs k (getF fs b).par → pathL fs (k + 1) a = pathL fs (k + 1) b → a = b := by
  intro k
  induction k with
  | zero =>
    intro a b ha hb da db h
    obtain ⟨ea, ma⟩ := getF_id ha
    obtain ⟨eb, mb⟩ := getF_id hb
    rw [pathL_some ha, pathL_some hb] at h
    simp only [if_true, pathL] at h
    by_cases hne : a = b
    · exact hne
    · exfalso
      refine un_ne s.un ma mb (by rw [ea, eb]; exact hne) ⟨?_, bytes_ext h⟩
      rw [show (getF fs a).par = 0 from da, show (getF fs b).par = 0 from db]
  | succ k ih =>
    intro a b ha hb da db h
    obtain ⟨ea, ma⟩ := getF_id ha
    obtain ⟨eb, mb⟩ := getF_id hb
    have na := nameOk_list (s.nm _ ma)
    have nb := nameOk_list (s.nm _ mb)
    by_cases hne : a = b
    · exact hne
    exfalso
    rw [pathL_some ha, pathL_some hb] at h
    have key : ∀ {c : Int}, Dp fs (k + 1) c → (pathL fs (k + 1) c = [] ↔ c = 0) := by
      intro c hc
      constructor
      · intro e
        rcases hc with h0 | ⟨h1, _⟩
        · exact h0
        · exact absurd e (path_ne s h1)
      · rintro rfl; exact pathL_zero fs s.no0 _
    have ka := key da
    have kb := key db
    by_cases pa : (getF fs a).par = 0 <;> by_cases pb : (getF fs b).par = 0
    · rw [if_pos (ka.2 pa), if_pos (kb.2 pb)] at h
      exact un_ne s.un ma mb (by rw [ea, eb]; exact hne) ⟨by rw [pa, pb], bytes_ext h⟩
    · rw [if_pos (ka.2 pa), if_neg (fun e => pb (kb.1 e))] at h
      exact absurd rfl (na.2.2 46 (by rw [h]; simp)).1
    · rw [if_neg (fun e => pa (ka.1 e)), if_pos (kb.2 pb)] at h
      exact absurd rfl (nb.2.2 46 (by rw [← h]; simp)).1
    · rw [if_neg (fun e => pa (ka.1 e)), if_neg (fun e => pb (kb.1 e))] at h
      obtain ⟨h1, h2⟩ := split46 (fun x hx => (na.2.2 x hx).1) (fun x hx => (nb.2.2 x hx).1) h
      rcases da with d0 | ⟨da1, da2⟩
      · exact pa d0
      · rcases db with d0 | ⟨db1, db2⟩
        · exact pb d0
        · have := ih da1 db1 da2 db2 h1
          exact un_ne s.un ma mb (by rw [ea, eb]; exact hne) ⟨this, bytes_ext h2⟩
/-- No path holds a space. -/
theorem path_space {fs : List Fld} {next : Int} (s : SV fs next) : ∀ (k : Nat) (id : Int), ∀ b ∈ pathL fs k id, b ≠ 32
  | 0, id, b, h => by simp [pathL] at h
  | k + 1, id, b, h => by
    rw [pathL] at h
    split at h
    · rename_i hf
      have nn := nameOk_list (s.nm _ (getF_id hf).2)
      split at h
      · exact (nn.2.2 b h).2
      · rcases List.mem_append.1 h with h | h
        · exact path_space s k _ b h
        · rcases List.mem_cons.1 h with rfl | h
          · decide
          · exact (nn.2.2 b h).2
    · simp at h
theorem path_len {fs : List Fld} {next : Int} (s : SV fs next) : ∀ (k : Nat) (id : Int), (pathL fs k id).length ≤ 33 * k
  | 0, id => by simp [pathL]
  | k + 1, id => by
    rw [pathL]
    split
    · rename_i hf
      have nn := nameOk_list (s.nm _ (getF_id hf).2)
      have := path_len s k (getF fs id).par
      split
      · omega
      · rw [List.length_append, List.length_cons]; omega
    · simp
end Go.Den

/-! Package schema: Path, Find. -/
namespace Go.Den
open Go Go.Proofs
set_option linter.unusedSimpArgs false
set_option linter.unusedVariables false
set_option maxRecDepth 100000
set_option maxHeartbeats 1000000
def pathB (fs : List Fld) (k : Nat) (id : Int) : ByteArray := ⟨(pathL fs k id).toArray⟩
theorem pathB_size {fs : List Fld} {next : Int} (s : SV fs next) (k : Nat) (id : Int) : (pathB fs k id).size ≤ 33 * k := by
  have := path_len s k id
  show (pathL fs k id).toArray.size ≤ _
  simpa using this
theorem bin_cat (kd : EK) (a b : ByteArray) (h : a.size + b.size ≤ 9223372036854775807) : bin .add kd (.str a) (.str b) = some (.str (a ++ b)) := by simp [bin, h]
theorem schema_Path {fs : List Fld} {next : Int} (s : SV fs next) : ∀ (k : Nat) (id : Int), k ≤ 100 → Dp fs k id → Den prog 201 [.agg [.sl (fs.map Fld.cells), .int .i64 next], .int .i64 id] [] = some (.str (pathB fs (k + 1) id), []) := by
  have hL2 : fs.length < 1000000000000000 := by have := s.i.len; omega
  have zero : ∀ k, Den prog 201 [.agg [.sl (fs.map Fld.cells), .int .i64 next], .int .i64 0] [] = some (.str (pathB fs (k + 1) 0), []) := by
    intro k
    have e : pathB fs (k + 1) 0 = ⟨#[]⟩ := by unfold pathB; rw [pathL_zero fs s.no0]
    have h0 := s.no0
    rw [Den_ofK [] pr_schema_Path rfl, e]
    simp only [f_schema_Path, hL2, h0, go_sem]
  intro k
  induction k with
  | zero => intro id _ h; rw [show id = 0 from h]; exact zero 0
  | succ k ih =>
    intro id hk h
    rcases h with rfl | ⟨h1, h2⟩
    · exact zero _
    · have ih := ih (getF fs id).par (by omega) h2
      have sz := pathB_size s (k + 1) (getF fs id).par
      have nn := nameOk_list (s.nm _ (getF_id h1).2)
      have ns : (getF fs id).name.size ≤ 32 := by
        have : (getF fs id).name.data.toList.length = (getF fs id).name.size := by rw [Array.length_toList]; rfl
        omega
      have hp : pathB fs (k + 1 + 1) id = if pathL fs (k + 1) (getF fs id).par = [] then (getF fs id).name else pathB fs (k + 1) (getF fs id).par ++ ⟨#[46]⟩ ++ (getF fs id).name := by
        unfold pathB
        rw [pathL_some h1]
        split
        · exact bytes_ext (by simp)
        · refine bytes_ext ?_
          simp [ByteArray.data_append]
      have he : decide (pathB fs (k + 1) (getF fs id).par = (⟨#[]⟩ : ByteArray)) = decide (pathL fs (k + 1) (getF fs id).par = []) := by
        rw [Bool.eq_iff_iff, decide_eq_true_eq, decide_eq_true_eq]
        unfold pathB
        constructor
        · intro e
          have := congrArg (fun b : ByteArray => b.data.toList) e
          simpa using this
        · intro e; rw [e]
      rw [hp]
      generalize pathB fs (k + 1) (getF fs id).par = B at *
      have c1 : B.size + (⟨#[46]⟩ : ByteArray).size ≤ 9223372036854775807 := by
        have : (⟨#[46]⟩ : ByteArray).size = 1 := rfl
        omega
      have c2 : (B ++ (⟨#[46]⟩ : ByteArray)).size + (getF fs id).name.size ≤ 9223372036854775807 := by
        rw [ByteArray.size_append]
        have : (⟨#[46]⟩ : ByteArray).size = 1 := rfl
        omega
      have k1 := bin_cat .num B ⟨#[46]⟩ c1
      have k2 := bin_cat .num (B ++ ⟨#[46]⟩) (getF fs id).name c2
      rw [Den_ofK [] pr_schema_Path rfl]
      by_cases hz : pathL fs (k + 1) (getF fs id).par = []
      · rw [if_pos hz]
        have he : decide (B = (⟨#[]⟩ : ByteArray)) = true := by rw [he]; simpa using hz
        simp only [f_schema_Path, hL2, h1, ih, he, go_sem]
      · rw [if_neg hz]
        have he : decide (B = (⟨#[]⟩ : ByteArray)) = false := by rw [he]; simpa using hz
        simp only [f_schema_Path, hL2, h1, ih, he, k1, k2, go_sem]
end Go.Den

/-! SchemaPathsIdentify. -/
namespace Go.Den
open Go Go.Proofs
set_option linter.unusedSimpArgs false
set_option linter.unusedVariables false
set_option maxRecDepth 100000
set_option maxHeartbeats 1000000
theorem pathB_inj {fs : List Fld} {next : Int} (s : SV fs next) {x y : Fld} (hx : x ∈ fs) (hy : y ∈ fs) (h : pathB fs 9 x.id = pathB fs 9 y.id) : x.id = y.id := by
  have hgx := (getF_id (hasF_mem hx))
  have hgy := (getF_id (hasF_mem hy))
  have dx := Dp_succ (s.up7 hgx.2 (by rw [hgx.1]))
  have dy := Dp_succ (s.up7 hgy.2 (by rw [hgy.1]))
  refine path_inj s 8 (hasF_mem hx) (hasF_mem hy) dx dy ?_
  have := congrArg (fun b : ByteArray => b.data.toList) h
  simpa [pathB] using this
def fndP (fs : List Fld) (p : ByteArray) : List Fld → Option Fld := List.find? fun f => decide (pathB fs 9 f.id = p)
theorem schema_Find {fs : List Fld} {next : Int} (s : SV fs next) (p : ByteArray) : Den prog 206 [.agg [.sl (fs.map Fld.cells), .int .i64 next], .str p] [] =
    some (.tup [.int .i64 (match fndP fs p fs with | some f => f.id | none => 0), .bool (fndP fs p fs).isSome], []) := by
  have hl : fs.length < 1000000000000000 := by have := s.i.len; omega
  rw [Den_ofK [] pr_schema_Find rfl]
  simp only [f_schema_Find, go_sem]
  refine range_ind fs hl (fun i (_ : Unit) => (Run prog 0 (.loop 0 [1, 2, 9, 10, 11] f_schema_Find_l0) [(1, .str p), (2, .rptr [.sl (fs.map Fld.cells), .int .i64 next]), (9, .sl (fs.map Fld.cells)), (10, .int .i64 fs.length), (11, .int .i64 i)] []).bind _ = _)
    (fun i rest _ => fndP fs p rest = fndP fs p fs) ?_ ?_ () rfl
  · intro _ h
    rw [← h, Run_loop]
    simp only [fndP, List.find?_nil, Option.isSome_none]
    simp only [f_schema_Find_l0_eq, f_schema_Find_l0u, go_sem]
  · intro i pre rest x _ hq _ _ _ hx hc hw h ih
    have hP := schema_Path s 8 x.id (by omega) (s.dp x (by rw [hq]; simp))
    rw [show 8 + 1 = 9 from rfl] at hP
    unfold fndP at h
    rw [List.find?_cons] at h
    rw [Run_loop]
    cases d : decide (pathB fs 9 x.id = p) with
    | true =>
      rw [d] at h
      simp only [] at h
      unfold fndP
      rw [← h]
      simp only [Option.isSome_some]
      generalize pathB fs 9 x.id = B at *
      simp only [f_schema_Find_l0_eq, f_schema_Find_l0u, hx, hc, hw, hP, d, go_sem]
    | false =>
      rw [d] at h
      have ih := ih () h
      generalize pathB fs 9 x.id = B at *
      simp only [f_schema_Find_l0_eq, f_schema_Find_l0u, hx, hc, hw, hP, d, ih, go_sem]
theorem fndP_self {fs : List Fld} {next : Int} (s : SV fs next) {x : Fld} (hx : x ∈ fs) : ∃ f, fndP fs (pathB fs 9 x.id) fs = some f ∧ f.id = x.id := by
  unfold fndP
  cases h : fs.find? fun f => decide (pathB fs 9 f.id = pathB fs 9 x.id) with
  | none =>
    rw [List.find?_eq_none] at h
    exact absurd (by simp) (h x hx)
  | some f =>
    have h1 := List.find?_some h
    exact ⟨f, rfl, pathB_inj s (List.mem_of_find?_eq_some h) hx (by simpa using h1)⟩
def noSuch : ByteArray := ⟨#[110, 111, 32, 115, 117, 99, 104, 32, 102, 105, 101, 108, 100]⟩
theorem fndP_no {fs : List Fld} {next : Int} (s : SV fs next) : fndP fs noSuch fs = none := by
  unfold fndP
  rw [List.find?_eq_none]
  intro f _ h
  have h : pathB fs 9 f.id = noSuch := by simpa using h
  have h2 := congrArg (fun b : ByteArray => b.data.toList) h
  simp only [pathB, noSuch] at h2
  exact path_space s 9 f.id 32 (by rw [show pathL fs 9 f.id = [110, 111, 32, 115, 117, 99, 104, 32, 102, 105, 101, 108, 100] from h2]; simp) rfl
theorem law_Paths (L : List Chg) (hL : L.length < 1000000000000000) (hc : ∀ c ∈ L, COK2 c) : Den prog 219 [.sl (L.map Chg.cells)] [] = some (.bool true, []) := by
  have hm := R06_Made L 40 hL hc (by omega) (by omega)
  rw [show (40 : Int).toNat = 40 from rfl] at hm
  have hml := madeC_len (L.take 40) [] 1
  rw [List.length_take] at hml
  have hmo := madeC_ok (L.take 40) [] 1
  have hme := after_made (L.take 40) [] 1 0
  generalize madeC [] 1 (L.take 40) = M at *
  have hA := schema_After M (by omega) hmo
  have sv := afterS_sv M (i := 0) hmo SV.nil
  generalize afterS [] 1 0 M = T at *
  obtain ⟨fs, next, ta, te⟩ := T
  simp only [] at hme sv
  subst hme
  have hl : fs.length < 1000000000000000 := by have := sv.i.len; omega
  have d0 : decide ((0 : Int) = 0) = true := rfl
  have hno := schema_Find sv noSuch
  rw [fndP_no sv] at hno
  simp only [Option.isSome_none, noSuch] at hno
  rw [Den_ofK [] pr_L06_SchemaPathsIdentify rfl]
  simp only [AR.av] at hA
  simp only [f_L06_SchemaPathsIdentify, hm, hA, d0, go_sem]
  refine range_ind fs hl (fun i (_ : Unit) => (Run prog 0 (.loop 1 [3, 4, 7] f_L06_SchemaPathsIdentify_l0) [(3, .bool true), (4, .ref 0 0), (7, .int .i64 i)] [.cells [.sl (fs.map Fld.cells), .int .i64 next]]).bind _ = _) (fun _ _ _ => True) ?_ ?_ () trivial
  · intro _ _
    rw [Run_loop]
    simp only [f_L06_SchemaPathsIdentify_l0_eq, f_L06_SchemaPathsIdentify_l0u, hno, go_sem]
  · intro i pre rest x _ hq hip hi0 hil hx hcx hw _ ih
    have ih := ih () trivial
    have hxm : x ∈ fs := by rw [hq]; simp
    have hP := schema_Path sv 8 x.id (by omega) (sv.dp x hxm)
    rw [show 8 + 1 = 9 from rfl] at hP
    have hF := schema_Find sv (pathB fs 9 x.id)
    obtain ⟨f, e1, e2⟩ := fndP_self sv hxm
    rw [e1] at hF
    simp only [Option.isSome_some, e2] at hF
    have hne : decide (pathB fs 9 x.id = (⟨#[]⟩ : ByteArray)) = false := by
      rw [decide_eq_false_iff_not]
      intro e
      have := congrArg (fun b : ByteArray => b.data.toList) e
      exact path_ne sv (k := 8) (hasF_mem hxm) (by simpa [pathB] using this)
    have dxx : decide (x.id = x.id) = true := by simp
    have hpl : pre.length < 1000000000000000 := by rw [hq, List.length_append] at hl; omega
    have hpre : ∀ (k : Int) (z : Fld), getE pre k = some z → getE fs k = some z := by
      intro k z hk
      unfold getE at hk ⊢
      split at hk
      · rename_i h0
        rw [if_pos h0, hq, List.getElem?_append_left (List.getElem?_eq_some_iff.1 hk).1]
        exact hk
      · exact absurd hk (by simp)
    have hoth : ∀ z ∈ pre, z ∈ fs ∧ decide (pathB fs 9 z.id = pathB fs 9 x.id) = false := by
      intro z hz
      have hzm : z ∈ fs := by rw [hq]; simp [hz]
      refine ⟨hzm, ?_⟩
      rw [decide_eq_false_iff_not]
      intro e
      have h1 := pathB_inj sv hzm hxm e
      have h2 := sv.n.q.rise
      rw [hq, List.pairwise_append] at h2
      have := h2.2.2 z hz x (by simp)
      omega
    have inner : ∀ {β : Type} {K : Ex × Env × St → Option β} {Z : Option β}, K (.exit 2, [(3, .bool true), (4, .ref 0 0), (7, .int .i64 i), (8, .str (pathB fs 9 x.id)), (11, .int .i64 i), (63, .bool false)], [.cells [.sl (fs.map Fld.cells), .int .i64 next]]) = Z →
        (Run prog 0 (.loop 1 [3, 4, 7, 8, 11] f_L06_SchemaPathsIdentify_l1) [(3, .bool true), (4, .ref 0 0), (7, .int .i64 i), (8, .str (pathB fs 9 x.id)), (11, .int .i64 0)] [.cells [.sl (fs.map Fld.cells), .int .i64 next]]).bind K = Z := by
      intro β K Z hK
      refine range_ind pre hpl (fun k (_ : Unit) => (Run prog 0 (.loop 1 [3, 4, 7, 8, 11] f_L06_SchemaPathsIdentify_l1) [(3, .bool true), (4, .ref 0 0), (7, .int .i64 i), (8, .str (pathB fs 9 x.id)), (11, .int .i64 k)] [.cells [.sl (fs.map Fld.cells), .int .i64 next]]).bind K = Z) (fun _ _ _ => True) ?_ ?_ () trivial
      · intro _ _
        have e : decide ((pre.length : Int) < i) = false := by rw [hip]; simp
        rw [← hip] at e ⊢
        rw [Run_loop]
        simp only [f_L06_SchemaPathsIdentify_l1_eq, f_L06_SchemaPathsIdentify_l1u, e, hK, go_sem]
      · intro k p2 r2 z _ hq2 _ _ _ hz hcz hwz _ ihz
        have ihz := ihz () trivial
        have hz2 := hpre k z hz
        have hzm : z ∈ pre := by rw [hq2]; simp
        obtain ⟨hzf, hnd⟩ := hoth z hzm
        have hPz := schema_Path sv 8 z.id (by omega) (sv.dp z hzf)
        rw [show 8 + 1 = 9 from rfl] at hPz
        rw [← hip] at hcz
        clear hq2
        generalize pathB fs 9 x.id = B at *
        generalize pathB fs 9 z.id = B2 at *
        rw [Run_loop]
        simp only [f_L06_SchemaPathsIdentify_l1_eq, f_L06_SchemaPathsIdentify_l1u, hz2, hcz, hwz, hPz, hnd, ihz, go_sem]
    clear hq hpre hoth
    generalize pathB fs 9 x.id = B at *
    rw [Run_loop]
    simp only [f_L06_SchemaPathsIdentify_l0_eq, f_L06_SchemaPathsIdentify_l0u, hx, hcx, hP, hF, hne, dxx, go_sem]
    refine inner ?_
    simp only [hw, ih, go_sem]
theorem row_SPI (xs : List AV) (h : Args Try.prog [22] xs) : Den prog 219 xs [] = some (.bool true, []) := by
  obtain ⟨n, x, ys, rfl, h1, h⟩ := h.one
  cases h.none
  obtain ⟨L, rfl, hL, hc⟩ := sh_chgs h1
  simp only [avOf, Try.underlying22]
  exact law_Paths L (by omega) hc
end Go.Den
