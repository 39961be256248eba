
import Derived.Test.YtghipgdajgeoiaaGreatDoorS06M
import Derived.Test.YtghipgdajgeoiaaGreatDoorS06L
import Derived.Test.YtghipgdajgeoiaaGreatDoorS06O
/-! Paths: plain facts. -/
namespace Go.Den
open Go
set_option linter.unusedSimpArgs false
set_option linter.unusedVariables false
set_option maxRecDepth 100000
set_option maxHeartbeats 1000000
/-- The path of a field, as bytes; k bounds how far up it goes. -/
def pathL (fs : List Fld) : Nat → Int → List UInt8
  | 0, _ => []
  | k + 1, id => if hasF fs id then (if pathL fs k (getF fs id).par = [] then (getF fs id).name.data.toList else pathL fs k (getF fs id).par ++ 46 :: (getF fs id).name.data.toList) else []
def nmL (s : ByteArray) : List UInt8 := s.data.toList
theorem nameOk_list {s : ByteArray} (h : nameOk s = true) : s.data.toList ≠ [] ∧ s.data.toList.length ≤ 32 ∧ ∀ b ∈ s.data.toList, b ≠ 46 ∧ b ≠ 32 := by
  unfold nameOk at h
  simp only [Bool.and_eq_true, decide_eq_true_eq, List.all_eq_true] at h
  obtain ⟨h1, h2, h3⟩ := h
  have hs : s.data.toList.length = s.size := by rw [Array.length_toList]; rfl
  refine ⟨fun e => ?_, by omega, fun b hb => ?_⟩
  · rw [e] at hs; simp at hs; omega
  · have := h1 b hb
    constructor
    · rintro rfl; revert this; decide
    · rintro rfl; revert this; decide
theorem pathL_some {fs : List Fld} {id : Int} (h : hasF fs id = true) (k : Nat) : pathL fs (k + 1) id = if pathL fs k (getF fs id).par = [] then (getF fs id).name.data.toList else pathL fs k (getF fs id).par ++ 46 :: (getF fs id).name.data.toList := by
  rw [pathL, if_pos h]
theorem pathL_zero (fs : List Fld) (h : hasF fs 0 = false) : ∀ k, pathL fs k 0 = []
  | 0 => rfl
  | k + 1 => by rw [pathL, h]; rfl
/-- More steps do not change it. -/
theorem pathL_more {fs : List Fld} (h0 : hasF fs 0 = false) : ∀ {k : Nat} {id : Int}, Dp fs k id → ∀ m, k ≤ m → pathL fs m id = pathL fs k id
  | 0, id, h, m, _ => by rw [h, pathL_zero fs h0, pathL_zero fs h0]
  | k + 1, id, h, m, hm => by
    obtain ⟨m, rfl⟩ : ∃ m', m = m' + 1 := ⟨m - 1, by omega⟩
    rcases h with h | ⟨h1, h2⟩
    · rw [h, pathL_zero fs h0, pathL_zero fs h0]
    · rw [pathL, pathL, pathL_more h0 h2 m (by omega)]
theorem split46 : ∀ {u w a b : List UInt8}, (∀ x ∈ a, x ≠ 46) → (∀ x ∈ b, x ≠ 46) → u ++ 46 :: a = w ++ 46 :: b → u = w ∧ a = b := by
  intro u
  induction u with
  | nil =>
    intro w a b ha hb h
    cases w with
    | nil => simp at h; exact ⟨rfl, h⟩
    | cons y w =>
      simp only [List.nil_append, List.cons_append, List.cons.injEq] at h
      exact absurd rfl (ha 46 (by rw [h.2]; simp))
  | cons x u ih =>
    intro w a b ha hb h
    cases w with
    | nil =>
      simp only [List.nil_append, List.cons_append, List.cons.injEq] at h
      exact absurd rfl (hb 46 (by rw [← h.2]; simp))
    | cons y w =>
      simp only [List.cons_append, List.cons.injEq] at h
      obtain ⟨h1, h2⟩ := ih ha hb h.2
      exact ⟨by rw [h.1, h1], h2⟩
theorem bytes_ext {s t : ByteArray} (h : s.data.toList = t.data.toList) : s = t := by
  cases s; cases t
  congr
  exact Array.toList_inj.1 h
theorem SV.no0 {fs : List Fld} {next : Int} (s : SV fs next) : hasF fs 0 = false := by
  cases h : hasF fs 0 with
  | false => rfl
  | true =>
    obtain ⟨e, hm⟩ := getF_id h
    have := s.n.q.pos _ hm; omega
theorem path_ne {fs : List Fld} {next : Int} (s : SV fs next) {k : Nat} {id : Int} (h : hasF fs id = true) : pathL fs (k + 1) id ≠ [] := by
  rw [pathL, h]
  simp only [if_true]
  split
  · exact (nameOk_list (s.nm _ (getF_id h).2)).1
  · simp
/-- Different fields have different paths. -/
theorem path_inj {fs : List Fld} {next : Int} (s : SV fs next) : ∀ (k : Nat) {a b : Int}, hasF fs a = true → hasF fs b = true → Dp fs k (getF fs a).par → Dp fs k (getF fs b).par → pathL fs (k + 1) a = pathL fs (k + 1) b → a = b := by
  intro k
  induction k with
  | zero =>
    intro a b ha hb da db h
    obtain ⟨ea, ma⟩ := getF_id ha
    obtain ⟨eb, mb⟩ := getF_id hb
    rw [pathL_some ha, pathL_some hb] at h
    simp only [if_true, pathL] at h
    by_cases hne : a = b
    · exact hne
    · exfalso
      refine un_ne s.un ma mb (by rw [ea, eb]; exact hne) ⟨?_, bytes_ext h⟩
      rw [show (getF fs a).par = 0 from da, show (getF fs b).par = 0 from db]
  | succ k ih =>
    intro a b ha hb da db h
    obtain ⟨ea, ma⟩ := getF_id ha
    obtain ⟨eb, mb⟩ := getF_id hb
    have na := nameOk_list (s.nm _ ma)
    have nb := nameOk_list (s.nm _ mb)
    by_cases hne : a = b
    · exact hne
    exfalso
    rw [pathL_some ha, pathL_some hb] at h
    have key : ∀ {c : Int}, Dp fs (k + 1) c → (pathL fs (k + 1) c = [] ↔ c = 0) := by
      intro c hc
      constructor
      · intro e
        rcases hc with h0 | ⟨h1, _⟩
        · exact h0
        · exact absurd e (path_ne s h1)
      · rintro rfl; exact pathL_zero fs s.no0 _
    have ka := key da
    have kb := key db
    by_cases pa : (getF fs a).par = 0 <;> by_cases pb : (getF fs b).par = 0
    · rw [if_pos (ka.2 pa), if_pos (kb.2 pb)] at h
      exact un_ne s.un ma mb (by rw [ea, eb]; exact hne) ⟨by rw [pa, pb], bytes_ext h⟩
    · rw [if_pos (ka.2 pa), if_neg (fun e => pb (kb.1 e))] at h
      exact absurd rfl (na.2.2 46 (by rw [h]; simp)).1
    · rw [if_neg (fun e => pa (ka.1 e)), if_pos (kb.2 pb)] at h
      exact absurd rfl (nb.2.2 46 (by rw [← h]; simp)).1
    · rw [if_neg (fun e => pa (ka.1 e)), if_neg (fun e => pb (kb.1 e))] at h
      obtain ⟨h1, h2⟩ := split46 (fun x hx => (na.2.2 x hx).1) (fun x hx => (nb.2.2 x hx).1) h
      rcases da with d0 | ⟨da1, da2⟩
      · exact pa d0
      · rcases db with d0 | ⟨db1, db2⟩
        · exact pb d0
        · have := ih da1 db1 da2 db2 h1
          exact un_ne s.un ma mb (by rw [ea, eb]; exact hne) ⟨this, bytes_ext h2⟩
/-- No path holds a space. -/
theorem path_space {fs : List Fld} {next : Int} (s : SV fs next) : ∀ (k : Nat) (id : Int), ∀ b ∈ pathL fs k id, b ≠ 32
  | 0, id, b, h => by simp [pathL] at h
  | k + 1, id, b, h => by
    rw [pathL] at h
    split at h
    · rename_i hf
      have nn := nameOk_list (s.nm _ (getF_id hf).2)
      split at h
      · exact (nn.2.2 b h).2
      · rcases List.mem_append.1 h with h | h
        · exact path_space s k _ b h
        · rcases List.mem_cons.1 h with rfl | h
          · decide
          · exact (nn.2.2 b h).2
    · simp at h
theorem path_len {fs : List Fld} {next : Int} (s : SV fs next) : ∀ (k : Nat) (id : Int), (pathL fs k id).length ≤ 33 * k
  | 0, id => by simp [pathL]
  | k + 1, id => by
    rw [pathL]
    split
    · rename_i hf
      have nn := nameOk_list (s.nm _ (getF_id hf).2)
      have := path_len s k (getF fs id).par
      split
      · omega
      · rw [List.length_append, List.length_cons]; omega
    · simp
end Go.Den

/-! Package schema: Path, Find. -/
namespace Go.Den
open Go Go.Proofs
set_option linter.unusedSimpArgs false
set_option linter.unusedVariables false
set_option maxRecDepth 100000
set_option maxHeartbeats 1000000
def pathB (fs : List Fld) (k : Nat) (id : Int) : ByteArray := ⟨(pathL fs k id).toArray⟩
theorem pathB_size {fs : List Fld} {next : Int} (s : SV fs next) (k : Nat) (id : Int) : (pathB fs k id).size ≤ 33 * k := by
  have := path_len s k id
  show (pathL fs k id).toArray.size ≤ _
  simpa using this
theorem bin_cat (kd : EK) (a b : ByteArray) (h : a.size + b.size ≤ 9223372036854775807) : bin .add kd (.str a) (.str b) = some (.str (a ++ b)) := by simp [bin, h]
end Go.Den

/-! SchemaPathsIdentify. -/
namespace Go.Den
open Go Go.Proofs
set_option linter.unusedSimpArgs false
set_option linter.unusedVariables false
set_option maxRecDepth 100000
set_option maxHeartbeats 1000000
theorem pathB_inj {fs : List Fld} {next : Int} (s : SV fs next) {x y : Fld} (hx : x ∈ fs) (hy : y ∈ fs) (h : pathB fs 9 x.id = pathB fs 9 y.id) : x.id = y.id := by
  have hgx := (getF_id (hasF_mem hx))
  have hgy := (getF_id (hasF_mem hy))
  have dx := Dp_succ (s.up7 hgx.2 (by rw [hgx.1]))
  have dy := Dp_succ (s.up7 hgy.2 (by rw [hgy.1]))
  refine path_inj s 8 (hasF_mem hx) (hasF_mem hy) dx dy ?_
  have := congrArg (fun b : ByteArray => b.data.toList) h
  simpa [pathB] using this
def fndP (fs : List Fld) (p : ByteArray) : List Fld → Option Fld := List.find? fun f => decide (pathB fs 9 f.id = p)
theorem fndP_self {fs : List Fld} {next : Int} (s : SV fs next) {x : Fld} (hx : x ∈ fs) : ∃ f, fndP fs (pathB fs 9 x.id) fs = some f ∧ f.id = x.id := by
  unfold fndP
  cases h : fs.find? fun f => decide (pathB fs 9 f.id = pathB fs 9 x.id) with
  | none =>
    rw [List.find?_eq_none] at h
    exact absurd (by simp) (h x hx)
  | some f =>
    have h1 := List.find?_some h
    exact ⟨f, rfl, pathB_inj s (List.mem_of_find?_eq_some h) hx (by simpa using h1)⟩
def noSuch : ByteArray := ⟨#[110, 111, 32, 115, 117, 99, 104, 32, 102, 105, 101, 108, 100]⟩
theorem fndP_no {fs : List Fld} {next : Int} (s : SV fs next) : fndP fs noSuch fs = none := by
  unfold fndP
  rw [List.find?_eq_none]
  intro f _ h
  have h : pathB fs 9 f.id = noSuch := by simpa using h
  have h2 := congrArg (fun b : ByteArray => b.data.toList) h
  simp only [pathB, noSuch] at h2
  exact path_space s 9 f.id 32 (by rw [show pathL fs 9 f.id = [110, 111, 32, 115, 117, 99, 104, 32, 102, 105, 101, 108, 100] from h2]; simp) rfl
end Go.Den
