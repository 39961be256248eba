/- lens.Translate. -/
import Derived.Test.YtghipgdajgeoiaaGreatDoorS07G
namespace Go.Den
open Go
set_option linter.unusedSimpArgs false
set_option linter.unusedVariables false
set_option maxRecDepth 100000
set_option maxHeartbeats 1000000
/-! A list of changes, one after the other. -/
theorem afterS_snoc (c : Chg) : ∀ (L : List Chg) (fs : List Fld) (next i : Int), (afterS fs next i L).e = 0 →
    afterS fs next i (L ++ [c]) = bif decide ((applyC (afterS fs next i L).fs (afterS fs next i L).next c).e = 0)
      then ⟨(applyC (afterS fs next i L).fs (afterS fs next i L).next c).fs, (applyC (afterS fs next i L).fs (afterS fs next i L).next c).next, (afterS fs next i (L ++ [c])).at_, 0⟩
      else ⟨(afterS fs next i L).fs, (afterS fs next i L).next, (afterS fs next i (L ++ [c])).at_, (applyC (afterS fs next i L).fs (afterS fs next i L).next c).e⟩
  | [], fs, next, i, _ => by
    simp only [List.nil_append, afterS]
    by_cases h : (applyC fs next c).e = 0 <;> simp [h]
  | a :: r, fs, next, i, h => by
    by_cases d : (applyC fs next a).e = 0
    · have dt : decide ((applyC fs next a).e = 0) = true := by simpa using d
      have e1 : ∀ X, afterS fs next i (a :: X) = afterS (applyC fs next a).fs (applyC fs next a).next (i + 1) X := fun X => by rw [afterS, dt, cond_true]
      rw [e1] at h
      rw [List.cons_append, e1, e1]
      exact afterS_snoc c r _ _ _ h
    · have dt : decide ((applyC fs next a).e = 0) = false := by simpa using d
      rw [afterS, dt, cond_false] at h
      exact absurd h d
def stA (L : List Chg) (k : Nat) : AR := afterS [] 1 0 (L.take k)
structure Chain (L : List Chg) (m : Nat) : Prop where
  le : m ≤ L.length
  ok : ∀ c ∈ L, COK c
  e : (stA L m).e = 0
theorem Chain.down {L : List Chg} {m : Nat} (h : Chain L m) {k : Nat} (hk : k ≤ m) : Chain L k := by
  refine ⟨by have := h.le; omega, h.ok, ?_⟩
  have := (afterS_take (L.take m) k [] 1 0 h.e).1
  rw [List.take_take, Nat.min_eq_left hk] at this
  exact this
theorem Chain.sv {L : List Chg} {m : Nat} (h : Chain L m) : SV (stA L m).fs (stA L m).next :=
  afterS_sv _ (fun c hc => h.ok c (List.mem_of_mem_take hc)) SV.nil
theorem Chain.step {L : List Chg} {k : Nat} (h : Chain L (k + 1)) : ∃ c, L[k]? = some c ∧ COK c ∧ (applyC (stA L k).fs (stA L k).next c).e = 0 ∧ (applyC (stA L k).fs (stA L k).next c).fs = (stA L (k + 1)).fs ∧ (applyC (stA L k).fs (stA L k).next c).next = (stA L (k + 1)).next := by
  have hl := h.le
  have hk := (h.down (Nat.le_succ k)).e
  obtain ⟨c, hc⟩ : ∃ c, L[k]? = some c := ⟨L[k], List.getElem?_eq_getElem (by omega)⟩
  refine ⟨c, hc, h.ok c (List.mem_of_getElem? hc), ?_⟩
  have ht : L.take (k + 1) = L.take k ++ [c] := by rw [List.take_add_one, hc]; rfl
  have he := h.e
  have hs := afterS_snoc c (L.take k) [] 1 0 hk
  have e1 : stA L (k + 1) = afterS [] 1 0 (L.take k ++ [c]) := by unfold stA; rw [ht]
  rw [e1] at he ⊢
  unfold stA
  cases d : decide ((applyC (afterS [] 1 0 (L.take k)).fs (afterS [] 1 0 (L.take k)).next c).e = 0) with
  | true =>
    rw [d, cond_true] at hs
    rw [hs]
    exact ⟨by simpa using d, rfl, rfl⟩
  | false =>
    rw [d, cond_false] at hs
    rw [hs] at he
    simp only [decide_eq_false_iff_not] at d
    exact absurd he d
theorem Chain.eff {L : List Chg} {k : Nat} (h : Chain L (k + 1)) {c : Chg} (hc : L[k]? = some c) : Eff (tyF (stA L k).fs) (tyF (stA L (k + 1)).fs) c (stA L k).next := by
  obtain ⟨c', h1, _, h3, h4, _⟩ := h.step
  rw [hc] at h1; cases h1
  rw [← h4]
  exact eff_of (h.down (Nat.le_succ k)).sv h3
/-- Forward by k changes from the i-th on; back by k changes from the i-th on. -/
def fwdN (L : List Chg) : Nat → Nat → List Cell → List Cell
  | _, 0, r => r
  | i, k + 1, r => fwdN L (i + 1) k (match L[i]? with | some c => fwdL c (stA L i).next r | none => r)
def bakN (L : List Chg) : Nat → Nat → List Cell → List Cell
  | _, 0, r => r
  | 0, _ + 1, r => r
  | i + 1, k + 1, r => bakN L i k (match L[i]? with | some c => bakL c (stA L i).next r | none => r)
def ftA (L : List Chg) (k : Nat) (r : List Cell) : Prop := Ft (tyF (stA L k).fs) r
theorem fwd_step {L : List Chg} {i : Nat} (h : Chain L (i + 1)) {c : Chg} (hc : L[i]? = some c) {r : List Cell} (f : ftA L i r) : ftA L (i + 1) (fwdL c (stA L i).next r) :=
  fwd_ft (h.eff hc) (h.down (Nat.le_succ i)).sv.bd f
theorem bak_step {L : List Chg} {i : Nat} (h : Chain L (i + 1)) {c : Chg} (hc : L[i]? = some c) {r : List Cell} (f : ftA L (i + 1) r) : ftA L i (bakL c (stA L i).next r) :=
  bak_ft (h.eff hc) (h.down (Nat.le_succ i)).sv.bd f
theorem fwdN_ft {L : List Chg} {m : Nat} (h : Chain L m) : ∀ (k i : Nat) {r : List Cell}, i + k ≤ m → ftA L i r → ftA L (i + k) (fwdN L i k r)
  | 0, i, r, _, f => f
  | k + 1, i, r, hk, f => by
    obtain ⟨c, hc, _⟩ := (h.down (show i + 1 ≤ m by omega)).step
    rw [fwdN, hc, show i + (k + 1) = (i + 1) + k by omega]
    exact fwdN_ft h k (i + 1) (by omega) (fwd_step (h.down (by omega)) hc f)
theorem bakN_ft {L : List Chg} {m : Nat} (h : Chain L m) : ∀ (k i : Nat) {r : List Cell}, i ≤ m → k ≤ i → ftA L i r → ftA L (i - k) (bakN L i k r)
  | 0, i, r, _, _, f => by rw [Nat.sub_zero]; cases i <;> exact f
  | k + 1, 0, r, _, hk, _ => absurd hk (by omega)
  | k + 1, i + 1, r, hi, hk, f => by
    obtain ⟨c, hc, _⟩ := (h.down hi).step
    rw [bakN, hc, show i + 1 - (k + 1) = i - k by omega]
    exact bakN_ft h k i (by omega) (by omega) (bak_step (h.down hi) hc f)
theorem afterS_stop (Y : List Chg) : ∀ (X : List Chg) (fs : List Fld) (next i : Int), (afterS fs next i X).e ≠ 0 → (afterS fs next i (X ++ Y)).e = (afterS fs next i X).e
  | [], fs, next, i, h => absurd rfl h
  | a :: r, fs, next, i, h => by
    by_cases d : (applyC fs next a).e = 0
    · have dt : decide ((applyC fs next a).e = 0) = true := by simpa using d
      have e1 : ∀ X, afterS fs next i (a :: X) = afterS (applyC fs next a).fs (applyC fs next a).next (i + 1) X := fun X => by rw [afterS, dt, cond_true]
      rw [e1] at h
      rw [List.cons_append, e1, e1]
      exact afterS_stop Y r _ _ _ h
    · have dt : decide ((applyC fs next a).e = 0) = false := by simpa using d
      have e1 : ∀ X, afterS fs next i (a :: X) = ⟨fs, next, i, (applyC fs next a).e⟩ := fun X => by rw [afterS, dt, cond_false]
      rw [List.cons_append, e1, e1]
theorem Chain.fail {L : List Chg} {j m : Nat} (h : Chain L j) {c : Chg} (hc : L[j]? = some c) (hj : j < m) (he : (applyC (stA L j).fs (stA L j).next c).e ≠ 0) : (stA L m).e = (applyC (stA L j).fs (stA L j).next c).e := by
  have ht : L.take (j + 1) = L.take j ++ [c] := by rw [List.take_add_one, hc]; rfl
  have hs := afterS_snoc c (L.take j) [] 1 0 h.e
  have e1 : (afterS [] 1 0 (L.take (j + 1))).e = (applyC (stA L j).fs (stA L j).next c).e := by
    rw [ht, hs]
    have d : decide ((applyC (afterS [] 1 0 (L.take j)).fs (afterS [] 1 0 (L.take j)).next c).e = 0) = false := by unfold stA at he; simpa using he
    rw [d]; rfl
  have e2 : L.take m = L.take (j + 1) ++ (L.take m).drop (j + 1) := by
    have := (List.take_append_drop (j + 1) (L.take m)).symm
    rw [List.take_take, Nat.min_eq_left (by omega)] at this
    exact this
  unfold stA at e1 he ⊢
  rw [e2, afterS_stop _ _ _ _ _ (by rw [e1]; exact he), e1]
def mxI (a b : Int) : Int := if a < b then b else a
/-- What Translate comes to: the row and the error. -/
def transL (L : List Chg) (r : List Cell) (a b : Int) : List Cell × Int :=
  bif decide (a < 0) || (decide ((L.length : Int) < a) || (decide (b < 0) || decide ((L.length : Int) < b))) then ([], 1) else
  bif !decide ((stA L (mxI a b).toNat).e = 0) then ([], (stA L (mxI a b).toNat).e) else
  bif !fitsS (stA L a.toNat).fs 0 r then ([], 7) else
  (bakN L a.toNat (a - b).toNat (fwdN L a.toNat (b - a).toNat r), 0)
def schc (s : List Fld × Int) : List AV := [.sl (s.1.map Fld.cells), .int .i64 s.2]
attribute [go_sem] schc
/-- The list of schemas that Translate keeps. -/
structure Befs (L : List Chg) (m : Nat) (B : List (List Fld × Int)) : Prop where
  len : B.length = m + 1
  get : ∀ k, k ≤ m → B[k]? = some ((stA L k).fs, (stA L k).next)
theorem Befs.nil (L : List Chg) : Befs L 0 [([], 1)] := ⟨rfl, fun k hk => by
  have : k = 0 := by omega
  subst this
  have : stA L 0 = ⟨[], 1, 0, 0⟩ := by unfold stA; rw [List.take_zero]; rfl
  rw [this]; rfl⟩
theorem Befs.snoc {L : List Chg} {m : Nat} {B : List (List Fld × Int)} (h : Befs L m B) : Befs L (m + 1) (B ++ [((stA L (m + 1)).fs, (stA L (m + 1)).next)]) := ⟨by rw [List.length_append, h.len]; rfl, fun k hk => by
  by_cases e : k = m + 1
  · subst e
    rw [List.getElem?_append_right (by rw [h.len]; exact Nat.le_refl _), h.len]
    simp
  · rw [List.getElem?_append_left (by rw [h.len]; omega)]
    exact h.get k (by omega)⟩
section
variable {β : Type} {K : Ex × Env × St → Option β} {Z : Option β}
/-- One round forward. -/
theorem trans_fwd {L : List Chg} {m : Nat} (hL : L.length < 1000000000) (h : Chain L m) {B : List (List Fld × Int)} (hB : Befs L m B) (o1 : Ob) (a b : Int) (hb : b ≤ m) :
    ∀ (k i : Nat) (r : List Cell), (b - (i : Int)).toNat = k → ftA L i r → (i : Int) ≤ m →
    K (.exit 2, [(0, .sl (L.map Chg.cells)), (6, .ref 0 0), (8, .int .i64 a), (9, .int .i64 b), (11, .osl 2 0 B.length 0 B.length), (16, .ref 3 0), (17, .int .i64 ((i : Int) + k)), (84, .bool false)],
      [.cells [.nils], o1, .arr 0 2 (B.map schc), .cells [.sl ((fwdN L i k r).map Cell.cells)]]) = Z →
    (Run prog 0 (.loop 4 [0, 6, 8, 9, 11, 16, 17] f_lens_Translate_l1) [(0, .sl (L.map Chg.cells)), (6, .ref 0 0), (8, .int .i64 a), (9, .int .i64 b), (11, .osl 2 0 B.length 0 B.length), (16, .ref 3 0), (17, .int .i64 i)]
      [.cells [.nils], o1, .arr 0 2 (B.map schc), .cells [.sl (r.map Cell.cells)]]).bind K = Z := by
  intro k
  have hml := h.le
  have hBl := hB.len
  induction k with
  | zero =>
    intro i r hk f him hK
    have d : decide ((i : Int) < b) = false := by simp; omega
    simp only [Int.natCast_zero, Int.add_zero, fwdN] at hK
    rw [Run_loop]
    simp only [f_lens_Translate_l1_eq, f_lens_Translate_l1u, d, hK, go_sem]
  | succ k ih =>
    intro i r hk f him hK
    have d : decide ((i : Int) < b) = true := by simp; omega
    have hc1 := h.down (show i + 1 ≤ m by omega)
    obtain ⟨c, hc, hck, he, _, _⟩ := hc1.step
    have sv := (h.down (show i ≤ m by omega)).sv
    have hrk : RK r := fits_rk sv (of_ft sv.n.q.pos f)
    have hcall := call_fwd c (stA L i).next r hrk (applyC_sep he) (by have := sv.i.n0; omega) (by have := sv.i.n1; omega)
    have ho := lens_of c (stA L i).next
    have hg : getE L (i : Int) = some c := by rw [getE_nat]; exact hc
    have hgb := hB.get i (by omega)
    have hgm : (B.map schc)[i]? = some [.sl ((stA L i).fs.map Fld.cells), .int .i64 (stA L i).next] := by rw [List.getElem?_map, hgb]; rfl
    have hw : IntKind.wrap .i64 ((i : Int) + 1) = (i : Int) + 1 := wrap_i64 (by omega) (by omega)
    have ih := ih (i + 1) (fwdL c (stA L i).next r) (by omega) (fwd_step hc1 hc f) (by omega) (by
      rw [fwdN, hc] at hK
      have e : (((i + 1 : Nat) : Int) + (k : Int)) = (i : Int) + ((k + 1 : Nat) : Int) := by omega
      rw [e]; exact hK)
    rw [show (((i + 1 : Nat) : Int)) = (i : Int) + 1 from rfl] at ih
    have hi0 : (0 : Int) ≤ (i : Int) := by omega
    have hi1 : (i : Int) < ((B.length : Nat) : Int) := by omega
    have hlm : (B.map schc).length = B.length := by simp
    obtain ⟨x1, x2, xe, xn⟩ := fwdA_fn c (stA L i).next
    obtain ⟨y1, y2, ye, yn⟩ := bakA_fn c (stA L i).next
    rw [xe, ye] at ho
    rw [xe] at hcall
    rw [cells_chg] at ho
    clear hK hrk sv he hck hgb
    generalize fwdL c (stA L i).next r = r' at *
    generalize (stA L i).fs = fs at *
    generalize (stA L i).next = nx at *
    have hcc := cells_chg c
    generalize hBB : B.map schc = BB at *
    rw [Run_loop]
    simp only [f_lens_Translate_l1_eq, f_lens_Translate_l1u, d, hg, hgm, hi0, hi1, hlm, ho, hcall, hw, xn, yn, hcc, ih, go_sem]
/-- One round back. -/
theorem trans_bak {L : List Chg} {m : Nat} (hL : L.length < 1000000000) (h : Chain L m) {B : List (List Fld × Int)} (hB : Befs L m B) (o1 : Ob) (b : Int) (hb0 : 0 ≤ b) :
    ∀ (k i : Nat) (r : List Cell), ((i : Int) - b).toNat = k → ftA L i r → i ≤ m →
    K (.exit 4, [(0, .sl (L.map Chg.cells)), (6, .ref 0 0), (9, .int .i64 b), (11, .osl 2 0 B.length 0 B.length), (16, .ref 3 0), (18, .int .i64 ((i : Int) - k)), (103, .bool false)],
      [.cells [.nils], o1, .arr 0 2 (B.map schc), .cells [.sl ((bakN L i k r).map Cell.cells)]]) = Z →
    (Run prog 0 (.loop 4 [0, 6, 9, 11, 16, 18] f_lens_Translate_l2) [(0, .sl (L.map Chg.cells)), (6, .ref 0 0), (9, .int .i64 b), (11, .osl 2 0 B.length 0 B.length), (16, .ref 3 0), (18, .int .i64 i)]
      [.cells [.nils], o1, .arr 0 2 (B.map schc), .cells [.sl (r.map Cell.cells)]]).bind K = Z := by
  intro k
  have hml := h.le
  have hBl := hB.len
  induction k with
  | zero =>
    intro i r hk f him hK
    have d : decide (b < (i : Int)) = false := by simp; omega
    have e : bakN L i 0 r = r := by cases i <;> rfl
    simp only [Int.natCast_zero, Int.sub_zero, e] at hK
    rw [Run_loop]
    simp only [f_lens_Translate_l2_eq, f_lens_Translate_l2u, d, hK, go_sem]
  | succ k ih =>
    intro i r hk f him hK
    have d : decide (b < (i : Int)) = true := by simp; omega
    obtain ⟨i, rfl⟩ : ∃ i', i = i' + 1 := ⟨i - 1, by omega⟩
    have hc1 := h.down (show i + 1 ≤ m by omega)
    obtain ⟨c, hc, hck, he, _, _⟩ := hc1.step
    have sv := (h.down (show i ≤ m by omega)).sv
    have sv1 := hc1.sv
    have hrk : RK r := fits_rk sv1 (of_ft sv1.n.q.pos f)
    have hcall := call_bak c (stA L i).next r hrk (applyC_sep he) (by have := sv.i.n0; omega) (by have := sv.i.n1; omega)
    have ho := lens_of c (stA L i).next
    have hg : getE L (i : Int) = some c := by rw [getE_nat]; exact hc
    have hgb := hB.get i (by omega)
    have hgm : (B.map schc)[i]? = some [.sl ((stA L i).fs.map Fld.cells), .int .i64 (stA L i).next] := by rw [List.getElem?_map, hgb]; rfl
    have hw : IntKind.wrap .i64 ((i : Int) + 1 - 1) = (i : Int) := by rw [show ((i : Int) + 1 - 1) = i by omega]; exact wrap_i64 (by omega) (by omega)
    have ih := ih i (bakL c (stA L i).next r) (by omega) (bak_step hc1 hc f) (by omega) (by
      rw [bakN, hc] at hK
      have e : ((i : Int) - (k : Int)) = ((i + 1 : Nat) : Int) - ((k + 1 : Nat) : Int) := by omega
      rw [e]; exact hK)
    have hi0 : (0 : Int) ≤ (i : Int) := by omega
    have hi1 : (i : Int) < ((B.length : Nat) : Int) := by omega
    have hlm : (B.map schc).length = B.length := by simp
    obtain ⟨x1, x2, xe, xn⟩ := fwdA_fn c (stA L i).next
    obtain ⟨y1, y2, ye, yn⟩ := bakA_fn c (stA L i).next
    rw [xe, ye] at ho
    rw [ye] at hcall
    rw [cells_chg] at ho
    rw [show (((i + 1 : Nat) : Int)) = (i : Int) + 1 from rfl] at d ⊢
    clear hK hrk sv sv1 he hck hgb
    generalize bakL c (stA L i).next r = r' at *
    generalize (stA L i).fs = fs at *
    generalize (stA L i).next = nx at *
    have hcc := cells_chg c
    generalize hBB : B.map schc = BB at *
    rw [Run_loop]
    simp only [f_lens_Translate_l2_eq, f_lens_Translate_l2u, d, hg, hgm, hi0, hi1, hlm, ho, hcall, hw, xn, yn, hcc, ih, go_sem]
end
end Go.Den
