/- Package page: Runs pages; Encode, Best. -/
import Derived.Test.YtfjaimkpmehojaaGreatS10S
namespace Go.Den
open Go
set_option linter.unusedSimpArgs false
set_option linter.unusedVariables false
set_option maxRecDepth 100000
set_option maxHeartbeats 1000000
def cntA (v : Val) (r : List Val) : Nat := (r.takeWhile fun x => decide (x = v)).length
theorem cntA_le (v : Val) (r : List Val) : cntA v r ≤ r.length := (List.takeWhile_sublist _).length_le
theorem cntA_cons (v y : Val) (r : List Val) : cntA v (y :: r) = if y = v then cntA v r + 1 else 0 := by
  unfold cntA
  rw [List.takeWhile_cons]
  by_cases h : y = v <;> simp [h]
theorem runsA_eq (v : Val) : ∀ (r : List Val) (n : Nat), runsA v n r = (n + cntA v r, v) :: runs (r.drop (cntA v r))
  | [], n => rfl
  | y :: r, n => by
    rw [runsA, cntA_cons]
    by_cases h : y = v
    · rw [if_pos h, if_pos h, runsA_eq v r (n + 1), List.drop_succ_cons, show n + (cntA v r + 1) = n + 1 + cntA v r by omega]
    · rw [if_neg h, if_neg h]; rfl
theorem runs_cons (v : Val) (r : List Val) : runs (v :: r) = (cntA v r + 1, v) :: runs (r.drop (cntA v r)) := by
  show runsA v 1 r = _
  rw [runsA_eq, Nat.add_comm]
theorem encV_len2 {v : Val} {t : Int} (h : okV v t = true) (hi : InB v) : (encV v t).length ≤ 211 := by
  have h1 := okV_size h
  have h2 := leb_len10 (show v.s.size < 18446744073709551616 by omega)
  have h3 := leb_len10 (zz_lt hi.1 hi.2)
  have h4 : v.s.data.toList.length = v.s.size := rfl
  unfold encV
  cases (!(typeOk t && okV v t)) <;> cases v.null <;> cases decide (t = 4) <;> simp only [cond_true, cond_false, List.length_append, List.length_cons, List.length_nil] <;> omega
theorem runs_l1 (v : Val) (t : Int) (O : AV) (r : List Val) (E : List (List AV)) (hE : E = (v :: r).map Val.cells) (hr : r.length ≤ 1024) (hO : O.noref = true) {K : Ex × Env × St → Option (AV × St)} {Z : Option (AV × St)} (c : Nat) (hc : c = cntA v r + 1)
    (hK : K (.exit 2, [(1, .sl E), (2, .int .i64 t), (7, O), (8, .int .i64 c), (25, .bool false)], []) = Z) :
    (Run prog 0 (.loop 0 [1, 2, 7, 8] f_page_runs_encode_l1) [(1, .sl E), (2, .int .i64 t), (7, O), (8, .int .i64 1)] []).bind K = Z := by
  have hEl : E.length = r.length + 1 := by rw [hE]; simp
  have hg0 : getE E 0 = some [.bool v.null, .int .i64 v.n, .str v.s] := by rw [hE]; rfl
  have key : ∀ (rest pre : List Val) (k : Nat), r = pre ++ rest → (∀ x ∈ pre, x = v) → k = pre.length + 1 → (Run prog 0 (.loop 0 [1, 2, 7, 8] f_page_runs_encode_l1) [(1, .sl E), (2, .int .i64 t), (7, O), (8, .int .i64 k)] []).bind K = Z := by
    intro rest
    induction rest with
    | nil =>
      intro pre k h1 h2 h3
      have e : c = k := by
        rw [List.append_nil] at h1
        rw [hc, h1, h3]
        have : ∀ l : List Val, (∀ x ∈ l, x = v) → cntA v l = l.length := by
          intro l
          induction l with
          | nil => intro _; rfl
          | cons a l ih => intro h; rw [cntA_cons, if_pos (h a (List.mem_cons_self ..)), ih fun x hx => h x (List.mem_cons_of_mem _ hx)]; rfl
        rw [this pre h2]
      subst e
      have hl : r.length + 1 = c := by rw [h1, h3]; simp
      have d : decide ((c : Int) < (E.length : Int)) = false := by simp; omega
      clear h1 h2 h3 hE
      rw [Run_loop]
      simp only [f_page_runs_encode_l1_eq, f_page_runs_encode_l1u, d, hO, hK, go_sem]
    | cons y rest ih =>
      intro pre k h1 h2 h3
      have hl : r.length = pre.length + 1 + rest.length := by rw [h1]; simp; omega
      have d : decide ((k : Int) < (E.length : Int)) = true := by simp; omega
      have hgy : getE E (k : Int) = some [.bool y.null, .int .i64 y.n, .str y.s] := by
        rw [hE, getE_nat, h3, List.getElem?_map, List.getElem?_cons_succ, h1, List.getElem?_append_right (Nat.le_refl _), Nat.sub_self]; rfl
      have hve := val_eq y v
      have w1 : IntKind.wrap .i64 ((k : Int) + 1) = ((k + 1 : Nat) : Int) := by rw [wrap_i64 (by omega) (by omega)]; simp
      rw [Run_loop]
      by_cases e : y = v
      · rw [decide_eq_true e] at hve
        have ih := ih (pre ++ [y]) (k + 1) (by rw [h1]; simp) (by intro x hx; rcases List.mem_append.1 hx with h | h; exact h2 x h; simp at h; rw [h, e]) (by simp [h3])
        clear h1 h2 h3 hE
        simp only [go_sem] at ih
        simp only [f_page_runs_encode_l1_eq, f_page_runs_encode_l1u, d, hgy, hg0, hve, w1, hO, ih, go_sem]
      · rw [decide_eq_false e] at hve
        have ec : c = k := by
          have : ∀ l : List Val, (∀ x ∈ l, x = v) → cntA v (l ++ y :: rest) = l.length := by
            intro l
            induction l with
            | nil => intro _; rw [List.nil_append, cntA_cons, if_neg e]; rfl
            | cons a l ih => intro h; rw [List.cons_append, cntA_cons, if_pos (h a (List.mem_cons_self ..)), ih fun x hx => h x (List.mem_cons_of_mem _ hx)]; rfl
          rw [hc, h1, this pre h2, h3]
        subst ec
        clear h1 h2 h3 ih hE
        simp only [f_page_runs_encode_l1_eq, f_page_runs_encode_l1u, d, hgy, hg0, hve, hO, hK, go_sem]
  exact key r [] 1 rfl (by simp) rfl
theorem runs_len : ∀ (f : Nat) (l : List Val), l.length ≤ f → (runs l).length ≤ l.length
  | _, [], _ => Nat.le_refl _
  | 0, v :: r, h => by simp at h
  | f + 1, v :: r, h => by
    rw [runs_cons, List.length_cons, List.length_cons]
    have := runs_len f (r.drop (cntA v r)) (by simp at h ⊢; omega)
    simp only [List.length_drop] at this
    omega
theorem runs_encode (l : List Val) (t : Int) (hl : l.length ≤ 1024) (hc : Col l t) : Den prog 520 [.agg [], .sl (l.map Val.cells), .int .i64 t] [] = some (.sl ((runsP l t).map bcell), []) := by
  rw [Den_ofK [] pr_page_runs_encode rfl]
  simp only [f_page_runs_encode, go_sem]
  have key : ∀ (f : Nat) (rest : List Val) (O : List UInt8), rest.length ≤ f → rest.length ≤ 1024 → Col rest t → O.length + 300 * rest.length ≤ 1000000 → ∀ (A : AV) (_ : A = .sl (O.map bcell) ∨ (A = .nils ∧ O = [])) (K : Ex × Env × St → Option (AV × St)) (Z : Option (AV × St)),
      (∀ A', (A' = .sl ((O ++ runsP rest t).map bcell) ∨ (A' = .nils ∧ O ++ runsP rest t = [])) → K (.exit 0, [(1, .sl []), (2, .int .i64 t), (7, A'), (11, .bool false)], []) = Z) →
      (Run prog 0 (.loop 0 [1, 2, 7] f_page_runs_encode_l0) [(1, .sl (rest.map Val.cells)), (2, .int .i64 t), (7, A)] []).bind K = Z := by
    intro f
    induction f with
    | zero =>
      intro rest O h1 _ _ _ A hA K Z hK
      have : rest = [] := List.eq_nil_of_length_eq_zero (by omega)
      subst this
      have hK := hK A (by simpa [runsP, runs] using hA)
      have hno : A.noref = true := by rcases hA with rfl | ⟨rfl, _⟩ <;> rfl
      rw [Run_loop]
      simp only [f_page_runs_encode_l0_eq, f_page_runs_encode_l0u, List.map_nil, hK, hno, go_sem]
    | succ f ih =>
      intro rest O h1 h2 h3 h4 A hA K Z hK
      cases rest with
      | nil =>
        have hK := hK A (by simpa [runsP, runs] using hA)
        have hno : A.noref = true := by rcases hA with rfl | ⟨rfl, _⟩ <;> rfl
        clear ih
        rw [Run_loop]
        simp only [f_page_runs_encode_l0_eq, f_page_runs_encode_l0u, List.map_nil, hK, hno, go_sem]
      | cons v r =>
        simp only [List.length_cons] at h1 h2 h4
        have hcv := h3 v (List.mem_cons_self ..)
        have hcl := cntA_le v r
        have hel := encV_len2 hcv.1 hcv.2
        have hlb := leb_len10 (show cntA v r + 1 < 18446744073709551616 by omega)
        have hno : A.noref = true := by rcases hA with rfl | ⟨rfl, _⟩ <;> rfl
        have hu := wire_U2 O (cntA v r + 1) (by omega) (by omega)
        have hsz := okV_size hcv.1
        have he := value_Encode (O ++ leb (cntA v r + 1)) v.null v.n v.s t (by rw [List.length_append]; omega) (by omega) hcv.2
        have ec : (O ++ leb (cntA v r + 1)) ++ encV ⟨v.null, v.n, v.s⟩ t = O ++ runB t (cntA v r + 1, v) := by rw [List.append_assoc]; rfl
        rw [ec] at he
        have hrl : O ++ runB t (cntA v r + 1, v) ++ runsP (r.drop (cntA v r)) t = O ++ runsP (v :: r) t := by
          unfold runsP
          rw [runs_cons, List.flatMap_cons, List.append_assoc]
        have hrb : (runB t (cntA v r + 1, v)).length ≤ 221 := by
          show (leb (cntA v r + 1) ++ encV v t).length ≤ 221
          rw [List.length_append]; omega
        have ih := ih (r.drop (cntA v r)) (O ++ runB t (cntA v r + 1, v)) (by simp; omega) (by simp; omega) (fun w hw => h3 w (List.mem_cons_of_mem _ (List.mem_of_mem_drop hw))) (by rw [List.length_append, List.length_drop]; omega) _ (.inl rfl) K Z (by rw [hrl]; exact hK)
        have hl1 := fun K Z => runs_l1 v t A r ((v :: r).map Val.cells) rfl (by omega) hno (K := K) (Z := Z) (cntA v r + 1) rfl
        have hEl : ((v :: r).map Val.cells).length = r.length + 1 := by simp
        have d0 : decide ((0 : Int) < (((v :: r).map Val.cells).length : Int)) = true := by rw [hEl]; simp; try omega
        have w1 : IntKind.wrap .u64 (((cntA v r + 1 : Nat)) : Int) = ((cntA v r + 1 : Nat) : Int) := wrap_u64 (by omega) (by omega)
        have hdr : ((v :: r).map Val.cells).drop (cntA v r + 1) = (r.drop (cntA v r)).map Val.cells := by
          rw [List.map_cons, List.drop_succ_cons, List.map_drop]
        have hcI : ((cntA v r + 1 : Nat) : Int) ≤ (((v :: r).map Val.cells).length : Int) := by rw [hEl]; omega
        have hsz3 : szOK 3 ((v :: r).map Val.cells) = True := by
          rw [szOK_map 3 Val.cells (v :: r) (fun _ => rfl)]
        have hg0 : getE ((v :: r).map Val.cells) 0 = some [.bool v.null, .int .i64 v.n, .str v.s] := rfl
        clear hK hrl ec hlb hel hrb
        generalize O ++ runB t (cntA v r + 1, v) = O2 at *
        generalize O ++ leb (cntA v r + 1) = O1 at *
        generalize cntA v r + 1 = c at *
        generalize (v :: r).map Val.cells = E at *
        generalize (r.drop (cntA v r)).map Val.cells = E2 at *
        rw [Run_loop]
        rcases hA with rfl | ⟨rfl, rfl⟩
        · simp only [f_page_runs_encode_l0_eq, f_page_runs_encode_l0u, d0, go_sem]
          refine hl1 _ _ ?_
          simp only [w1, hu, he, hg0, hdr, hcI, hsz3, ih, go_sem]
        · simp only [f_page_runs_encode_l0_eq, f_page_runs_encode_l0u, d0, go_sem]
          refine hl1 _ _ ?_
          rw [List.map_nil] at hu
          simp only [w1, hu, he, hg0, hdr, hcI, hsz3, ih, go_sem]
  refine key l.length l [] (Nat.le_refl _) hl hc (by simp; omega) (.sl []) (.inl rfl) _ _ ?_
  intro A' hA'
  rcases hA' with rfl | ⟨rfl, h0⟩
  · simp only [List.nil_append, go_sem]
  · rw [List.nil_append] at h0
    rw [h0]
    simp only [go_sem]
end Go.Den
