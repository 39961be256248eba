/- LensTranslateMatchesReference. -/
import Derived.Test.YtghipgdajgeoiaaGreatDoorS07ZD
namespace Go.Den
open Go Go.Proofs
set_option linter.unusedSimpArgs false
set_option linter.unusedVariables false
set_option maxRecDepth 100000
set_option maxHeartbeats 1000000
theorem transL_out {L : List Chg} {r : List Cell} {a b : Int} (h : a < 0 ∨ (L.length : Int) < a) : transL L r a b = ([], 1) := by
  unfold transL
  rcases h with h | h
  · rw [show decide (a < 0) = true by simpa using h, Bool.true_or]; rfl
  · rw [show decide ((L.length : Int) < a) = true by simpa using h, Bool.true_or, Bool.or_true]; rfl
theorem transL_len {L : List Chg} (hc : ∀ c ∈ L, COK c) (r : List Cell) (a b : Int) : (transL L r a b).1.length < 1000000000000000 := by
  cases a1 : decide (a < 0) with
  | true => unfold transL; rw [a1, Bool.true_or]; exact Nat.zero_lt_succ _
  | false => cases a2 : decide ((L.length : Int) < a) with
    | true => unfold transL; rw [a2, Bool.true_or, Bool.or_true]; exact Nat.zero_lt_succ _
    | false => cases b1 : decide (b < 0) with
      | true => unfold transL; rw [a1, a2, b1, Bool.true_or]; exact Nat.zero_lt_succ _
      | false => cases b2 : decide ((L.length : Int) < b) with
        | true => unfold transL; rw [a1, a2, b1, b2]; exact Nat.zero_lt_succ _
        | false =>
          have ha0 : 0 ≤ a := by simp at a1; omega
          have hb0 : 0 ≤ b := by simp at b1; omega
          have ha2 : a ≤ (L.length : Int) := by simp at a2; omega
          have hb2 : b ≤ (L.length : Int) := by simp at b2; omega
          cases d : decide ((stA L (mxI a b).toNat).e = 0) with
          | false => unfold transL; rw [a1, a2, b1, b2, d]; exact Nat.zero_lt_succ _
          | true => cases ft : fitsS (stA L a.toNat).fs 0 r with
            | false => unfold transL; rw [a1, a2, b1, b2, d, ft]; exact Nat.zero_lt_succ _
            | true =>
              have ham : a ≤ mxI a b := by unfold mxI; split <;> omega
              have hbm : b ≤ mxI a b := by unfold mxI; split <;> omega
              have hmL : mxI a b ≤ (L.length : Int) := by unfold mxI; split <;> omega
              have hch : Chain L (mxI a b).toNat := ⟨by omega, hc, of_decide_eq_true d⟩
              have hak : a.toNat ≤ (mxI a b).toNat := by omega
              have hbk : b.toNat ≤ (mxI a b).toNat := by omega
              obtain ⟨t1, t2⟩ := transL_ok hch hak hbk (ft_of ft)
              rw [show ((a.toNat : Nat) : Int) = a by omega, show ((b.toNat : Nat) : Int) = b by omega] at t1
              rw [t1]
              have sv := (hch.down hbk).sv
              have := (fits_rk sv (of_ft sv.n.q.pos t2)).len
              simp only []
              omega
theorem twoT {L : List Chg} (hL : L.length < 1000000000) (hc : ∀ c ∈ L, COK c) (r : List Cell) (a b : Int) (hr : r.length < 1000000000000000) (hb : RB r) : ∃ (A : List Cell) (e : Int), (A, e) = transL L r a b ∧
    Den prog 249 [.sl (L.map Chg.cells), .agg [.sl (r.map Cell.cells)], .agg [.int .i64 a, .int .i64 b]] [] = some (.tup [.agg [.sl (A.map Cell.cells)], .int .i64 e], []) ∧
    Den prog 264 [.sl (L.map Chg.cells), .agg [.sl (r.map Cell.cells)], .agg [.int .i64 a, .int .i64 b]] [] = some (.tup [.agg [.sl (A.map Cell.cells)], .int .i64 e], []) ∧
    Den prog 12 [.agg [.sl (A.map Cell.cells)], .agg [.sl (A.map Cell.cells)]] [] = some (.bool true, []) :=
  ⟨_, _, rfl, lens_Translate L r a b hL hc hr hb, R07_Translate L r a b hL hc hr hb, Same_self _ (transL_len hc r a b)⟩
theorem law_LTMR (L : List Chg) (c : Chg) (V : List Val) (W : List Cell) (a b : Int) (hk : CaseOk L c V) (hW : W.length < 1000000000000000) (hWb : RB W) : Den prog 266 [caseC L c V, .agg [.sl (W.map Cell.cells)], .agg [.int .i64 a, .int .i64 b]] [] = some (.bool true, []) := by
  have hsm := small07 L c V hk.v
  have hcL : ∀ c ∈ L, COK c := fun c h => ⟨(hk.lc c h).name, (hk.lc c h).other⟩
  have hm := R06_Made L 20 hk.l hk.lc (by omega) (by omega)
  rw [show (20 : Int).toNat = 20 from rfl] at hm
  have hml := madeC_len (L.take 20) [] 1
  rw [List.length_take] at hml
  have hcM := madeC_ok (L.take 20) [] 1
  have hmc := chain_made L 20
  have hv := hk.vb
  have hT1 := fun (h : L.length < 1000000000) => twoT h hcL W a b hW hWb
  generalize madeC [] 1 (L.take 20) = M at *
  obtain ⟨A2, e2, q2, t2, r2, s2⟩ := twoT (L := M) (by omega) hcM W a b hW hWb
  rw [Den_ofK [] pr_L07_LensTranslateMatchesReference rfl]
  unfold caseC at hsm ⊢
  cases d0 : smallB L c V with
  | false =>
    rw [d0] at hsm
    simp only [f_L07_LensTranslateMatchesReference, hsm, go_sem]
  | true =>
    rw [d0] at hsm
    cases dl : decide (20 < (L.length : Int)) with
    | true => simp only [f_L07_LensTranslateMatchesReference, hsm, dl, go_sem]
    | false => cases dw : decide (200 < (W.length : Int)) with
      | true => simp only [f_L07_LensTranslateMatchesReference, hsm, dl, dw, go_sem]
      | false =>
        obtain ⟨A1, e1, _, t1, r1, s1⟩ := hT1 (by simp at dl; omega)
        clear hT1 hW hWb hcL hk
        cases a1 : decide (a < 0) with
        | true =>
          rw [transL_out (.inl (of_decide_eq_true a1))] at q2
          have q2 : e2 = 1 := congrArg Prod.snd q2
          subst q2
          simp only [f_L07_LensTranslateMatchesReference, hsm, dl, dw, hm, t1, r1, s1, t2, r2, s2, a1, go_sem]
        | false => cases a2 : decide ((M.length : Int) < a) with
          | true =>
            rw [transL_out (.inr (of_decide_eq_true a2))] at q2
            have q2 : e2 = 1 := congrArg Prod.snd q2
            subst q2
            simp only [f_L07_LensTranslateMatchesReference, hsm, dl, dw, hm, t1, r1, s1, t2, r2, s2, a1, a2, go_sem]
          | false =>
            clear q2
            have ha0 : 0 ≤ a := by simp at a1; omega
            have ha2 : a ≤ (M.length : Int) := by simp at a2; omega
            obtain ⟨na, rfl⟩ : ∃ n : Nat, a = (n : Int) := ⟨a.toNat, by omega⟩
            have hzM := szOK_map 8 Chg.cells M (fun x => rfl)
            have hta : (M.map Chg.cells).take na = (M.take na).map Chg.cells := (List.map_take ..).symm
            have hAa := R06_After (M.take na) (by rw [List.length_take]; omega) (fun c hx => hcM c (List.mem_of_mem_take hx))
            rw [show AR.av (afterS [] 1 0 (M.take na)) = .tup [.agg [.sl ((stA M na).fs.map Fld.cells), .int .i64 (stA M na).next], .int .i64 (stA M na).at_, .int .i64 (stA M na).e] from rfl] at hAa
            have sv := (hmc.down (show na ≤ M.length by omega)).sv
            have hl64 := sv.i.len
            have hR := R06_Row (stA M na).fs (stA M na).next V (by omega)
            have hrl := rowS_len (stA M na).fs V
            have hrb : RB (rowS (stA M na).fs V) := rowS_bnd sv (stA M na).fs V (fun _ h => h) hv
            obtain ⟨A3, e3, _, t3, r3, s3⟩ := twoT (L := M) (by omega) hcM (rowS (stA M na).fs V) (na : Int) b (by omega) hrb
            generalize rowS (stA M na).fs V = R at *
            clear hrb hrl hl64 sv hcM hmc hv hml
            simp only [f_L07_LensTranslateMatchesReference, hsm, dl, dw, hm, hzM, hta, hAa, hR, ha0, ha2, t1, r1, s1, t2, r2, s2, t3, r3, s3, a1, a2, go_sem]
theorem sh_two {n : Nat} {xs : List AV} (h : Sh Tryz.prog n 46 xs) : ∃ x y : Int, xs = [.int .i64 x, .int .i64 y] := by
  obtain ⟨parts, m, hl, rfl, hp⟩ := h.array Tryz.underlying46
  match parts, hl, hp with
  | [a, b], _, hp =>
    obtain ⟨x, rfl, hx⟩ := Sh.int (hp a (by simp)) Tryz.underlying3
    obtain ⟨y, rfl, hy⟩ := Sh.int (hp b (by simp)) Tryz.underlying3
    exact ⟨x, y, rfl⟩
theorem row_LTMR (xs : List AV) (h : Args Tryz.prog [27, 30, 46] xs) : Den prog 266 xs [] = some (.bool true, []) := by
  obtain ⟨n, x, ys, rfl, h1, h⟩ := h.one
  obtain ⟨n2, x2, ys2, rfl, h2, h⟩ := h.one
  obtain ⟨n3, x3, ys3, rfl, h3, h⟩ := h.one
  cases h.none
  obtain ⟨L, c, V, e, hk⟩ := sh_case h1
  obtain ⟨W, rfl, hW, hWb⟩ := sh_row7 h2
  obtain ⟨a, b, rfl⟩ := sh_two h3
  simp only [avOf, Tryz.underlying27, Tryz.underlying30, Tryz.underlying46]
  rw [e]
  exact law_LTMR L c V W a b hk hW hWb
end Go.Den
