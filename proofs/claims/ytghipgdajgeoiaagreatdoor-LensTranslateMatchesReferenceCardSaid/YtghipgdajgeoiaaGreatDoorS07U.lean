/- lens.Translate, whole. -/
import Derived.Test.YtghipgdajgeoiaaGreatDoorS07T
namespace Go.Den
open Go
set_option linter.unusedSimpArgs false
set_option linter.unusedVariables false
set_option maxRecDepth 100000
set_option maxHeartbeats 1000000
theorem lens_Translate (L : List Chg) (r : List Cell) (a b : Int) (hL : L.length < 1000000000) (hc : ∀ c ∈ L, COK c) (hr : r.length < 1000000000000000) (hb : RB r) :
    Den prog 249 [.sl (L.map Chg.cells), .agg [.sl (r.map Cell.cells)], .agg [.int .i64 a, .int .i64 b]] [] = some (.tup [.agg [.sl ((transL L r a b).1.map Cell.cells)], .int .i64 (transL L r a b).2], []) := by
  rw [Den_ofK [] pr_lens_Translate rfl]
  unfold transL
  cases a1 : decide (a < 0) with
  | true => simp only [f_lens_Translate, a1, Bool.true_or, cond_true, List.map_nil, go_sem]
  | false => cases a2 : decide ((L.length : Int) < a) with
    | true => simp only [f_lens_Translate, a1, a2, Bool.true_or, Bool.false_or, cond_true, List.map_nil, go_sem]
    | false => cases b1 : decide (b < 0) with
      | true => simp only [f_lens_Translate, a1, a2, b1, Bool.true_or, Bool.false_or, cond_true, List.map_nil, go_sem]
      | false => cases b2 : decide ((L.length : Int) < b) with
        | true => simp only [f_lens_Translate, a1, a2, b1, b2, Bool.true_or, Bool.false_or, cond_true, List.map_nil, go_sem]
        | false =>
          have ha0 : 0 ≤ a := by simp at a1; omega
          have hb0 : 0 ≤ b := by simp at b1; omega
          have ha2 : a ≤ (L.length : Int) := by simp at a2; omega
          have hb2 : b ≤ (L.length : Int) := by simp at b2; omega
          obtain ⟨m, hm⟩ : ∃ m : Nat, mxI a b = (m : Int) := ⟨(mxI a b).toNat, by unfold mxI; split <;> omega⟩
          have ham : a ≤ (m : Int) := by rw [← hm]; unfold mxI; split <;> omega
          have hbm : b ≤ (m : Int) := by rw [← hm]; unfold mxI; split <;> omega
          have hmL : m ≤ L.length := by
            have : mxI a b ≤ (L.length : Int) := by unfold mxI; split <;> omega
            omega
          rw [hm]
          unfold mxI at hm
          obtain ⟨na, rfl⟩ : ∃ n : Nat, a = (n : Int) := ⟨a.toNat, by omega⟩
          obtain ⟨nb, rfl⟩ : ∃ n : Nat, b = (n : Int) := ⟨b.toNat, by omega⟩
          have hm0 : (0 : Int) ≤ (m : Int) := by omega
          have hmi : (m : Int) ≤ (L.length : Int) := by omega
          have hzL := szOK_map 8 Chg.cells L (fun x => rfl)
          have htk : (L.map Chg.cells).take m = (L.take m).map Chg.cells := (List.map_take ..).symm
          have hlt : (L.take m).length = m := by rw [List.length_take]; omega
          simp only [Bool.or_self, cond_false, Int.toNat_natCast]
          simp only [f_lens_Translate, a1, a2, b1, b2, hm, hm0, hmi, hzL, htk, go_sem]
          generalize hLm : L.take m = M at *
          refine range_ind M (by omega) (fun i (B : List (List Fld × Int)) => (Run prog 0 (.loop 3 [0, 4, 6, 8, 9, 10, 11, 49, 50, 51] f_lens_Translate_l0) [(0, .sl (L.map Chg.cells)), (4, .rptr [.sl (r.map Cell.cells)]), (6, .ref 0 0), (8, .int .i64 (na : Int)), (9, .int .i64 (nb : Int)), (10, .ref 1 0), (11, .osl 2 0 B.length 0 B.length), (49, .sl (M.map Chg.cells)), (50, .int .i64 M.length), (51, .int .i64 i)]
            [.cells [.nils], .cells [.sl ((stA L i.toNat).fs.map Fld.cells), .int .i64 (stA L i.toNat).next], .arr 0 2 (B.map schc)]).bind _ = _)
            (fun i _ B => Chain L i.toNat ∧ Befs L i.toNat B) ?_ ?_ [([], 1)] ⟨⟨by simp, hc, rfl⟩, Befs.nil L⟩
          · intro B ⟨hch, hB⟩
            simp only [hlt, Int.toNat_natCast] at hch hB ⊢
            have hd : decide ((stA L m).e = 0) = true := by simpa using hch.e
            have hca := hch.down (show na ≤ m by omega)
            have sv := hca.sv
            have hft := schema_Fits (stA L na).fs (stA L na).next r (by have := sv.i.len; omega) hr hb
            have hgb := hB.get na (by omega)
            have hgm : (B.map schc)[na]? = some [.sl ((stA L na).fs.map Fld.cells), .int .i64 (stA L na).next] := by rw [List.getElem?_map, hgb]; rfl
            have hi0 : (0 : Int) ≤ (na : Int) := by omega
            have hBl := hB.len
            have hi1 : (na : Int) < ((B.length : Nat) : Int) := by omega
            have hlm : (B.map schc).length = B.length := by simp
            rw [hd]
            rw [Run_loop]
            cases ft : fitsS (stA L na).fs 0 r with
            | false =>
              rw [ft] at hft
              generalize B.map schc = BB at *
              simp only [f_lens_Translate_l0_eq, f_lens_Translate_l0u, hgm, hi0, hi1, hlm, hft, hlt, cond_true, cond_false, List.map_nil, go_sem]
            | true =>
              rw [ft] at hft
              have hrk := fits_rk sv ft
              have hkeep := lens_keep r (by have := hrk.len; omega)
              have hfA : ftA L na r := ft_of ft
              simp only [Bool.not_true, cond_false]
              simp only [f_lens_Translate_l0_eq, f_lens_Translate_l0u, hgm, hi0, hi1, hlm, hft, hlt, hkeep, go_sem]
              refine trans_fwd hL hch hB _ (na : Int) (nb : Int) hbm ((nb : Int) - (na : Int)).toNat na r rfl hfA ham ?_
              have hfF : ftA L na (fwdN L na ((nb : Int) - (na : Int)).toNat r) ∨ ((na : Int) - (nb : Int)).toNat = 0 := by
                by_cases h : nb ≤ na
                · left
                  rw [show ((nb : Int) - (na : Int)).toNat = 0 by omega]; exact hfA
                · right; omega
              simp only [go_sem]
              generalize fwdN L na ((nb : Int) - (na : Int)).toNat r = R at *
              rcases hfF with hfF | hz
              · refine trans_bak hL hch hB _ (nb : Int) (by omega) ((na : Int) - (nb : Int)).toNat na R rfl hfF (by omega) ?_
                simp only [go_sem]
              · have dz : decide ((nb : Int) < (na : Int)) = false := by simp; omega
                have e : bakN L na ((na : Int) - (nb : Int)).toNat R = R := by rw [hz]; cases na <;> rfl
                rw [e, Run_loop]
                simp only [f_lens_Translate_l2_eq, f_lens_Translate_l2u, dz, go_sem]
          · intro i pre rest x B hp hip hi0 hi1 hx hcx hw ⟨hch, hB⟩ ih
            obtain ⟨j, rfl⟩ : ∃ j : Nat, i = (j : Int) := ⟨i.toNat, by omega⟩
            rw [Int.toNat_natCast] at hch hB ⊢
            have hjm : j < m := by omega
            have hcj : L[j]? = some x := by
              have h1 := getE_nat M j
              rw [hx] at h1
              rw [← hLm, List.getElem?_take_of_lt hjm] at h1
              exact h1.symm
            have hxc := hc x (List.mem_of_getElem? hcj)
            have sv := hch.sv
            have hap := schema_Apply (stA L j).fs (stA L j).next x sv.i sv.n.q hxc
            have hfail := fun he => hch.fail hcj hjm he
            have hBl := hB.len
            have hbB : (B.length + 1) * 32 ≤ 140737488355328 := by omega
            have hstep : (applyC (stA L j).fs (stA L j).next x).e = 0 → Chain L (j + 1) ∧ (applyC (stA L j).fs (stA L j).next x).fs = (stA L (j + 1)).fs ∧ (applyC (stA L j).fs (stA L j).next x).next = (stA L (j + 1)).next := by
              intro he
              have e1 := afterS_snoc x (L.take j) [] 1 0 hch.e
              have d : decide ((applyC (afterS [] 1 0 (L.take j)).fs (afterS [] 1 0 (L.take j)).next x).e = 0) = true := by unfold stA at he; simpa using he
              rw [d, cond_true] at e1
              have ht : L.take (j + 1) = L.take j ++ [x] := by rw [List.take_add_one, hcj]; rfl
              have hz : (stA L (j + 1)).e = 0 := by unfold stA; rw [ht, e1]
              have hC : Chain L (j + 1) := ⟨by omega, hc, hz⟩
              obtain ⟨c', q1, _, _, q4, q5⟩ := hC.step
              rw [hcj] at q1; cases q1
              exact ⟨hC, q4, q5⟩
            have ih := fun he => ih (B ++ [((stA L (j + 1)).fs, (stA L (j + 1)).next)]) (by
              obtain ⟨q1, q2, q3⟩ := hstep he
              rw [show ((j : Int) + 1).toNat = j + 1 by omega]
              exact ⟨q1, hB.snoc⟩)
            rw [show ((j : Int) + 1).toNat = j + 1 by omega] at ih
            have hxx := cells_chg x
            rw [hxx] at hap
            have hlm : (B.map schc).length = B.length := by simp
            rw [Run_loop]
            by_cases he : (applyC (stA L j).fs (stA L j).next x).e = 0
            · have d : decide ((applyC (stA L j).fs (stA L j).next x).e = 0) = true := by simpa using he
              obtain ⟨q1, q2, q3⟩ := hstep he
              have ih := ih he
              simp only [SR.av] at hap
              rw [he, q2, q3] at hap
              have dz : decide ((0 : Int) = 0) = true := rfl
              clear hfail hstep hp hch hB sv
              generalize (stA L (j + 1)).fs = fs1 at *
              generalize (stA L (j + 1)).next = n1 at *
              simp only [List.map_append, List.map_cons, List.map_nil, schc, List.length_append, List.length_cons, List.length_nil, Nat.zero_add] at ih
              generalize hBB : B.map schc = BB at *
              simp only [f_lens_Translate_l0_eq, f_lens_Translate_l0u, hx, hcx, hw, hap, hxx, dz, hbB, hlm, ih, go_sem]
            · have d : decide ((applyC (stA L j).fs (stA L j).next x).e = 0) = false := by simpa using he
              have hf := hfail he
              have hm' : decide ((stA L m).e = 0) = false := by rw [hf]; exact d
              rw [hm', hf]
              simp only [SR.av] at hap
              clear hfail hstep hp hch hB sv ih
              generalize applyC (stA L j).fs (stA L j).next x = q at *
              simp only [f_lens_Translate_l0_eq, f_lens_Translate_l0u, hx, hcx, hw, hap, hxx, d, Bool.not_false, cond_true, List.map_nil, go_sem]
end Go.Den
