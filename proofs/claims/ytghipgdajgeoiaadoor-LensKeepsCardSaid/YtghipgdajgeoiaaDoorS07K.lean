/- LensKeeps. -/
import Derived.Test.YtghipgdajgeoiaaDoorS07V
import Derived.Test.YtghipgdajgeoiaaDoorSh07
namespace Go.Den
open Go Go.Proofs
set_option linter.unusedSimpArgs false
set_option linter.unusedVariables false
set_option maxRecDepth 100000
set_option maxHeartbeats 1000000
theorem sh_three {n : Nat} {xs : List AV} (h : Sh Tryd.prog n 44 xs) : ∃ x y z : Int, xs = [.int .u8 x, .int .u8 y, .int .u8 z] ∧ (0 ≤ x ∧ x < 256) ∧ (0 ≤ y ∧ y < 256) ∧ (0 ≤ z ∧ z < 256) := by
  obtain ⟨parts, m, hl, rfl, hp⟩ := h.array Tryd.underlying44
  match parts, hl, hp with
  | [a, b, c], _, hp =>
    obtain ⟨x, rfl, hx⟩ := Sh.int (hp a (by simp)) Tryd.underlying5
    obtain ⟨y, rfl, hy⟩ := Sh.int (hp b (by simp)) Tryd.underlying5
    obtain ⟨z, rfl, hz⟩ := Sh.int (hp c (by simp)) Tryd.underlying5
    simp [Lit.wf, IntKind.min, IntKind.max, IntKind.bits, IntKind.signed] at hx hy hz
    exact ⟨x, y, z, rfl, by omega, by omega, by omega⟩
theorem stA_av (M : List Chg) (k : Nat) : AR.av (afterS [] 1 0 (M.take k)) = .tup [.agg [.sl ((stA M k).fs.map Fld.cells), .int .i64 (stA M k).next], .int .i64 (stA M k).at_, .int .i64 (stA M k).e] := rfl
theorem law_LensKeeps (L : List Chg) (c : Chg) (V : List Val) (hk : CaseOk L c V) (x y z : Int) (hx : 0 ≤ x ∧ x < 256) (hy : 0 ≤ y ∧ y < 256) (hz : 0 ≤ z ∧ z < 256) :
    Den prog 256 [caseC L c V, .agg [.int .u8 x, .int .u8 y, .int .u8 z]] [] = some (.bool true, []) := by
  have hsm := small07 L c V hk.v
  have hm := R06_Made L 20 hk.l hk.lc (by omega) (by omega)
  rw [show (20 : Int).toNat = 20 from rfl] at hm
  have hml := madeC_len (L.take 20) [] 1
  rw [List.length_take] at hml
  have hch := chain_made L 20
  generalize madeC [] 1 (L.take 20) = M at *
  have hpl := places07 x y z M.length hx hy hz (by omega) (by omega)
  obtain ⟨px0, px1⟩ := plI_bd (n := (M.length : Int)) hx.1 (by omega)
  obtain ⟨py0, py1⟩ := plI_bd (n := (M.length : Int)) hy.1 (by omega)
  generalize plI x M.length = a at *
  generalize plI y M.length = b at *
  generalize plI z M.length = d at *
  obtain ⟨na, rfl⟩ : ∃ n : Nat, a = (n : Int) := ⟨a.toNat, by omega⟩
  obtain ⟨nb, rfl⟩ : ∃ n : Nat, b = (n : Int) := ⟨b.toNat, by omega⟩
  have hna : na ≤ M.length := by omega
  have hnb : nb ≤ M.length := by omega
  have hmok : ∀ c ∈ M, COK c := hch.ok
  have hA := R06_After (M.take na) (by rw [List.length_take]; omega) (fun c hc => hmok c (List.mem_of_mem_take hc))
  have hB := R06_After (M.take nb) (by rw [List.length_take]; omega) (fun c hc => hmok c (List.mem_of_mem_take hc))
  rw [stA_av] at hA hB
  have sva := (hch.down hna).sv
  have svb := (hch.down hnb).sv
  have hla := sva.i.len
  have hlb := svb.i.len
  have hR := R06_Row (stA M na).fs (stA M na).next V (by omega)
  have hrf := rowS_fits sva (stA M na).fs V 0 (fun _ h => h) sva.n.q.rise (fun f hf => by have := sva.n.q.pos f hf; omega)
  have hrb : RB (rowS (stA M na).fs V) := rowS_bnd sva (stA M na).fs V (fun _ h => h) hk.vb
  have hrl := fits_len sva.n.q hrf
  generalize rowS (stA M na).fs V = R at *
  have hft : ftA M na R := ft_of hrf
  have hT := lens_Translate M R na nb (by omega) hmok (by omega) hrb
  obtain ⟨t1, t2⟩ := transL_ok hch hna hnb hft
  have keep := fun j t => trans_keep hch hna hnb hft (j := j) (t := t)
  rw [t1] at hT
  generalize bakN M na (na - nb) (fwdN M na (nb - na) R) = O at *
  have hof : fitsS (stA M nb).fs 0 O = true := of_ft svb.n.q.pos t2
  have hol := fits_len svb.n.q hof
  have g1 := R06_Fits (stA M nb).fs (stA M nb).next O (by omega) (by omega) svb.n.q.pos
  rw [hof] at g1
  have htka : (M.map Chg.cells).take na = (M.take na).map Chg.cells := (List.map_take ..).symm
  have htkb : (M.map Chg.cells).take nb = (M.take nb).map Chg.cells := (List.map_take ..).symm
  have hzM := szOK_map 8 Chg.cells M (fun x => rfl)
  have ia0 : (0 : Int) ≤ (na : Int) := by omega
  have ib0 : (0 : Int) ≤ (nb : Int) := by omega
  have ia1 : (na : Int) ≤ (M.length : Int) := by omega
  have ib1 : (nb : Int) ≤ (M.length : Int) := by omega
  have fpos := sva.n.q
  have dz : decide ((0 : Int) = 0) = true := rfl
  have hgetR := fun id => R06_Get R id (by omega)
  have hgetO := fun id => R06_Get O id (by omega)
  rw [Den_ofK [] pr_L07_LensKeeps rfl]
  unfold caseC at hsm ⊢
  cases d0 : smallB L c V with
  | false =>
    rw [d0] at hsm
    simp only [f_L07_LensKeeps, hsm, go_sem]
  | true =>
    rw [d0] at hsm
    have hlA : (stA M na).fs.length < 1000000000000000 := by omega
    have hlB : (stA M nb).fs.length < 1000000000000000 := by omega
    clear hk hch t2 t1 hft hrf hrb hof sva svb hmok
    have key : ∀ f ∈ (stA M na).fs, hasF (stA M nb).fs f.id = true → f.type = (getF (stA M nb).fs f.id).type → getC O f.id = getC R f.id := by
      intro f hf h1 h2
      refine keep f.id f.type ?_ ?_
      · rw [tyF_has (hasF_mem hf), getF_self fpos hf]
      · rw [tyF_has h1, h2]
    clear keep fpos
    generalize (stA M na).fs = fa at *
    generalize (stA M nb).fs = fb at *
    generalize (stA M na).next = xa at *
    generalize (stA M nb).next = xb at *
    simp only [f_L07_LensKeeps, hsm, hm, hpl, htka, htkb, hzM, ia0, ib0, ia1, ib1, hA, hB, hR, hT, g1, dz, go_sem]
    refine range_ind fa hlA (fun i (_ : Unit) => (Run prog 0 (.loop 5 [5, 8, 11, 14, 15, 17] f_L07_LensKeeps_l0) [(5, .bool true), (8, .ref 1 0), (11, .ref 2 0), (14, .ref 3 0), (15, .ref 4 0), (17, .int .i64 i)] [.cells [.int .i64 (na : Int), .int .i64 (nb : Int), .int .i64 d], .cells [.sl (fa.map Fld.cells), .int .i64 xa], .cells [.sl (fb.map Fld.cells), .int .i64 xb], .cells [.sl (R.map Cell.cells)], .cells [.sl (O.map Cell.cells)]]).bind _ = _) (fun _ _ _ => True) ?_ ?_ () trivial
    · intro _ _
      rw [Run_loop]
      simp only [f_L07_LensKeeps_l0_eq, f_L07_LensKeeps_l0u, go_sem]
    · intro i pre rest f _ hp _ _ _ hxf hcf hw _ ih
      have ih := ih () trivial
      have hk1 := key f (by rw [hp]; simp)
      clear hp key
      rw [Run_loop]
      cases e1 : hasF fb f.id with
      | false => simp only [f_L07_LensKeeps_l0_eq, f_L07_LensKeeps_l0u, hxf, hcf, hw, hlB, e1, ih, go_sem]
      | true => cases e2 : decide (f.type = (getF fb f.id).type) with
        | false => simp only [f_L07_LensKeeps_l0_eq, f_L07_LensKeeps_l0u, hxf, hcf, hw, hlB, e1, e2, ih, go_sem]
        | true =>
          have hk1 := hk1 e1 (by simpa using e2)
          have g3 := hgetR f.id
          have g4 := hgetO f.id
          rw [hk1] at g4
          generalize getC R f.id = v at *
          obtain ⟨vb, vi, vs⟩ := v
          simp only [] at g3 g4
          cases vb <;> simp only [f_L07_LensKeeps_l0_eq, f_L07_LensKeeps_l0u, hxf, hcf, hw, hlB, e1, e2, g3, g4, ih, go_sem]
theorem row_LK (xs : List AV) (h : Args Tryd.prog [27, 44] xs) : Den prog 256 xs [] = some (.bool true, []) := by
  obtain ⟨n, x, ys, rfl, h1, h⟩ := h.one
  obtain ⟨n2, x2, ys2, rfl, h2, h⟩ := h.one
  cases h.none
  obtain ⟨L, c, V, e, hk⟩ := sh_case h1
  obtain ⟨a, b, d, rfl, ha, hb, hd⟩ := sh_three h2
  simp only [avOf, Tryd.underlying27, Tryd.underlying44]
  rw [e]
  exact law_LensKeeps L c V hk a b d ha hb hd
end Go.Den
