/- LensStable, LensComposes. -/
import Derived.Test.YtghipgdajgeoiabDoorS07W
import Derived.Test.YtghipgdajgeoiabDoorSh07
namespace Go.Den
open Go Go.Proofs
set_option linter.unusedSimpArgs false
set_option linter.unusedVariables false
set_option maxRecDepth 100000
set_option maxHeartbeats 1000000
theorem SameRow_refl (r : List Cell) (hL : r.length < 1000000000000000) : Den prog 12 [.agg [.sl (r.map Cell.cells)], .agg [.sl (r.map Cell.cells)]] [] = some (.bool true, []) := by
  rw [Den_ofK [] pr_R06_SameRow rfl]
  simp only [f_R06_SameRow, go_sem]
  refine range_ind r hL (fun i (_ : Unit) => (Run prog 0 (.loop 0 [2, 3, 5] f_R06_SameRow_l0) [(2, .rptr [.sl (r.map Cell.cells)]), (3, .rptr [.sl (r.map Cell.cells)]), (5, .int .i64 i)] []).bind _ = _) (fun _ _ _ => True) ?_ ?_ () trivial
  · intro _ _
    rw [Run_loop]
    simp only [f_R06_SameRow_l0_eq, f_R06_SameRow_l0u, go_sem]
  · intro i pre rest x _ _ _ _ _ hx hc hw _ ih
    have ih := ih () trivial
    obtain ⟨ci, b, n, s⟩ := x
    rw [Run_loop]
    cases b <;> simp only [f_R06_SameRow_l0_eq, f_R06_SameRow_l0u, hx, hc, hw, ih, go_sem]
theorem law_LensStable (L : List Chg) (c : Chg) (V : List Val) (hk : CaseOk L c V) : Den prog 267 [caseC L c V] [] = some (.bool true, []) := by
  obtain ⟨fs, next, ta, hT, sv⟩ := start07 L 20
  have hmade := made07 L c V hk.l hk.lc hk.c fs next ta 0 hT
  have hsm := small07 L c V hk.v
  have hck := chgS_ok fs next c
  have hl64 := sv.i.len
  have hR := R06_Row fs next V (by omega)
  have hrf := rowS_fits sv fs V 0 (fun _ h => h) sv.n.q.rise (fun f hf => by have := sv.n.q.pos f hf; omega)
  have hrb : RB (rowS fs V) := rowS_bnd sv fs V (fun _ h => h) hk.vb
  have hrl := fits_len sv.n.q hrf
  generalize rowS fs V = R at *
  have hF := fun r hr hb => lens_Forward sv (chgS fs next c) hck r hr hb
  generalize hy : chgS fs next c = y at *
  have heff := @eff_of fs next y sv
  have hsv := @applyC_sv fs next y sv hck
  have hB := fun r hr hb => lens_Back sv y hck r hr hb
  unfold forwardL at hF
  unfold backL at hB
  rw [Den_ofK [] pr_L07_LensStable rfl]
  generalize applyC fs next y = q at *
  obtain ⟨f1, n1, e1⟩ := q
  simp only [] at hF hB heff hsv
  unfold caseC at hmade hsm ⊢
  rw [cells_chg] at hmade
  simp only [cells_chg] at hB hF
  cases d0 : smallB L c V with
  | false =>
    rw [d0] at hsm
    simp only [f_L07_LensStable, hsm, go_sem]
  | true =>
    rw [d0] at hsm
    cases d : decide (e1 = 0) with
    | false =>
      simp only [d, Bool.false_and, cond_false, List.map_nil] at hF hB
      have h1 := hF R (by omega) hrb
      have h2 := hB [] (by simp) (by intro x hx; simp at hx)
      have h3 := hF [] (by simp) (by intro x hx; simp at hx)
      have h4 := SameRow_refl [] (by simp)
      simp only [List.map_nil] at h1 h2 h3 h4
      simp only [f_L07_LensStable, hsm, hmade, hR, h1, h2, h3, h4, go_sem]
    | true =>
      have he : e1 = 0 := by simpa using d
      have heff := heff he
      have sv1 := hsv he
      have hl1 := sv1.i.len
      simp only [d, Bool.true_and] at hF hB
      have h1 := hF R (by omega) hrb
      rw [hrf] at h1
      have fR : Ft (tyF fs) R := ft_of hrf
      have fF : Ft (tyF f1) (fwdL y next R) := fwd_ft heff sv.bd fR
      have hFf : fitsS f1 0 (fwdL y next R) = true := of_ft sv1.n.q.pos fF
      have hFl := fits_len sv1.n.q hFf
      have hFb : RB (fwdL y next R) := fwd_b hrb y next
      have h2 := hB (fwdL y next R) (by omega) hFb
      rw [hFf] at h2
      have bF : Ft (tyF fs) (bakL y next (fwdL y next R)) := bak_ft heff sv.bd fF
      have hBf : fitsS fs 0 (bakL y next (fwdL y next R)) = true := of_ft sv.n.q.pos bF
      have hBl := fits_len sv.n.q hBf
      have h3 := hF (bakL y next (fwdL y next R)) (by omega) (bak_b hFb y next)
      rw [hBf] at h3
      simp only [cond_true] at h1 h2 h3
      rw [stable heff sv.bd fR] at h3
      have h4 := SameRow_refl (fwdL y next R) (by omega)
      generalize bakL y next (fwdL y next R) = B1 at *
      generalize fwdL y next R = F1 at *
      clear fF bF hFf hBf hB hF hrf hsv heff sv sv1 hk hT hrb hFb hy fR
      simp only [f_L07_LensStable, hsm, hmade, hR, h1, h2, h3, h4, go_sem]
theorem row_LS (xs : List AV) (h : Args Tryd.prog [27] xs) : Den prog 267 xs [] = some (.bool true, []) := by
  obtain ⟨n, x, ys, rfl, h1, h⟩ := h.one
  cases h.none
  obtain ⟨L, c, V, e, hk⟩ := sh_case h1
  simp only [avOf, Tryd.underlying27]
  rw [e]
  exact law_LensStable L c V hk
/-! Composition. -/
theorem bakN_zero (L : List Chg) (i : Nat) (r : List Cell) : bakN L i 0 r = r := by cases i <;> rfl
theorem fwdN_add (L : List Chg) : ∀ (k l i : Nat) (r : List Cell), fwdN L (i + k) l (fwdN L i k r) = fwdN L i (k + l) r
  | 0, l, i, r => by rw [Nat.zero_add]; rfl
  | k + 1, l, i, r => by
    rw [show k + 1 + l = (k + l) + 1 by omega, fwdN, fwdN, show i + (k + 1) = (i + 1) + k by omega]
    exact fwdN_add L k l (i + 1) _
theorem bakN_add (L : List Chg) : ∀ (k l i : Nat) (r : List Cell), k + l ≤ i → bakN L (i - k) l (bakN L i k r) = bakN L i (k + l) r
  | 0, l, i, r, _ => by rw [Nat.zero_add, bakN_zero]; rfl
  | k + 1, l, 0, r, h => absurd h (by omega)
  | k + 1, l, i + 1, r, h => by
    rw [show k + 1 + l = (k + l) + 1 by omega, bakN, bakN, show i + 1 - (k + 1) = i - k by omega]
    exact bakN_add L k l i _ (by omega)
theorem fwdN_b {L : List Chg} : ∀ (k i : Nat) {r : List Cell}, RB r → RB (fwdN L i k r)
  | 0, _, _, h => h
  | k + 1, i, r, h => by
    rw [fwdN]
    refine fwdN_b k (i + 1) ?_
    split
    · exact fwd_b h _ _
    · exact h
theorem bakN_b {L : List Chg} : ∀ (k i : Nat) {r : List Cell}, RB r → RB (bakN L i k r)
  | 0, i, _, h => by rw [bakN_zero]; exact h
  | k + 1, 0, _, h => h
  | k + 1, i + 1, r, h => by
    rw [bakN]
    refine bakN_b k i ?_
    split
    · exact bak_b h _ _
    · exact h
theorem stA_av' (M : List Chg) (k : Nat) : AR.av (afterS [] 1 0 (M.take k)) = .tup [.agg [.sl ((stA M k).fs.map Fld.cells), .int .i64 (stA M k).next], .int .i64 (stA M k).at_, .int .i64 (stA M k).e] := rfl
theorem sorted3 (a b c : Nat) : ∃ l m h : Nat, mm false (mm false (a : Int) b) c = (l : Int) ∧ mm true (mm true (a : Int) b) c = (h : Int) ∧ (a : Int) + b + c - l - h = (m : Int) ∧ l ≤ m ∧ m ≤ h ∧ (∀ n, a ≤ n → b ≤ n → c ≤ n → h ≤ n) := by
  refine ⟨(mm false (mm false (a : Int) b) c).toNat, ((a : Int) + b + c - mm false (mm false (a : Int) b) c - mm true (mm true (a : Int) b) c).toNat, (mm true (mm true (a : Int) b) c).toNat, ?_⟩
  simp only [mm]
  refine ⟨?_, ?_, ?_, ?_, ?_, ?_⟩ <;> (try intro n h1 h2 h3) <;> simp <;> (repeat' split) <;> omega
theorem law_LensComposes (L : List Chg) (c : Chg) (V : List Val) (hk : CaseOk L c V) (x y z : Int) (hx : 0 ≤ x ∧ x < 256) (hy : 0 ≤ y ∧ y < 256) (hz : 0 ≤ z ∧ z < 256) :
    Den prog 268 [caseC L c V, .agg [.int .u8 x, .int .u8 y, .int .u8 z]] [] = some (.bool true, []) := by
  have hsm := small07 L c V hk.v
  have hm := R06_Made L 20 hk.l hk.lc (by omega) (by omega)
  rw [show (20 : Int).toNat = 20 from rfl] at hm
  have hml := madeC_len (L.take 20) [] 1
  rw [List.length_take] at hml
  have hch := chain_made L 20
  generalize madeC [] 1 (L.take 20) = M at *
  have hpl := places07 x y z M.length hx hy hz (by omega) (by omega)
  obtain ⟨px0, px1⟩ := plI_bd (n := (M.length : Int)) hx.1 (by omega)
  obtain ⟨py0, py1⟩ := plI_bd (n := (M.length : Int)) hy.1 (by omega)
  obtain ⟨pz0, pz1⟩ := plI_bd (n := (M.length : Int)) hz.1 (by omega)
  generalize plI x M.length = a at *
  generalize plI y M.length = b at *
  generalize plI z M.length = d at *
  obtain ⟨na, rfl⟩ : ∃ n : Nat, a = (n : Int) := ⟨a.toNat, by omega⟩
  obtain ⟨nb, rfl⟩ : ∃ n : Nat, b = (n : Int) := ⟨b.toNat, by omega⟩
  obtain ⟨nd, rfl⟩ : ∃ n : Nat, d = (n : Int) := ⟨d.toNat, by omega⟩
  obtain ⟨l, m, h, hl, hh, hmid, hlm, hmh, hhn⟩ := sorted3 na nb nd
  have hhM : h ≤ M.length := hhn _ (by omega) (by omega) (by omega)
  have w1 : IntKind.wrap .i64 ((na : Int) + nb) = (na : Int) + nb := wrap_i64 (by omega) (by omega)
  have w2 : IntKind.wrap .i64 ((na : Int) + nb + nd) = (na : Int) + nb + nd := wrap_i64 (by omega) (by omega)
  have w3 : IntKind.wrap .i64 ((na : Int) + nb + nd - l) = (na : Int) + nb + nd - l := wrap_i64 (by omega) (by omega)
  have w4 : IntKind.wrap .i64 ((na : Int) + nb + nd - l - h) = (m : Int) := by rw [hmid]; exact wrap_i64 (by omega) (by omega)
  have hmok : ∀ c ∈ M, COK c := hch.ok
  have hA := R06_After (M.take l) (by rw [List.length_take]; omega) (fun c hc => hmok c (List.mem_of_mem_take hc))
  have hB := R06_After (M.take h) (by rw [List.length_take]; omega) (fun c hc => hmok c (List.mem_of_mem_take hc))
  rw [stA_av'] at hA hB
  have sva := (hch.down (show l ≤ M.length by omega)).sv
  have svb := (hch.down hhM).sv
  have svm := (hch.down (show m ≤ M.length by omega)).sv
  have hla := sva.i.len
  have hlb := svb.i.len
  have hlm64 := svm.i.len
  have hR := R06_Row (stA M l).fs (stA M l).next V (by omega)
  have hrf := rowS_fits sva (stA M l).fs V 0 (fun _ h => h) sva.n.q.rise (fun f hf => by have := sva.n.q.pos f hf; omega)
  have hrb : RB (rowS (stA M l).fs V) := rowS_bnd sva (stA M l).fs V (fun _ h => h) hk.vb
  have hrl := fits_len sva.n.q hrf
  have hQ := R06_Row (stA M h).fs (stA M h).next V (by omega)
  have hqf := rowS_fits svb (stA M h).fs V 0 (fun _ h => h) svb.n.q.rise (fun f hf => by have := svb.n.q.pos f hf; omega)
  have hqb : RB (rowS (stA M h).fs V) := rowS_bnd svb (stA M h).fs V (fun _ h => h) hk.vb
  have hql := fits_len svb.n.q hqf
  generalize rowS (stA M l).fs V = R at *
  generalize rowS (stA M h).fs V = Q at *
  have fR : ftA M l R := ft_of hrf
  have fQ : ftA M h Q := ft_of hqf
  have lM : l ≤ M.length := by omega
  have mM : m ≤ M.length := by omega
  obtain ⟨t1, g1⟩ := transL_ok hch lM mM fR
  have e1 : l - m = 0 := by omega
  rw [e1, bakN_zero] at t1 g1
  obtain ⟨t2, g2⟩ := transL_ok hch mM hhM g1
  have e2 : m - h = 0 := by omega
  rw [e2, bakN_zero] at t2 g2
  obtain ⟨t3, g3⟩ := transL_ok hch lM hhM fR
  have e3 : l - h = 0 := by omega
  rw [e3, bakN_zero] at t3 g3
  obtain ⟨t4, g4⟩ := transL_ok hch hhM mM fQ
  rw [e2] at t4 g4
  obtain ⟨t5, g5⟩ := transL_ok hch mM lM g4
  rw [e1] at t5 g5
  obtain ⟨t6, g6⟩ := transL_ok hch hhM lM fQ
  rw [e3] at t6 g6
  obtain ⟨t7, g7⟩ := transL_ok hch lM lM fR
  rw [Nat.sub_self, bakN_zero] at t7
  simp only [fwdN] at t4 t5 t6 t7 g4 g5 g6
  have c1 : fwdN M m (h - m) (fwdN M l (m - l) R) = fwdN M l (h - l) R := by
    have := fwdN_add M (m - l) (h - m) l R
    rw [show l + (m - l) = m by omega, show m - l + (h - m) = h - l by omega] at this
    exact this
  have c2 : bakN M m (m - l) (bakN M h (h - m) Q) = bakN M h (h - l) Q := by
    have := bakN_add M (h - m) (m - l) h Q (by omega)
    rw [show h - (h - m) = m by omega, show h - m + (m - l) = h - l by omega] at this
    exact this
  have lenA := fits_len svm.n.q (of_ft svm.n.q.pos g1)
  have lenD := fits_len svm.n.q (of_ft svm.n.q.pos g4)
  have lenW := fits_len svb.n.q (of_ft svb.n.q.pos g3)
  have lenK := fits_len sva.n.q (of_ft sva.n.q.pos g6)
  have T1 := lens_Translate M R l m (by omega) hmok (by omega) hrb
  have T2 := lens_Translate M (fwdN M l (m - l) R) m h (by omega) hmok (by omega) (fwdN_b _ _ hrb)
  have T3 := lens_Translate M R l h (by omega) hmok (by omega) hrb
  have T4 := lens_Translate M Q h m (by omega) hmok (by omega) hqb
  have T5 := lens_Translate M (bakN M h (h - m) Q) m l (by omega) hmok (by omega) (bakN_b _ _ hqb)
  have T6 := lens_Translate M Q h l (by omega) hmok (by omega) hqb
  have T7 := lens_Translate M R l l (by omega) hmok (by omega) hrb
  rw [t1] at T1
  rw [t2, c1] at T2
  rw [t3] at T3
  rw [t4] at T4
  rw [t5, c2] at T5
  rw [t6] at T6
  rw [t7] at T7
  have S1 := SameRow_refl (fwdN M l (h - l) R) (by omega)
  have S2 := SameRow_refl (bakN M h (h - l) Q) (by omega)
  have S3 := SameRow_refl R (by omega)
  clear t1 t2 t3 t4 t5 t6 t7 g1 g2 g3 g4 g5 g6 g7 c1 c2 lenA lenD lenW lenK fR fQ hrf hqf hrb hqb sva svb svm e1 e2 e3
  generalize fwdN M l (h - l) R = W at *
  generalize fwdN M l (m - l) R = A1 at *
  generalize bakN M h (h - l) Q = K1 at *
  generalize bakN M h (h - m) Q = D1 at *
  have htka : (M.map Chg.cells).take l = (M.take l).map Chg.cells := (List.map_take ..).symm
  have htkb : (M.map Chg.cells).take h = (M.take h).map Chg.cells := (List.map_take ..).symm
  have hzM := szOK_map 8 Chg.cells M (fun x => rfl)
  have ia0 : (0 : Int) ≤ (l : Int) := by omega
  have ib0 : (0 : Int) ≤ (h : Int) := by omega
  have ia1 : (l : Int) ≤ (M.length : Int) := by omega
  have ib1 : (h : Int) ≤ (M.length : Int) := by omega
  have dz : decide ((0 : Int) = 0) = true := rfl
  clear hmid hlm hmh hhn hk hch hmok lM mM hhM px0 px1 py0 py1 pz0 pz1 hml
  rw [Den_ofK [] pr_L07_LensComposes rfl]
  unfold caseC at hsm ⊢
  cases d0 : smallB L c V with
  | false =>
    rw [d0] at hsm
    simp only [f_L07_LensComposes, hsm, go_sem]
  | true =>
    rw [d0] at hsm
    generalize (stA M l).fs = fa at *
    generalize (stA M h).fs = fb at *
    generalize (stA M l).next = xa at *
    generalize (stA M h).next = xb at *
    simp only [f_L07_LensComposes, hsm, hm, hpl, hl, hh, w1, w2, w3, w4, htka, htkb, hzM, ia0, ib0, ia1, ib1, hA, hB, hR, hQ, T1, T2, T3, T4, T5, T6, T7, S1, S2, S3, dz, go_sem]
theorem sh_three {n : Nat} {xs : List AV} (h : Sh Tryd.prog n 41 xs) : ∃ x y z : Int, xs = [.int .u8 x, .int .u8 y, .int .u8 z] ∧ (0 ≤ x ∧ x < 256) ∧ (0 ≤ y ∧ y < 256) ∧ (0 ≤ z ∧ z < 256) := by
  obtain ⟨parts, m, hl, rfl, hp⟩ := h.array Tryd.underlying41
  match parts, hl, hp with
  | [a, b, c], _, hp =>
    obtain ⟨x, rfl, hx⟩ := Sh.int (hp a (by simp)) Tryd.underlying5
    obtain ⟨y, rfl, hy⟩ := Sh.int (hp b (by simp)) Tryd.underlying5
    obtain ⟨z, rfl, hz⟩ := Sh.int (hp c (by simp)) Tryd.underlying5
    simp [Lit.wf, IntKind.min, IntKind.max, IntKind.bits, IntKind.signed] at hx hy hz
    exact ⟨x, y, z, rfl, by omega, by omega, by omega⟩
theorem row_LC (xs : List AV) (h : Args Tryd.prog [27, 41] xs) : Den prog 268 xs [] = some (.bool true, []) := by
  obtain ⟨n, x, ys, rfl, h1, h⟩ := h.one
  obtain ⟨n2, x2, ys2, rfl, h2, h⟩ := h.one
  cases h.none
  obtain ⟨L, c, V, e, hk⟩ := sh_case h1
  obtain ⟨a, b, d, rfl, ha, hb, hd⟩ := sh_three h2
  simp only [avOf, Tryd.underlying27, Tryd.underlying41]
  rw [e]
  exact law_LensComposes L c V hk a b d ha hb hd
end Go.Den
