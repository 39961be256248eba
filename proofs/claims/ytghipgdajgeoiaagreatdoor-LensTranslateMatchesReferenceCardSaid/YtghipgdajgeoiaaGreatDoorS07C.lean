/- Package lens: Forward and Back. -/
import Derived.Test.YtghipgdajgeoiaaGreatDoorS07B
namespace Go.Den
open Go
set_option linter.unusedSimpArgs false
set_option linter.unusedVariables false
set_option maxRecDepth 100000
set_option maxHeartbeats 1000000
def fwdL (c : Chg) (n : Int) (r : List Cell) : List Cell :=
  bif decide (c.kind = 2) then putL r c.id nullV else
  bif decide (c.kind = 6) then apartL r c.id n (n + 1) c.sep else
  bif decide (c.kind = 7) then putL (putL (putL r c.id nullV) c.wi nullV) n (conV (getC r c.id) (getC r c.wi) c.sep) else r
def bakL (c : Chg) (n : Int) (r : List Cell) : List Cell :=
  bif decide (c.kind = 1) then putL r n nullV else
  bif decide (c.kind = 4) then narrowL r c.id else
  bif decide (c.kind = 6) then putL (putL (putL r n nullV) (n + 1) nullV) c.id (conL r n c.sep) else
  bif decide (c.kind = 7) then apartL r n c.id c.wi c.sep else r
/-- What is asked of a row. -/
structure RK (r : List Cell) : Prop where
  len : r.length < 10000000000
  str : ∀ c ∈ r, c.v.s.size ≤ 1000000
theorem RK.get {r : List Cell} (h : ∀ c ∈ r, c.v.s.size ≤ 1000000) (id : Int) : (getC r id).s.size ≤ 1000000 := by
  induction r with
  | nil => rw [getC]; decide
  | cons c r ih =>
    rw [getC]
    split
    · exact h c (by simp)
    · exact ih fun x hx => h x (by simp [hx])
theorem call_fwd (c : Chg) (n : Int) (r : List Cell) (k : RK r) (hs : c.kind = 6 ∨ c.kind = 7 → c.sep.size ≤ 16) (h0 : 0 ≤ n) (h1 : n < 1000000000000) (σ : St) :
    callvV prog (fwdA c n) [.agg [.sl (r.map Cell.cells)]] σ = some (.agg [.sl ((fwdL c n r).map Cell.cells)], σ, false) := by
  have hl := k.len
  have g := RK.get k.str
  unfold fwdA fwdL
  cases e2 : decide (c.kind = 2) with
  | true =>
    have h := lens_erase1 r c.id (by omega)
    simp only [cond_true, go_sem, h]
  | false => cases e6 : decide (c.kind = 6) with
    | true =>
      have hs := hs (.inl (by simpa using e6))
      have h := lens_of1 r c n (by omega) (by have := g c.id; omega) (by omega) h0 h1
      rw [cells_chg] at h
      simp only [cond_true, cond_false, cells_chg, go_sem, h]
    | false => cases e7 : decide (c.kind = 7) with
      | true =>
        have hs := hs (.inr (by simpa using e7))
        have h := lens_of3 r c n (by omega) (by have := g c.id; have := g c.wi; omega)
        rw [cells_chg] at h
        simp only [cond_true, cond_false, cells_chg, go_sem, h]
      | false =>
        have h := lens_keep r (by omega)
        simp only [cond_false, go_sem, h]
theorem call_bak (c : Chg) (n : Int) (r : List Cell) (k : RK r) (hs : c.kind = 6 ∨ c.kind = 7 → c.sep.size ≤ 16) (h0 : 0 ≤ n) (h1 : n < 1000000000000) (σ : St) :
    callvV prog (bakA c n) [.agg [.sl (r.map Cell.cells)]] σ = some (.agg [.sl ((bakL c n r).map Cell.cells)], σ, false) := by
  have hl := k.len
  have g := RK.get k.str
  unfold bakA bakL
  cases e1 : decide (c.kind = 1) with
  | true =>
    have h := lens_erase1 r n (by omega)
    simp only [cond_true, go_sem, h]
  | false => cases e4 : decide (c.kind = 4) with
    | true =>
      have h := lens_narrow1 r c.id (by omega)
      simp only [cond_true, cond_false, go_sem, h]
    | false => cases e6 : decide (c.kind = 6) with
      | true =>
        have hs := hs (.inl (by simpa using e6))
        have h := lens_of2 r c n (by omega) (by have := g n; have := g (n + 1); omega) h0 h1
        rw [cells_chg] at h
        simp only [cond_true, cond_false, cells_chg, go_sem, h]
      | false => cases e7 : decide (c.kind = 7) with
        | true =>
          have hs := hs (.inr (by simpa using e7))
          have h := lens_of4 r c n (by omega) (by have := g n; omega) (by omega)
          rw [cells_chg] at h
          simp only [cond_true, cond_false, cells_chg, go_sem, h]
        | false =>
          have h := lens_keep r (by omega)
          simp only [cond_false, go_sem, h]
theorem fwdA_fn (c : Chg) (n : Int) : ∃ f caps, fwdA c n = .fn f caps ∧ norefs caps = true := by
  unfold fwdA
  cases decide (c.kind = 2) <;> cases decide (c.kind = 6) <;> cases decide (c.kind = 7) <;> exact ⟨_, _, rfl, rfl⟩
theorem bakA_fn (c : Chg) (n : Int) : ∃ f caps, bakA c n = .fn f caps ∧ norefs caps = true := by
  unfold bakA
  cases decide (c.kind = 1) <;> cases decide (c.kind = 4) <;> cases decide (c.kind = 6) <;> cases decide (c.kind = 7) <;> exact ⟨_, _, rfl, rfl⟩
/-! What fits. -/
theorem fits_str {fs : List Fld} : ∀ {r : List Cell} {p : Int}, fitsS fs p r = true → ∀ c ∈ r, c.v.s.size ≤ 200
  | [], _, _ => by simp
  | c :: r, p, h => by
    rw [fitsS, Bool.and_eq_true, Bool.and_eq_true] at h
    intro x hx
    rcases List.mem_cons.1 hx with rfl | hx
    · have h1 := h.1.1
      simp only [fitC, Bool.and_eq_true, Bool.not_eq_true'] at h1
      obtain ⟨_, _, h3, h4, h5⟩ := h1
      simp only [okV, h3, cond_false] at h5
      have z : ∀ s : ByteArray, s = ⟨#[]⟩ → s.size ≤ 200 := fun s e => by rw [e]; decide
      rcases typeOk_cases h4 with e | e | e | e | e <;> rw [e] at h5 <;> simp only [decide_true, dt14, dt13, dt24, dt23, dt34, dt33, dt44, dt54, dt53, cond_true, cond_false, Bool.and_eq_true, decide_eq_true_eq] at h5
      · exact z _ h5.1.1
      · exact z _ h5.1.1
      · exact z _ h5
      · have := h5.2; omega
      · exact z _ h5.1.1
    · exact fits_str h.2 x hx
theorem sub_len : ∀ (L q : List Int), L.Pairwise (· < ·) → q.Pairwise (· < ·) → (∀ x ∈ q, x ∈ L) → q.length ≤ L.length
  | [], q, _, _, h => by cases q with
    | nil => simp
    | cons x q => exact absurd (h x (by simp)) (by simp)
  | a :: t, [], _, _, _ => by simp
  | a :: t, x :: q, hL, hq, h => by
    obtain ⟨l1, l2⟩ := List.pairwise_cons.1 hL
    obtain ⟨q1, q2⟩ := List.pairwise_cons.1 hq
    rcases List.mem_cons.1 (h x (by simp)) with rfl | hx
    · have := sub_len t q l2 q2 fun y hy => by
        rcases List.mem_cons.1 (h y (by simp [hy])) with rfl | h
        · exact absurd (q1 y hy) (by omega)
        · exact h
      simp; omega
    · have := sub_len t (x :: q) l2 hq fun y hy => by
        rcases List.mem_cons.1 (h y hy) with rfl | h'
        · have h1 := l1 x hx
          rcases List.mem_cons.1 hy with e | e
          · omega
          · have := q1 y e; omega
        · exact h'
      simp at this ⊢; omega
theorem fits_rise {fs : List Fld} : ∀ {r : List Cell} {p : Int}, fitsS fs p r = true → (r.map (·.id)).Pairwise (· < ·) ∧ (∀ c ∈ r, p < c.id ∧ hasF fs c.id = true)
  | [], _, _ => ⟨.nil, by simp⟩
  | c :: r, p, h => by
    rw [fitsS, Bool.and_eq_true, Bool.and_eq_true, decide_eq_true_eq] at h
    obtain ⟨h1, h2⟩ := fits_rise h.2
    have hf : hasF fs c.id = true := by
      have := h.1.1
      simp only [fitC, Bool.and_eq_true] at this
      exact this.1
    refine ⟨?_, fun x hx => ?_⟩
    · rw [List.map_cons, List.pairwise_cons]
      refine ⟨fun y hy => ?_, h1⟩
      obtain ⟨z, hz, rfl⟩ := List.mem_map.1 hy
      exact (h2 z hz).1
    · rcases List.mem_cons.1 hx with rfl | hx
      · exact ⟨h.1.2, hf⟩
      · exact ⟨by have := (h2 x hx).1; omega, (h2 x hx).2⟩
theorem fits_len {fs : List Fld} (u : UQ fs) {r : List Cell} {p : Int} (h : fitsS fs p r = true) : r.length ≤ fs.length := by
  obtain ⟨h1, h2⟩ := fits_rise h
  have := sub_len (fs.map (·.id)) (r.map (·.id)) (by rw [List.pairwise_map]; exact u.rise) h1 fun x hx => by
    obtain ⟨c, hc, rfl⟩ := List.mem_map.1 hx
    obtain ⟨a, b⟩ := getF_id (h2 c hc).2
    exact List.mem_map.2 ⟨_, b, a⟩
  simpa using this
theorem fits_rk {fs : List Fld} {next : Int} (s : SV fs next) {r : List Cell} {p : Int} (h : fitsS fs p r = true) : RK r :=
  ⟨by have := fits_len s.n.q h; have := s.i.len; omega, fun c hc => by have := fits_str h c hc; omega⟩
theorem applyC_sep {fs : List Fld} {next : Int} {c : Chg} (h : (applyC fs next c).e = 0) : c.kind = 6 ∨ c.kind = 7 → c.sep.size ≤ 16 := by
  intro hk
  let P : SR → Prop := fun _ => c.sep.size ≤ 16
  have hb : ∀ {e : Int}, e ≠ 0 → (bad e).e = 0 → P (bad e) := fun he => bad_case he
  show P (applyC fs next c)
  revert h
  unfold applyC
  rw [if_neg (by omega), if_neg (by omega)]
  split
  · unfold splitS
    refine bif_case2 (fun _ => hb (by decide)) fun _ => bif_case2 (fun _ => hb (by decide)) fun _ => bif_case2 (fun _ => hb (by decide)) fun b3 _ => ?_
    simp only [Bool.not_eq_false', sepOk, Bool.and_eq_true, decide_eq_true_eq] at b3
    show c.sep.size ≤ 16
    omega
  · rw [if_pos (by omega)]
    unfold joinS
    refine bif_case2 (fun _ => hb (by decide)) fun _ => bif_case2 (fun _ => hb (by decide)) fun _ => bif_case2 (fun _ => hb (by decide)) fun _ => bif_case2 (fun _ => hb (by decide)) fun b3 _ => ?_
    simp only [Bool.not_eq_false', sepOk, Bool.and_eq_true, decide_eq_true_eq] at b3
    show c.sep.size ≤ 16
    omega
def forwardL (fs : List Fld) (next : Int) (c : Chg) (r : List Cell) : List Cell := bif decide ((applyC fs next c).e = 0) && fitsS fs 0 r then fwdL c next r else []
def backL (fs : List Fld) (next : Int) (c : Chg) (r : List Cell) : List Cell := bif decide ((applyC fs next c).e = 0) && fitsS (applyC fs next c).fs 0 r then bakL c next r else []
theorem lens_Forward {fs : List Fld} {next : Int} (s : SV fs next) (c : Chg) (hc : COK c) (r : List Cell) (hr : r.length < 1000000000000000) (hb : ∀ x ∈ r, i64B x.v.n) :
    Den prog 247 [.agg [.sl (fs.map Fld.cells), .int .i64 next], .agg c.cells, .agg [.sl (r.map Cell.cells)]] [] = some (.agg [.sl ((forwardL fs next c r).map Cell.cells)], []) := by
  have ha := schema_Apply fs next c s.i s.n.q hc
  have hf := schema_Fits fs next r (by have := s.i.len; omega) hr hb
  have ho := lens_of c next
  have hn0 := s.i.n0
  have hn1 := s.i.n1
  have hsep := @applyC_sep fs next c
  have hcall := fun (e : (applyC fs next c).e = 0) (hft : fitsS fs 0 r = true) => call_fwd c next r (fits_rk s hft) (hsep e) (by omega) (by omega)
  unfold forwardL
  generalize applyC fs next c = q at *
  obtain ⟨f1, n1, e1⟩ := q
  rw [Den_ofK [] pr_lens_Forward rfl]
  rw [cells_chg] at ha ho ⊢
  simp only [SR.av] at ha hcall ⊢
  cases d : decide (e1 = 0) with
  | false => simp only [f_lens_Forward, ha, d, Bool.false_and, cond_false, List.map_nil, go_sem]
  | true => cases d2 : fitsS fs 0 r with
    | false =>
      rw [d2] at hf
      simp only [f_lens_Forward, ha, hf, d, Bool.and_false, cond_false, List.map_nil, go_sem]
    | true =>
      rw [d2] at hf
      have hcall := hcall (by simpa using d) d2
      clear s hb
      obtain ⟨x1, x2, xe, xn⟩ := fwdA_fn c next
      obtain ⟨y1, y2, ye, yn⟩ := bakA_fn c next
      rw [xe, ye] at ho
      rw [xe] at hcall
      simp only [f_lens_Forward, ha, hf, ho, d, xn, yn, hcall, Bool.and_self, cond_true, go_sem]
theorem applyC_fits {fs : List Fld} {next : Int} (s : SV fs next) (c : Chg) (hc : COK c) : (applyC fs next c).fs.length ≤ 64 := by
  by_cases h : (applyC fs next c).e = 0
  · exact (applyC_sv s hc h).i.len
  · rw [(applyC_zr fs next c h).1]; decide
theorem lens_Back {fs : List Fld} {next : Int} (s : SV fs next) (c : Chg) (hc : COK c) (r : List Cell) (hr : r.length < 1000000000000000) (hb : ∀ x ∈ r, i64B x.v.n) :
    Den prog 248 [.agg [.sl (fs.map Fld.cells), .int .i64 next], .agg c.cells, .agg [.sl (r.map Cell.cells)]] [] = some (.agg [.sl ((backL fs next c r).map Cell.cells)], []) := by
  have ha := schema_Apply fs next c s.i s.n.q hc
  have hf := schema_Fits (applyC fs next c).fs (applyC fs next c).next r (by have := applyC_fits s c hc; omega) hr hb
  have ho := lens_of c next
  have hn0 := s.i.n0
  have hn1 := s.i.n1
  have hsep := @applyC_sep fs next c
  have hcall := fun (e : (applyC fs next c).e = 0) (hft : fitsS (applyC fs next c).fs 0 r = true) => call_bak c next r (fits_rk (applyC_sv s hc e) hft) (hsep e) (by omega) (by omega)
  unfold backL
  clear hsep
  generalize applyC fs next c = q at *
  obtain ⟨f1, n1, e1⟩ := q
  rw [Den_ofK [] pr_lens_Back rfl]
  rw [cells_chg] at ha ho ⊢
  simp only [SR.av] at ha hcall hf ⊢
  cases d : decide (e1 = 0) with
  | false => simp only [f_lens_Back, ha, d, Bool.false_and, cond_false, List.map_nil, go_sem]
  | true => cases d2 : fitsS f1 0 r with
    | false =>
      rw [d2] at hf
      simp only [f_lens_Back, ha, hf, d, Bool.and_false, cond_false, List.map_nil, go_sem]
    | true =>
      rw [d2] at hf
      have hcall := hcall (by simpa using d) d2
      clear s hb
      obtain ⟨x1, x2, xe, xn⟩ := fwdA_fn c next
      obtain ⟨y1, y2, ye, yn⟩ := bakA_fn c next
      rw [xe, ye] at ho
      rw [ye] at hcall
      simp only [f_lens_Back, ha, hf, ho, d, xn, yn, hcall, Bool.and_self, cond_true, go_sem]
end Go.Den
