import Derived.Test.YtljecilfdpgdbaaS30V
/-! Ch. 30: MergeProgramsReplay. -/
namespace Go.Den
open Go Go.Proofs
set_option linter.unusedSimpArgs false
set_option linter.unusedVariables false
set_option maxRecDepth 100000
set_option maxHeartbeats 1000000
/-! Plain facts on runs. -/
theorem runL_free {fb : Pro → Bool} : ∀ {l : List Pro} {t : Table} {i : Int} (j : Int), (runL fb t i l).e = 0 → runL (fun _ => false) t j l = ⟨(runL fb t i l).next, (runL fb t i l).l, 0, 0⟩
  | [], t, i, j, _ => rfl
  | p :: r, t, i, j, h => by
    rw [runL] at h
    rw [runL, cond_false, runL]
    cases hf : fb p with
    | true => rw [hf, cond_true] at h; simp at h
    | false =>
      rw [hf, cond_false] at h
      rw [cond_false]
      cases d : decide ((runS p t).e = 0) with
      | false => rw [d, cond_false] at h; simp only [] at h; simp [h] at d
      | true =>
        rw [d, cond_true] at h
        rw [cond_true, cond_true]
        exact runL_free (j + 1) h
theorem runL_app {l2 : List Pro} : ∀ {l : List Pro} {t : Table} {i : Int} (j : Int), (runL (fun _ => false) t i l).e = 0 → (runL (fun _ => false) t j (l ++ l2)).e = 0 ∧ (runL (fun _ => false) t j (l ++ l2)).next = (runL (fun _ => false) ⟨(runL (fun _ => false) t i l).next, (runL (fun _ => false) t i l).l⟩ 0 l2).next ∧ (runL (fun _ => false) t j (l ++ l2)).l = (runL (fun _ => false) ⟨(runL (fun _ => false) t i l).next, (runL (fun _ => false) t i l).l⟩ 0 l2).l ∨
      (runL (fun _ => false) ⟨(runL (fun _ => false) t i l).next, (runL (fun _ => false) t i l).l⟩ 0 l2).e ≠ 0
  | [], t, i, j, _ => by
    by_cases he : (runL (fun _ => false) t 0 l2).e = 0
    · left
      have h := runL_free j he
      rw [List.nil_append, h]
      exact ⟨rfl, rfl, rfl⟩
    · right; exact he
  | p :: r, t, i, j, h => by
    rw [runL, cond_false] at h
    rw [List.cons_append, runL, cond_false, runL, cond_false]
    cases d : decide ((runS p t).e = 0) with
    | false => rw [d, cond_false] at h; simp only [] at h; simp [h] at d
    | true =>
      rw [d, cond_true] at h
      rw [cond_true, cond_true]
      exact runL_app (j + 1) h
theorem runL_lt {fb : Pro → Bool} : ∀ {l : List Pro} {t : Table} {i : Int}, (runL fb t i l).e ≠ 0 → i ≤ (runL fb t i l).pos ∧ (runL fb t i l).pos < i + l.length
  | [], t, i, h => (h rfl).elim
  | p :: r, t, i, h => by
    rw [runL] at h ⊢
    cases hf : fb p with
    | true => simp only [cond_true, List.length_cons]; omega
    | false =>
      rw [hf, cond_false] at h
      rw [cond_false]
      cases d : decide ((runS p t).e = 0) with
      | false => simp only [cond_false, List.length_cons]; omega
      | true =>
        rw [d, cond_true] at h
        rw [cond_true]
        have := runL_lt h
        simp only [List.length_cons]; omega
theorem runL_take {fb : Pro → Bool} : ∀ {l : List Pro} {t : Table} {i : Int}, (runL fb t i l).e ≠ 0 → (runL fb t i (l.take ((runL fb t i l).pos - i).toNat)).e = 0
  | [], t, i, h => (h rfl).elim
  | p :: r, t, i, h => by
    rw [runL] at h ⊢
    cases hf : fb p with
    | true => simp [runL]
    | false =>
      rw [hf, cond_false] at h
      rw [cond_false]
      cases d : decide ((runS p t).e = 0) with
      | false => simp [runL]
      | true =>
        rw [d, cond_true] at h
        rw [cond_true]
        have h1 := runL_lt h
        have h2 := runL_take h
        have e : ((runL fb ⟨(runS p t).next, (runS p t).l⟩ (i + 1) r).pos - i).toNat = ((runL fb ⟨(runS p t).next, (runS p t).l⟩ (i + 1) r).pos - (i + 1)).toNat + 1 := by omega
        rw [e, List.take_succ_cons, runL, hf, cond_false, d, cond_true]
        exact h2
theorem checkS_e (L : List Line) : ∀ (gs : List Grd) (i : Int), (checkS L i gs).2 = 0 ∨ (checkS L i gs).2 = 270
  | [], i => .inl rfl
  | g :: r, i => by
    rw [checkS]
    cases decide (sumS g.w g.id 0 L < g.lo) || decide (g.hi < sumS g.w g.id 0 L) with
    | true => exact .inr rfl
    | false => exact checkS_e L r (i + 1)
theorem runS_e (p : Pro) (t : Table) : (runS p t).e ≠ 280 := by
  unfold runS
  have := checkS_e t.l p.gs 0
  cases !decide ((checkS t.l 0 p.gs).2 = 0) with
  | true => simp only [cond_true]; omega
  | false =>
    rw [cond_false]
    cases decide (4096 < (((t.l.filter (fun x => !matchP p.rem x.r)) ++ addL t.next p.add).length : Int)) || decide (4611686018427387904 < t.next + p.add.length) with
    | true => simp
    | false => simp
theorem runL_280 {fb : Pro → Bool} : ∀ {l : List Pro} {t : Table} {i : Int}, (∀ p ∈ l, fb p = false) → (runL fb t i l).e ≠ 280
  | [], t, i, _ => by simp [runL]
  | p :: r, t, i, h => by
    rw [runL, h p (by simp), cond_false]
    cases decide ((runS p t).e = 0) with
    | false => exact runS_e p t
    | true => rw [cond_true]; exact runL_280 fun q hq => h q (by simp [hq])
def blindP (p : Pro) : Pro := ⟨.mk 6 0 0 0 [] ⟨#[]⟩ [], p.rem, p.add, p.gs⟩
theorem blind_match (r : List Cell) : matchP (.mk 6 0 0 0 [] ⟨#[]⟩ []) r = false := by
  unfold matchP
  rw [evalS]
  rfl
theorem blind_ev (evs : List Event) (p : Pro) : evB evs (blindP p) = false := by
  unfold evB
  rw [List.any_eq_false]
  intro e _
  have := blind_match e.l.r
  simp only [blindP, this]
  simp
theorem blind_ok {p : Pro} (h : PrOK p) : PrOK (blindP p) := ⟨.mk _ _ _ _ _ _ _ (by decide) (by decide) (by simp) (by simp) (by decide), h.rem, h.add, h.row, h.gs, h.gw⟩
theorem blind_280 (base : Table) (a b : List Pro) : (progsS (feedB base) base a (b.map blindP)).e ≠ 280 := by
  unfold progsS
  cases decide ((runL (fun _ => false) base 0 a).e = 0) with
  | false => exact runL_280 fun _ _ => rfl
  | true =>
    rw [cond_true]
    cases decide ((runL (feedB base (progsT base a)) (progsT base a) 0 (b.map blindP)).e = 0) with
    | false =>
      refine runL_280 fun p hp => ?_
      obtain ⟨q, _, rfl⟩ := List.mem_map.1 hp
      exact blind_ev _ q
    | true => simp
/-- What the law asks of a merge. -/
theorem progs_shape (base : Table) (a b : List Pro) (fb : Table → Pro → Bool) :
    (((progsS fb base a b).e = 0 ∧ (progsS fb base a b).n = a.length + b.length ∧ (runL (fun _ => false) base 0 (a ++ b)).e = 0 ∧ (runL (fun _ => false) base 0 (a ++ b)).next = (progsS fb base a b).next ∧ (runL (fun _ => false) base 0 (a ++ b)).l = (progsS fb base a b).l) ∨
     ((progsS fb base a b).e ≠ 0 ∧ 0 ≤ (progsS fb base a b).n ∧ (progsS fb base a b).n < a.length + b.length ∧ (progsS fb base a b).next = 0 ∧ (progsS fb base a b).l = [] ∧
      (progsS fb base (a.take (min (progsS fb base a b).n a.length).toNat) (b.take (max ((progsS fb base a b).n - a.length) 0).toNat)).e = 0 ∧
      (progsS fb base (a.take (min (progsS fb base a b).n a.length).toNat) (b.take (max ((progsS fb base a b).n - a.length) 0).toNat)).n = (progsS fb base a b).n)) := by
  have hun : ∀ a b, progsS fb base a b = (bif decide ((runL (fun _ => false) base 0 a).e = 0) then
    (bif decide ((runL (fb (progsT base a)) (progsT base a) 0 b).e = 0) then ⟨(runL (fb (progsT base a)) (progsT base a) 0 b).next, (runL (fb (progsT base a)) (progsT base a) 0 b).l, a.length + b.length, 0⟩
      else ⟨0, [], a.length + (runL (fb (progsT base a)) (progsT base a) 0 b).pos, (runL (fb (progsT base a)) (progsT base a) 0 b).e⟩)
  else ⟨0, [], (runL (fun _ => false) base 0 a).pos, (runL (fun _ => false) base 0 a).e⟩) := fun a b => rfl
  by_cases h1 : (runL (fun _ => false) base 0 a).e = 0
  · by_cases h2 : (runL (fb (progsT base a)) (progsT base a) 0 b).e = 0
    · left
      have e : progsS fb base a b = ⟨(runL (fb (progsT base a)) (progsT base a) 0 b).next, (runL (fb (progsT base a)) (progsT base a) 0 b).l, a.length + b.length, 0⟩ := by
        rw [hun, decide_eq_true h1, cond_true, decide_eq_true h2, cond_true]
      rw [e]
      have hf := runL_free 0 h2
      change runL (fun _ => false) ⟨(runL (fun _ => false) base 0 a).next, (runL (fun _ => false) base 0 a).l⟩ 0 b = _ at hf
      rcases runL_app (l2 := b) 0 h1 with ⟨q1, q2, q3⟩ | q
      · rw [hf] at q2 q3
        exact ⟨rfl, rfl, q1, q2, q3⟩
      · rw [hf] at q; exact (q rfl).elim
    · right
      have e : progsS fb base a b = ⟨0, [], a.length + (runL (fb (progsT base a)) (progsT base a) 0 b).pos, (runL (fb (progsT base a)) (progsT base a) 0 b).e⟩ := by
        rw [hun, decide_eq_true h1, cond_true, decide_eq_false h2, cond_false]
      obtain ⟨l1, l2⟩ := runL_lt h2
      have ht := runL_take h2
      rw [Int.sub_zero] at ht
      rw [e]
      simp only []
      have e1 : (min ((a.length : Int) + (runL (fb (progsT base a)) (progsT base a) 0 b).pos) a.length).toNat = a.length := by omega
      have e2 : (max ((a.length : Int) + (runL (fb (progsT base a)) (progsT base a) 0 b).pos - a.length) 0).toNat = (runL (fb (progsT base a)) (progsT base a) 0 b).pos.toNat := by omega
      rw [e1, e2, List.take_length]
      have e3 : progsS fb base a (b.take (runL (fb (progsT base a)) (progsT base a) 0 b).pos.toNat) = ⟨(runL (fb (progsT base a)) (progsT base a) 0 (b.take (runL (fb (progsT base a)) (progsT base a) 0 b).pos.toNat)).next, (runL (fb (progsT base a)) (progsT base a) 0 (b.take (runL (fb (progsT base a)) (progsT base a) 0 b).pos.toNat)).l, a.length + (b.take (runL (fb (progsT base a)) (progsT base a) 0 b).pos.toNat).length, 0⟩ := by
        rw [hun, decide_eq_true h1, cond_true, decide_eq_true ht, cond_true]
      rw [e3]
      refine ⟨h2, by omega, by omega, trivial, trivial, rfl, ?_⟩
      simp only [List.length_take]
      omega
  · right
    have e : progsS fb base a b = ⟨0, [], (runL (fun _ => false) base 0 a).pos, (runL (fun _ => false) base 0 a).e⟩ := by
      rw [hun, decide_eq_false h1, cond_false]
    obtain ⟨l1, l2⟩ := runL_lt h1
    have ht := runL_take h1
    rw [Int.sub_zero] at ht
    rw [e]
    simp only []
    have e1 : (min (runL (fun _ => false) base 0 a).pos (a.length : Int)).toNat = (runL (fun _ => false) base 0 a).pos.toNat := by omega
    have e2 : (max ((runL (fun _ => false) base 0 a).pos - (a.length : Int)) 0).toNat = 0 := by omega
    rw [e1, e2, List.take_zero]
    have hnil : ∀ (f : Pro → Bool) (t : Table), (runL f t 0 []).e = 0 := fun _ _ => rfl
    have e3 : progsS fb base (a.take (runL (fun _ => false) base 0 a).pos.toNat) [] = ⟨(progsT base (a.take (runL (fun _ => false) base 0 a).pos.toNat)).next, (progsT base (a.take (runL (fun _ => false) base 0 a).pos.toNat)).l, ((a.take (runL (fun _ => false) base 0 a).pos.toNat).length : Int) + (([] : List Pro).length : Int), 0⟩ := by
      rw [hun, decide_eq_true ht, cond_true, decide_eq_true (hnil _ _), cond_true]
      rfl
    rw [e3]
    refine ⟨h1, by omega, by omega, trivial, trivial, rfl, ?_⟩
    simp only [List.length_take, List.length_nil]
    omega
end Go.Den

/-! Ch. 30: MergeProgramsReplay, the law. -/
namespace Go.Den
open Go Go.Proofs
set_option linter.unusedSimpArgs false
set_option linter.unusedVariables false
set_option maxRecDepth 100000
set_option maxHeartbeats 1000000
def zc (_ : Pro) : List AV := [.int .i64 0]
theorem R27_Replay (t : Table) (l : List Pro) (hl : l.length < 1000000000) (hp : ∀ p ∈ l, PrOK p) (ht : TI (4 * (l.length : Int)) t) (hs : (runL (fun _ => false) t 0 l).e = 0) :
    Den prog 153 [.sl (l.map Pro.cells), .agg [.int .i64 t.next, .sl (t.l.map Line.cells)]] [] = some (.tup [.agg [.int .i64 (runL (fun _ => false) t 0 l).next, .sl ((runL (fun _ => false) t 0 l).l.map Line.cells)], .sl (l.map zc)], []) := by
  rw [Den_ofK [] pr_R27_Replay rfl]
  obtain ⟨R, hR⟩ : ∃ R, R = runL (fun _ => false) t 0 l := ⟨_, rfl⟩
  rw [← hR] at hs ⊢
  obtain ⟨Z, hZ⟩ : ∃ Z, Z = l.map zc := ⟨_, rfl⟩
  rw [← hZ]
  simp only [f_R27_Replay, go_sem]
  refine range_ind l (by omega) (fun i (s : Table × List (List AV)) => (Run prog 0 (.loop 3 [0, 3, 4, 6, 7] f_R27_Replay_l0) [(0, .sl (l.map Pro.cells)), (3, .ref 0 0), (4, .ref 1 0), (6, .osl 2 0 s.2.length 0 s.2.length), (7, .int .i64 i)]
      [.cells [.int .i64 s.1.next, .sl (s.1.l.map Line.cells)], .cells [.int .i64 0, .nils], .arr 0 1 s.2]).bind _ = _)
    (fun i rest s => R = runL (fun _ => false) s.1 i rest ∧ TI (4 * (rest.length : Int)) s.1 ∧ Z = s.2 ++ rest.map zc ∧ (s.2.length : Int) ≤ i) ?_ ?_ (t, []) ⟨hR, ht, by rw [hZ]; rfl, by simp⟩
  · intro s ⟨h, _, h2, _⟩
    obtain ⟨s, e⟩ := s
    rw [runL] at h
    have h2 : Z = e := by simpa using h2
    simp only [] at h
    rw [h, h2, Run_loop]
    simp only [f_R27_Replay_l0_eq, f_R27_Replay_l0u, go_sem]
  · intro i pre rest x s hq _ hi0 hi1 hx hc hw ⟨h, hti, h2, hl2⟩ ih
    obtain ⟨s, e⟩ := s
    simp only [] at h hti h2 hl2
    obtain ⟨hxo, ht4, hnx⟩ := ti_pre hp hq hti
    have hr := RunR_ti hxo ht4
    have hb : (e.length + 1) * 8 ≤ 140737488355328 := by clear hw hx hc ih h h2 hq hr hnx; omega
    rw [runL, cond_false] at h
    have he : (runS x s).e = 0 := by
      cases d : decide ((runS x s).e = 0) with
      | true => exact of_decide_eq_true d
      | false =>
        rw [d, cond_false] at h
        rw [h] at hs
        exact hs
    have hnx := hnx he
    rw [decide_eq_true he, cond_true] at h
    have d : decide ((0 : Int) = 0) = true := rfl
    have ih := ih (⟨(runS x s).next, (runS x s).l⟩, e ++ [[.int .i64 0]]) ⟨h, hnx, by rw [h2]; simp [zc], by simp; omega⟩
    simp only [TR.av, he] at hr
    clear h hR hnx he hq hxo ht4 hti hp ht h2 hZ
    generalize runS x s = q at *
    obtain ⟨⟨r1, r2, r3, r4, r5, r6, r7⟩, ⟨p1, p2, p3, p4, p5, p6, p7⟩, add, gs⟩ := x
    simp only [go_sem] at hr ih
    rw [Run_loop]
    simp only [f_R27_Replay_l0_eq, f_R27_Replay_l0u, hx, hc, hw, hr, d, hb, ih, go_sem]
theorem law_MPR_l0 {β : Type} {K : Ex × Env × St → Option β} {Z : Option β} (L : List Pro) (hL : L.length < 1000000000) (o0 o1 o3 o4 : List AV)
    (hK : K (.exit 0, [(3, .bool true), (11, .ref 3 0), (14, .ref 4 0), (15, .sl (L.map zc)), (16, .int .i64 L.length), (88, .bool false)], [.cells o0, .cells o1, .dead, .cells o3, .cells o4]) = Z) :
    (Run prog 0 (.loop 5 [3, 11, 14, 15, 16] f_L30_MergeProgramsReplay_l0) [(3, .bool true), (11, .ref 3 0), (14, .ref 4 0), (15, .sl (L.map zc)), (16, .int .i64 0)] [.cells o0, .cells o1, .dead, .cells o3, .cells o4]).bind K = Z := by
  refine range_ind L (by omega) (fun i (_ : Unit) => (Run prog 0 (.loop 5 [3, 11, 14, 15, 16] f_L30_MergeProgramsReplay_l0) [(3, .bool true), (11, .ref 3 0), (14, .ref 4 0), (15, .sl (L.map zc)), (16, .int .i64 i)] [.cells o0, .cells o1, .dead, .cells o3, .cells o4]).bind K = Z)
    (fun _ _ _ => True) ?_ ?_ () trivial
  · intro _ _
    rw [Run_loop]
    simp only [f_L30_MergeProgramsReplay_l0_eq, f_L30_MergeProgramsReplay_l0u, hK, go_sem]
  · intro i pre rest x _ _ _ _ _ hx hc hw _ ih
    have ih := ih () trivial
    have d : decide ((0 : Int) = 0) = true := rfl
    rw [Run_loop]
    simp only [f_L30_MergeProgramsReplay_l0_eq, f_L30_MergeProgramsReplay_l0u, hx, hc, hw, d, ih, zc, go_sem]
theorem law_MPR_l1 {β : Type} {K : Ex × Env × St → Option β} {Z : Option β} (b : List Pro) (hb : b.length < 1000000000) (v8 : AV) (h8 : v8.under 7 = true) (n n2 e2 : Int) (o0 o1 o3 o4 : List AV)
    (hK : K (.exit 2, [(3, .bool true), (7, .ref 1 0), (8, v8), (11, .ref 3 0), (12, .int .i64 n), (19, .int .i64 n2), (20, .int .i64 e2), (21, .osl 5 0 b.length 0 b.length), (22, .int .i64 b.length), (128, .bool false)],
      [.cells o0, .cells o1, .dead, .cells o3, .cells o4, .arr 0 16 ((b.map blindP).map Pro.cells)]) = Z) :
    (Run prog 0 (.loop 7 [3, 7, 8, 11, 12, 19, 20, 21, 22] f_L30_MergeProgramsReplay_l1) [(3, .bool true), (7, .ref 1 0), (8, v8), (11, .ref 3 0), (12, .int .i64 n), (19, .int .i64 n2), (20, .int .i64 e2), (21, .osl 5 0 b.length 0 b.length), (22, .int .i64 0)]
      [.cells o0, .cells o1, .dead, .cells o3, .cells o4, .arr 0 16 (b.map Pro.cells)]).bind K = Z := by
  refine range_ind b (by omega) (fun i (E : List (List AV)) => (Run prog 0 (.loop 7 [3, 7, 8, 11, 12, 19, 20, 21, 22] f_L30_MergeProgramsReplay_l1) [(3, .bool true), (7, .ref 1 0), (8, v8), (11, .ref 3 0), (12, .int .i64 n), (19, .int .i64 n2), (20, .int .i64 e2), (21, .osl 5 0 b.length 0 b.length), (22, .int .i64 i)]
      [.cells o0, .cells o1, .dead, .cells o3, .cells o4, .arr 0 16 E]).bind K = Z)
    (fun i rest E => ∃ pre, b = pre ++ rest ∧ i = (pre.length : Int) ∧ E = (pre.map blindP ++ rest).map Pro.cells) ?_ ?_ (b.map Pro.cells) ⟨[], rfl, rfl, rfl⟩
  · rintro E ⟨pre, h1, _, h2⟩
    have hE : E = (b.map blindP).map Pro.cells := by rw [h2, h1]; simp
    have hEl : E.length = b.length := by rw [hE]; simp
    rw [hE] at hEl ⊢
    generalize (b.map blindP).map Pro.cells = E at *
    rw [Run_loop]
    simp only [f_L30_MergeProgramsReplay_l1_eq, f_L30_MergeProgramsReplay_l1u, hEl, hK, go_sem]
  · rintro i _ rest x E _ _ hi0 hi1 hx hc hw ⟨pre, h1, h2, h3⟩ ih
    have hEl : E.length = b.length := by rw [h3, h1]; simp
    have hnat : i.toNat = pre.length := by omega
    have hget : E[i.toNat]? = some x.cells := by
      rw [hnat, h3, List.map_append, List.getElem?_append_right (by simp)]
      simp
    have hset : E.set i.toNat (blindP x).cells = ((pre ++ [x]).map blindP ++ rest).map Pro.cells := by
      rw [hnat, h3]
      simp
    have ih := ih (E.set i.toNat (blindP x).cells) ⟨pre ++ [x], by rw [h1]; simp, by rw [h2]; simp, hset⟩
    clear hset h3 h1 h2 hK hnat
    obtain ⟨⟨r1, r2, r3, r4, r5, r6, r7⟩, ⟨p1, p2, p3, p4, p5, p6, p7⟩, add, gs⟩ := x
    simp only [blindP, go_sem] at ih hget
    rw [Run_loop]
    simp only [f_L30_MergeProgramsReplay_l1_eq, f_L30_MergeProgramsReplay_l1u, hx, hc, hw, hEl, hget, hi0, hi1, ih, go_sem]
end Go.Den
