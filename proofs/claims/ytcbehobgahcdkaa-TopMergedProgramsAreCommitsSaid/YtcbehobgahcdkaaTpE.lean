/- Made programs (picked). -/
import Derived.Test.YtcbehobgahcdkaaTpB
import Derived.Test.YtcbehobgahcdkaaTpD
import Derived.Test.YtcbehobgahcdkaaShP
namespace Go.Den
open Go Go.Proofs
set_option linter.unusedSimpArgs false
set_option linter.unusedVariables false
set_option maxRecDepth 100000
set_option maxHeartbeats 1000000
def diffA (A B : List Line) : List Line := A.filter fun x => !sameS A B x.n
def diffB (A B : List Line) : List Line := B.filter fun x => !sameS A B x.n
theorem fnd_find (L : List Line) (n : Int) : fnd L n = (findL L n).map Line.r := rfl
theorem feed_diff {a b : Table} (ha : VT a) (hb : VT b) (q : List Cell → Bool) : ((feed a b).any fun e => q e.l.r) = (diffA a.l b.l ++ diffB a.l b.l).any fun x => q x.r := by
  have da : nodup a.l := by
    unfold nodup
    rw [List.nodup_iff_pairwise_ne, List.pairwise_map]
    exact ha.srt.imp fun h => by omega
  have db : nodup b.l := by
    unfold nodup
    rw [List.nodup_iff_pairwise_ne, List.pairwise_map]
    exact hb.srt.imp fun h => by omega
  rw [feed_def ha hb, eventsOf_any, Bool.eq_iff_iff]
  simp only [List.any_eq_true, List.mem_append, diffA, diffB, List.mem_filter, Bool.and_eq_true, Bool.or_eq_true, Bool.not_eq_true', decide_eq_false_iff_not]
  constructor
  · rintro ⟨i, hi, hne, h⟩
    have he := item_is ha.srt hb.srt hi
    rw [he] at hne h
    simp only [] at hne h
    have hs : sameS a.l b.l i.n = false := by
      unfold sameS
      rw [← fnd_find, ← fnd_find]
      simpa using hne
    rcases h with h | h
    · cases hf : fnd a.l i.n with
      | none => rw [hf] at h; simp at h
      | some r =>
        rw [hf] at h
        rw [fnd_find] at hf
        obtain ⟨x, hx, rfl⟩ := Option.map_eq_some_iff.1 hf
        obtain ⟨h1, h2⟩ := find_n hx
        exact ⟨x, .inl ⟨h2, by rw [h1]; exact hs⟩, h⟩
    · cases hf : fnd b.l i.n with
      | none => rw [hf] at h; simp at h
      | some r =>
        rw [hf] at h
        rw [fnd_find] at hf
        obtain ⟨x, hx, rfl⟩ := Option.map_eq_some_iff.1 hf
        obtain ⟨h1, h2⟩ := find_n hx
        exact ⟨x, .inr ⟨h2, by rw [h1]; exact hs⟩, h⟩
  · rintro ⟨x, h | h, hq⟩
    · obtain ⟨h1, h2⟩ := h
      have hf : lk Line.n a.l x.n = some x := find_some da h1
      have hfa : fnd a.l x.n = some x.r := by unfold fnd; rw [hf]; rfl
      refine ⟨_, item_of ha.srt hb.srt (n := x.n) (.inl (by rw [hf]; rfl)), ?_, .inl ?_⟩
      · simp only []
        intro e
        unfold sameS at h2
        rw [← fnd_find, ← fnd_find, e] at h2
        simp at h2
      · simp only [hfa]; exact hq
    · obtain ⟨h1, h2⟩ := h
      have hf : lk Line.n b.l x.n = some x := find_some db h1
      have hfa : fnd b.l x.n = some x.r := by unfold fnd; rw [hf]; rfl
      refine ⟨_, item_of ha.srt hb.srt (n := x.n) (.inr (by rw [hf]; rfl)), ?_, .inr ?_⟩
      · simp only []
        intro e
        unfold sameS at h2
        rw [← fnd_find, ← fnd_find, e] at h2
        simp at h2
      · simp only [hfa]; exact hq
/-- Programs keep a table in order. -/
theorem runS_vt {p : Pro} {t : Table} (ht : VT t) (he : (runS p t).e = 0) : VT ⟨(runS p t).next, (runS p t).l⟩ := by
  have h0 := ht.n0
  unfold runS at *
  cases d : !decide ((checkS t.l 0 p.gs).2 = 0) with
  | true =>
    rw [d, cond_true] at he
    simp only [Bool.not_eq_true', decide_eq_false_iff_not] at d
    exact (d he).elim
  | false =>
    rw [d, cond_false] at he
    simp only [cond_false]
    cases d2 : decide (4096 < (((t.l.filter (fun x => !matchP p.rem x.r)) ++ addL t.next p.add).length : Int)) || decide (4611686018427387904 < t.next + p.add.length) with
    | true => rw [d2, cond_true] at he; simp at he
    | false =>
      simp only [cond_false]
      simp only [Bool.or_eq_false_iff, decide_eq_false_iff_not] at d2
      have hf : ∀ x ∈ t.l.filter (fun x => !matchP p.rem x.r), 0 ≤ x.n ∧ x.n < t.next := fun x hx => ht.rng x (List.mem_filter.1 hx).1
      refine ⟨by simp only []; omega, by simp only []; omega, by simp only []; omega, ?_, fun x hx => ?_⟩
      · show List.Pairwise _ _
        rw [List.pairwise_append]
        refine ⟨ht.srt.sublist List.filter_sublist, addL_srt _ _, fun x hx y hy => ?_⟩
        have := hf x hx
        have := addL_mem (n := 0) hy; omega
      · simp only [] at hx ⊢
        rcases List.mem_append.1 hx with hx | hx
        · have := hf x hx; omega
        · have := addL_mem (n := 0) hx; omega
theorem runL_vt {fb : Pro → Bool} : ∀ {l : List Pro} {t : Table} {i : Int}, VT t → VT ⟨(runL fb t i l).next, (runL fb t i l).l⟩
  | [], t, i, h => h
  | p :: r, t, i, h => by
    rw [runL]
    cases fb p with
    | true => exact h
    | false =>
      rw [cond_false]
      cases d : decide ((runS p t).e = 0) with
      | false => exact h
      | true => rw [cond_true]; exact runL_vt (runS_vt h (of_decide_eq_true d))
theorem TOK.vt {t : Table} (h : TOK t) (hl : t.l.length ≤ 4096) : VT t := ⟨h.n0, by have := h.n1; omega, hl, h.srt, h.rng⟩
/-- What is asked of raw programs. -/
structure RawOk (p : Raw) : Prop where
  read : POK p.read
  rem : POK p.rem
  add : p.add.length < 1000000000000000
  gs : p.gs.length < 1000000000000000
  gw : ∀ g ∈ p.gs, POK g.w
theorem proS_ok {fs : List Fld} (hF : fs.length ≤ 64) (p : Raw) : PrOK (proS fs p) := by
  refine ⟨predS_ok fs 2 _, predS_ok fs 2 _, ?_, fun r hr => ?_, ?_, fun g hg => ?_⟩
  · simp only [proS, List.length_map, List.length_take]; omega
  · simp only [proS] at hr
    obtain ⟨v, _, rfl⟩ := List.mem_map.1 hr
    have := rowS_len fs v; omega
  · simp only [proS, grdsS]
    cases decide (0 < ((idsS fs).length : Int)) <;> simp <;> omega
  · simp only [proS, grdsS] at hg
    cases hd : decide (0 < ((idsS fs).length : Int)) with
    | false => rw [hd] at hg; simp at hg
    | true =>
      rw [hd, cond_true] at hg
      obtain ⟨g', _, rfl⟩ := List.mem_map.1 hg
      exact predS_ok fs 1 _
def madeP (fs : List Fld) (l : List Raw) (n : Nat) : List Pro := (l.take n).map (proS fs)
theorem madeP_ok {fs : List Fld} (hF : fs.length ≤ 64) (l : List Raw) (n : Nat) : ∀ p ∈ madeP fs l n, PrOK p := by
  intro p hp
  obtain ⟨r, _, rfl⟩ := List.mem_map.1 hp
  exact proS_ok hF r
theorem madeP_len (fs : List Fld) (l : List Raw) (n : Nat) : (madeP fs l n).length ≤ n := by unfold madeP; rw [List.length_map, List.length_take]; omega
theorem R27_MadeAll (fs : List Fld) (m : Int) (l : List Raw) (hF : fs.length ≤ 64) (hl : l.length < 1000000000000000) (hr : ∀ p ∈ l, RawOk p) :
    Den prog 151 [.agg [.sl (fs.map Fld.cells), .int .i64 m], .sl (l.map Raw.cells), .int .i64 4] [] = some (.sl ((madeP fs l 4).map Pro.cells), []) := by
  rw [Den_ofK [] pr_R27_MadeAll rfl]
  obtain ⟨R, hR⟩ : ∃ R, R = madeP fs l 4 := ⟨_, rfl⟩
  rw [← hR]
  unfold madeP at hR
  simp only [f_R27_MadeAll, go_sem]
  refine range_ind l hl (fun i (out : List Pro) => (Run prog 0 (.loop 1 [1, 2, 3, 7, 8] f_R27_MadeAll_l0) [(1, .sl (l.map Raw.cells)), (2, .int .i64 4), (3, .rptr [.sl (fs.map Fld.cells), .int .i64 m]), (7, .osl 0 0 out.length 0 out.length), (8, .int .i64 i)] [.arr 0 16 (out.map Pro.cells)]).bind _ = _)
    (fun i rest out => i ≤ 4 ∧ R = out ++ (rest.take (4 - i.toNat)).map (proS fs) ∧ (out.length : Int) ≤ i) ?_ ?_ [] ⟨by omega, by rw [hR]; simp, by simp⟩
  · intro out ⟨h4, h, _⟩
    have h : R = out := by rw [h]; simp
    rw [h, Run_loop]
    cases d : decide ((l.length : Int) < 4) <;> simp only [f_R27_MadeAll_l0_eq, f_R27_MadeAll_l0u, d, go_sem]
  · intro i pre rest x out hq _ hi0 hi1 hx hc hw ⟨h4, h, hl2⟩ ih
    rw [Run_loop]
    cases d : decide (i < 4) with
    | false =>
      have : i = 4 := by simp at d; omega
      subst this
      have h : R = out := by rw [h]; simp
      rw [h]
      have d4 : decide ((4 : Int) < 4) = false := rfl
      simp only [f_R27_MadeAll_l0_eq, f_R27_MadeAll_l0u, hc, d4, go_sem]
    | true =>
      have hi4 : i < 4 := of_decide_eq_true d
      have hb : (out.length + 1) * 240 ≤ 140737488355328 := by clear hw hx hc ih h hq hR; omega
      obtain ⟨q1, q2, q3, q4, q5⟩ := hr x (by rw [hq]; simp)
      have e : 4 - i.toNat = (4 - (i + 1).toNat) + 1 := by omega
      rw [e, List.take_succ_cons, List.map_cons] at h
      obtain ⟨⟨r1, r2, r3, r4, r5, r6, r7⟩, ⟨p1, p2, p3, p4, p5, p6, p7⟩, add, gs⟩ := x
      have hm := R27_Made fs m r1 r2 r3 r4 r5 r6 r7 p1 p2 p3 p4 p5 p6 p7 add gs (by omega) q4 q5 q3 q1 q2
      generalize proS fs ⟨.mk r1 r2 r3 r4 r5 r6 r7, .mk p1 p2 p3 p4 p5 p6 p7, add, gs⟩ = y at *
      have ih := ih (out ++ [y]) ⟨by omega, by rw [h]; simp, by simp; omega⟩
      clear h hq q1 q2 q3 q4 q5 hR hr
      obtain ⟨⟨s1, s2, s3, s4, s5, s6, s7⟩, ⟨t1, t2, t3, t4, t5, t6, t7⟩, add2, gs2⟩ := y
      simp only [go_sem] at ih hm
      simp only [f_R27_MadeAll_l0_eq, f_R27_MadeAll_l0u, hx, hc, hw, d, hm, hb, ih, Raw.cells, go_sem]
theorem tab_ok {fs : List Fld} (hF : fs.length ≤ 64) (raw : List (List Val)) : TOK (tabS fs raw 20) ∧ (tabS fs raw 20).l.length ≤ 20 ∧ (tabS fs raw 20).next ≤ 40 := by
  obtain ⟨t1, t2, t3, t4, t5⟩ := tabS_facts fs raw 20 hF
  have e : (20 : Int).toNat = 20 := rfl
  exact ⟨⟨by omega, by omega, by omega, fun x hx => ⟨(t4 x hx).1, (t4 x hx).2.1⟩, fun x hx => by have := (t4 x hx).2.2; omega, t5⟩, by omega, by omega⟩
theorem feed_small {a b : Table} (ha : VT a) (hb : VT b) (ra : rowsOk a.l) (rb : rowsOk b.l) : (feed a b).length < 1000000000000000 ∧ okEv (feed a b) := by
  constructor
  · rw [feed_def ha hb]
    have h1 := eventsOf_len (feedItems a.l b.l)
    have h2 := mergeS_len (na := Line.n) (nb := Line.n) (step := fun out n x y => out ++ [(⟨n, x.map Line.r, y.map Line.r⟩ : Item)]) List.length 1 (fun s n x y => by simp) a.l b.l []
    change (feedItems a.l b.l).length ≤ _ at h2
    have h3 := ha.len
    have h4 := hb.len
    simp at h2
    omega
  · intro e he
    have h := feed_diff ha hb fun r => !decide (r.length < 1000000000000)
    have hf : ((diffA a.l b.l ++ diffB a.l b.l).any fun x => !decide (x.r.length < 1000000000000)) = false := by
      rw [List.any_eq_false]
      intro x hx
      have : x.r.length < 1000000000000 := by
        rcases List.mem_append.1 hx with hx | hx
        · exact ra x (List.mem_filter.1 hx).1
        · exact rb x (List.mem_filter.1 hx).1
      simp [this]
    rw [hf, List.any_eq_false] at h
    simpa using h e he
theorem Programs_small {base : Table} (hb : TOK base) (hl : base.l.length ≤ 4096) {a b : List Pro} (la : a.length ≤ 1000) (lb : b.length ≤ 1000) (pa : ∀ p ∈ a, PrOK p) (pb : ∀ p ∈ b, PrOK p) (hn : base.next < 1000000) :
    Den prog 133 [.agg [.int .i64 base.next, .sl (base.l.map Line.cells)], .sl (a.map Pro.cells), .sl (b.map Pro.cells)] [] = some ((progsS (feedB base) base a b).av, []) := by
  have hv := hb.vt hl
  have h0 := hb.n0
  have hT : VT (progsT base a) := runL_vt hv
  have t0 : TI (0 + 4 * (a.length : Int)) base := ⟨by omega, hb.rows, hb.n0, by omega⟩
  obtain ⟨t1, t2⟩ := runL_ok (fb := fun _ => false) (i := 0) pa t0 (by omega)
  obtain ⟨h1, h2⟩ := feed_small hv hT hb.rows t1.rows
  exact merge_Programs base a b (by omega) hb.rows hb.n0 hn la lb pa pb h1 h2
theorem sh_rawok {n : Nat} {xs : List AV} (h : Sh Try.prog n 31 xs) : ∃ r : Raw, xs = r.cells ∧ RawOk r := by
  obtain ⟨r, h1, h2, h3, h4, h5, h6⟩ := sh_raw h
  exact ⟨r, h1, h2, h3, by omega, by omega, h6⟩
theorem sh_raws {n : Nat} {xs : List AV} (h : Sh Try.prog n 24 xs) : ∃ L : List Raw, xs = [.sl (L.map Raw.cells)] ∧ L.length * 240 ≤ 140737488351232 ∧ ∀ p ∈ L, RawOk p := by
  obtain ⟨es, k, rfl, hb, he⟩ := h.slice Try.underlying24
  obtain ⟨L, rfl, hL⟩ := list_typed (f := Raw.cells) fun y hy => sh_rawok (he y hy)
  have e : Try.prog.bytesOf 31 = 240 := by kernel_rfl
  rw [e] at hb
  exact ⟨L, rfl, by simpa using hb, hL⟩
end Go.Den
