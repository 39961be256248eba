import Derived.Test.YtljecilfdpgdbaaSPred
import Derived.Test.YtljecilfdpgdbaaSFeed
/-! Ch. 30: the functions of merging, tables. -/
namespace Go.Den
open Go
set_option linter.unusedSimpArgs false
set_option linter.unusedVariables false
set_option maxRecDepth 100000
set_option maxHeartbeats 1000000
theorem IndexFunc_Line (L : List Line) (hL : L.length < 1000000000000000) (f : Nat) (caps : List AV) (p : Line → Bool) (hcn : norms caps = caps) (hcr : norefs caps = true)
    (hp : ∀ x ∈ L, Den prog f (.agg [.int .i64 x.n, .sl (x.r.map Cell.cells)] :: caps) [] = some (.bool (p x), [])) : Den prog 101 [.sl (L.map Line.cells), .fn f caps] [] = some (.int .i64 (idxF p 0 L), []) := by
  rw [Den_ofK [] pr_slices_IndexFunc_api_Line_api_Line rfl]
  simp only [f_slices_IndexFunc_api_Line_api_Line, go_sem]
  refine range_ind L hL (fun i (_ : Unit) => (Run prog 0 (.loop 0 [0, 1, 7, 8] f_slices_IndexFunc_api_Line_api_Line_l0) [(0, .sl (L.map Line.cells)), (1, .fn f caps), (7, .int .i64 L.length), (8, .int .i64 i)] []).bind _ = _)
    (fun i rest _ => idxF p i rest = idxF p 0 L) ?_ ?_ () rfl
  · intro _ h
    rw [← h, Run_loop]
    simp only [f_slices_IndexFunc_api_Line_api_Line_l0_eq, f_slices_IndexFunc_api_Line_api_Line_l0u, idxF, go_sem]
  · intro i pre rest x _ hq _ hi0 hi1 hx hc hw h ih
    have hm := hp x (by rw [hq]; simp)
    rw [idxF] at h
    rw [Run_loop]
    cases d : p x with
    | true =>
      rw [d, cond_true] at h
      rw [← h]
      rw [d] at hm
      simp only [f_slices_IndexFunc_api_Line_api_Line_l0_eq, f_slices_IndexFunc_api_Line_api_Line_l0u, hx, hc, hw, hcn, hcr, hm, List.cons_append, List.nil_append, go_sem]
    | false =>
      rw [d, cond_false] at h
      rw [d] at hm
      have ih := ih () h
      simp only [f_slices_IndexFunc_api_Line_api_Line_l0_eq, f_slices_IndexFunc_api_Line_api_Line_l0u, hx, hc, hw, hcn, hcr, hm, ih, List.cons_append, List.nil_append, go_sem]
theorem IndexFunc_LineS (L : List Line) (hL : L.length < 1000000000000000) (f : Nat) (caps : List AV) (σ : St) (p : Line → Bool) (hcn : norms caps = caps) (hcr : norefs caps = false)
    (hp : ∀ x ∈ L, Den prog f (.agg [.int .i64 x.n, .sl (x.r.map Cell.cells)] :: caps) σ = some (.bool (p x), σ)) : Den prog 101 [.sl (L.map Line.cells), .fn f caps] σ = some (.int .i64 (idxF p 0 L), σ) := by
  rw [Den_ofK σ pr_slices_IndexFunc_api_Line_api_Line rfl]
  simp only [f_slices_IndexFunc_api_Line_api_Line, go_sem]
  refine range_ind L hL (fun i (_ : Unit) => (Run prog σ.length (.loop 0 [0, 1, 7, 8] f_slices_IndexFunc_api_Line_api_Line_l0) [(0, .sl (L.map Line.cells)), (1, .fn f caps), (7, .int .i64 L.length), (8, .int .i64 i)] σ).bind _ = _)
    (fun i rest _ => idxF p i rest = idxF p 0 L) ?_ ?_ () rfl
  · intro _ h
    rw [← h, Run_loop]
    simp only [f_slices_IndexFunc_api_Line_api_Line_l0_eq, f_slices_IndexFunc_api_Line_api_Line_l0u, idxF, List.take_length, go_sem]
  · intro i pre rest x _ hq _ hi0 hi1 hx hc hw h ih
    have hm := hp x (by rw [hq]; simp)
    rw [idxF] at h
    rw [Run_loop]
    cases d : p x with
    | true =>
      rw [d, cond_true] at h
      rw [← h]
      rw [d] at hm
      simp only [f_slices_IndexFunc_api_Line_api_Line_l0_eq, f_slices_IndexFunc_api_Line_api_Line_l0u, hx, hc, hw, hcn, hcr, hm, List.cons_append, List.nil_append, List.take_length, go_sem]
    | false =>
      rw [d, cond_false] at h
      rw [d] at hm
      have ih := ih () h
      simp only [f_slices_IndexFunc_api_Line_api_Line_l0_eq, f_slices_IndexFunc_api_Line_api_Line_l0u, hx, hc, hw, hcn, hcr, hm, ih, List.cons_append, List.nil_append, List.take_length, go_sem]
theorem ContainsFunc_LineS (L : List Line) (hL : L.length < 1000000000000000) (f : Nat) (caps : List AV) (σ : St) (p : Line → Bool) (hcn : norms caps = caps) (hcr : norefs caps = false)
    (hp : ∀ x ∈ L, Den prog f (.agg [.int .i64 x.n, .sl (x.r.map Cell.cells)] :: caps) σ = some (.bool (p x), σ)) : Den prog 104 [.sl (L.map Line.cells), .fn f caps] σ = some (.bool (L.any p), σ) := by
  have h := IndexFunc_LineS L hL f caps σ p hcn hcr hp
  rw [Den_ofK σ pr_slices_ContainsFunc_api_Line_api_Line rfl]
  have h2 := idxF_ge p L 0 (by omega)
  simp only [f_slices_ContainsFunc_api_Line_api_Line, h, hcn, hcr, h2, List.take_length, go_sem]
/-! States of numbers. -/
def stC (L : List Line) : List (AV × AV) := L.map fun x => (.int .i64 x.n, .rptr [.sl (x.r.map Cell.cells)])
def lookL (L : List Line) (n : Int) : Option (List Cell) := (L.find? fun x => decide (n = x.n)).map Line.r
/-- The numbers differ. -/
def nodup (L : List Line) : Prop := (L.map Line.n).Nodup
theorem mput_new (L : List Line) (n : Int) (v : AV) (h : n ∉ L.map Line.n) : mput false [.i] (.int .i64 n) v (stC L) = some (stC L ++ [(.int .i64 n, v)]) := by
  induction L with
  | nil => rfl
  | cons x r ih =>
    have h1 : decide (n = x.n) = false := by simp; intro e; exact h (by simp [e])
    have h2 := ih (fun hm => h (by simp at hm ⊢; exact .inr hm))
    simp only [stC, List.map_cons] at h2 ⊢
    simp only [mput_cons, keyEq_int, Option.bind_some, mputC_eq, h1, brk_false, h2]
    rfl
theorem mfind_st (L : List Line) (n : Int) : mfind false [.i] (.int .i64 n) (stC L) = some ((lookL L n).map fun r => .rptr [.sl (r.map Cell.cells)]) := by
  induction L with
  | nil => rfl
  | cons x r ih =>
    simp only [stC, List.map_cons, lookL, List.find?_cons] at ih ⊢
    cases d : decide (n = x.n) with
    | true => simp only [mfind_cons, keyEq_int, Option.bind_some, mfindC_eq, d, brk_true]; rfl
    | false => simp only [mfind_cons, keyEq_int, Option.bind_some, mfindC_eq, d, brk_false, ih]
theorem merge_states (t : Table) (hL : t.l.length < 1000000000000000) (hd : nodup t.l) : Den prog 102 [.agg [.int .i64 t.next, .sl (t.l.map Line.cells)]] [] = some (.fn 100 [.rptr [.fmap (stC t.l)]], []) := by
  rw [Den_ofK [] pr_merge_states rfl]
  simp only [f_merge_states, go_sem]
  refine range_ind t.l hL (fun i (q : List Line) => (Run prog 0 (.loop 2 [1, 3, 8, 9] f_merge_states_l0) [(1, .rptr [.int .i64 t.next, .sl (t.l.map Line.cells)]), (3, .ref 1 0), (8, .int .i64 t.l.length), (9, .int .i64 i)] [.map (stC q), .cells [.mapr 0]]).bind _ = _)
    (fun i rest q => q ++ rest = t.l) ?_ ?_ [] rfl
  · intro q h
    simp only [List.append_nil] at h
    rw [Run_loop]
    have hf : ∀ n, frzDp (frzD 0 [.map (stC q), .cells [.mapr 0]] (n + 1)) (stC q) = some (stC q) := fun n => frzDp_plain _ _ _ _ fun x _ => rfl
    simp only [f_merge_states_l0_eq, f_merge_states_l0u, hf, go_sem]
    rw [h]
  · intro i pre rest x q hq _ hi0 hi1 hx hc hw h ih
    have hm := mput_new q x.n (.rptr [.sl (x.r.map Cell.cells)]) (by
      unfold nodup at hd
      rw [← h] at hd
      simp only [List.map_append, List.map_cons, List.nodup_append] at hd
      intro hm
      exact hd.2.2 _ hm _ (by simp) rfl)
    have ih := ih (q ++ [x]) (by simpa using h)
    simp only [stC, List.map_append, List.map_cons, List.map_nil] at ih hm
    rw [Run_loop]
    simp only [stC]
    simp only [f_merge_states_l0_eq, f_merge_states_l0u, hx, hc, hw, hm, ih, go_sem]
theorem states_1 (L : List Line) (n : Int) : Den prog 100 [.int .i64 n, .rptr [.fmap (stC L)]] [] = some (ptrc (lookL L n), []) := by
  rw [Den_ofK [] pr_merge_states_1 rfl]
  have h := mfind_st L n
  cases e : lookL L n with
  | none => rw [e] at h; simp only [f_merge_states_1, h, ptrc, Option.map_none, go_sem]
  | some r => rw [e] at h; simp only [f_merge_states_1, h, ptrc, Option.map_some, go_sem]
end Go.Den

/-! Ch. 30: merging, the program's way. -/
namespace Go.Den
open Go
set_option linter.unusedSimpArgs false
set_option linter.unusedVariables false
set_option maxRecDepth 100000
set_option maxHeartbeats 1000000
theorem merge_equal (x y : Option (List Cell)) (hx : lenB x) : Den prog 107 [ptrc x, ptrc y] [] = some (.bool (decide (x = y)), []) := by
  rw [Den_ofK [] pr_merge_equal rfl]
  cases x with
  | none => cases y with
    | none => simp only [f_merge_equal, go_sem]
    | some y =>
      have : decide (none = some y) = false := rfl
      simp only [f_merge_equal, this, go_sem]
  | some x => cases y with
    | none =>
      have : decide (some x = none) = false := rfl
      simp only [f_merge_equal, this, go_sem]
    | some y =>
      have h := slices_Equal x y (hx x rfl)
      have e : decide (some x = some y) = decide (x = y) := by simp
      simp only [f_merge_equal, h, e, go_sem]
theorem lookL_len {L : List Line} (h : rowsOk L) (n : Int) : lenB (lookL L n) := by
  intro r hr
  unfold lookL at hr
  obtain ⟨x, hx, rfl⟩ := Option.map_eq_some_iff.1 hr
  have := h x (List.mem_of_find?_eq_some hx)
  omega
theorem fits_1 (bn : Int) (bl : AV) (L : List Line) (n : Int) (r : List Cell) (τ : St) :
    Den prog 103 [.agg [.int .i64 n, .sl (r.map Cell.cells)], .rptr [.int .i64 bn, bl], .ref 0 0] (.cells [.fn 100 [.rptr [.fmap (stC L)]]] :: τ) = some (.bool (decide (n < bn) && decide (lookL L n = none)), .cells [.fn 100 [.rptr [.fmap (stC L)]]] :: τ) := by
  rw [Den_ofK _ pr_merge_fits_1 rfl]
  have h := states_1 L n
  cases d : decide (n < bn) with
  | false => simp only [f_merge_fits_1, d, h, Bool.false_and, List.take_length, go_sem]
  | true =>
    cases e : lookL L n with
    | none =>
      rw [e] at h
      have e2 : decide ((none : Option (List Cell)) = none) = true := rfl
      simp only [f_merge_fits_1, d, h, e2, Bool.true_and, List.take_length, go_sem]
    | some q =>
      rw [e] at h
      have e2 : decide (some q = none) = false := rfl
      simp only [f_merge_fits_1, d, h, e2, Bool.and_false, List.take_length, go_sem]
def fitsS (base t : Table) : Bool := decide (base.next ≤ t.next) && !t.l.any fun x => decide (x.n < base.next) && decide (lookL base.l x.n = none)
theorem merge_fits (base t : Table) (hb : base.l.length < 1000000000000000) (ht : t.l.length < 1000000000000000) (hd : nodup base.l) :
    Den prog 106 [.agg [.int .i64 base.next, .sl (base.l.map Line.cells)], .agg [.int .i64 t.next, .sl (t.l.map Line.cells)]] [] = some (.bool (fitsS base t), []) := by
  have hs := merge_states base hb hd
  have hc := ContainsFunc_LineS t.l ht 103 [.rptr [.int .i64 base.next, .sl (base.l.map Line.cells)], .ref 0 0] [.cells [.fn 100 [.rptr [.fmap (stC base.l)]]]] (fun x => decide (x.n < base.next) && decide (lookL base.l x.n = none)) rfl rfl
    (fun x _ => fits_1 base.next (.sl (base.l.map Line.cells)) base.l x.n x.r [])
  rw [Den_ofK [] pr_merge_fits rfl]
  unfold fitsS
  cases d : decide (base.next ≤ t.next) with
  | false => simp only [f_merge_fits, hs, d, Bool.false_and, go_sem]
  | true => simp only [f_merge_fits, hs, hc, d, Bool.true_and, go_sem]
def freshS (b : Int) (L : List Line) : List Line := bif decide (idxF (fun x : Line => decide (b ≤ x.n)) 0 L < 0) then [] else L.drop (idxF (fun x : Line => decide (b ≤ x.n)) 0 L).toNat
theorem fresh_1 (b : Int) (bl : AV) (n : Int) (r : List Cell) : Den prog 105 [.agg [.int .i64 n, .sl (r.map Cell.cells)], .rptr [.int .i64 b, bl]] [] = some (.bool (decide (b ≤ n)), []) := by
  rw [Den_ofK [] pr_merge_fresh_1 rfl]
  simp only [f_merge_fresh_1, go_sem]
theorem merge_fresh (bn : Int) (bl : List Line) (t : Table) (ht : t.l.length < 1000000000000000) :
    Den prog 108 [.agg [.int .i64 bn, .sl (bl.map Line.cells)], .agg [.int .i64 t.next, .sl (t.l.map Line.cells)]] [] = some (.sl ((freshS bn t.l).map Line.cells), []) := by
  have hi := IndexFunc_Line t.l ht 105 [.rptr [.int .i64 bn, .sl (bl.map Line.cells)]] (fun x => decide (bn ≤ x.n)) rfl rfl (fun x _ => fresh_1 bn _ x.n x.r)
  have hl := idxF_lt (fun x : Line => decide (bn ≤ x.n)) t.l 0
  rw [Den_ofK [] pr_merge_fresh rfl]
  unfold freshS
  generalize idxF (fun x : Line => decide (bn ≤ x.n)) 0 t.l = k at *
  cases d : decide (k < 0) with
  | true => simp only [f_merge_fresh, hi, d, cond_true, go_sem]
  | false =>
    have h0 : 0 ≤ k := by simpa using d
    have h1 : k ≤ ((t.l.map Line.cells).length : Int) := by rw [List.length_map]; omega
    have h2 : szOK 2 (t.l.map Line.cells) := by rw [szOK_map 2 Line.cells t.l fun _ => rfl]; trivial
    have hs := sliceV_from [] 2 (t.l.map Line.cells) .i64 k h0 h1 h2
    simp only [f_merge_fresh, hi, d, hs, cond_false, List.map_drop, go_sem]
/-! Merge. -/
structure MR where
  next : Int
  l : List Line
  c : List Line
  e : Int
def MR.av (r : MR) : AV := .tup [.agg [.int .i64 r.next, .sl (r.l.map Line.cells)], .sl (r.c.map Line.cells), .int .i64 r.e]
attribute [go_sem] MR.av
def noM (c : List Line) (e : Int) : MR := ⟨0, [], c, e⟩
theorem noM_next (c : List Line) (e : Int) : (noM c e).next = 0 := rfl
theorem noM_l (c : List Line) (e : Int) : (noM c e).l = [] := rfl
theorem noM_c (c : List Line) (e : Int) : (noM c e).c = c := rfl
theorem noM_e (c : List Line) (e : Int) : (noM c e).e = e := rfl
attribute [go_sem] noM_next noM_l noM_c noM_e
def clash (A B : List Line) (x : Line) : Bool := !decide (lookL A x.n = some x.r) && (!decide (lookL B x.n = some x.r) && !decide (lookL A x.n = lookL B x.n))
def pickM (A B : List Line) (x : Line) : Option (List Cell) := bif decide (lookL A x.n = some x.r) then lookL B x.n else lookL A x.n
def keptM (A B : List Line) (L : List Line) : List Line := L.filterMap fun x => (pickM A B x).map fun r => ⟨x.n, r⟩
theorem keptM_cons (A B : List Line) (x : Line) (r : List Line) : keptM A B (x :: r) = ((pickM A B x).map fun q => (⟨x.n, q⟩ : Line)).toList ++ keptM A B r := by
  unfold keptM
  rw [List.filterMap_cons]
  cases (pickM A B x).map fun q => (⟨x.n, q⟩ : Line) <;> rfl
def numL (n : Int) : List Line → List Line
  | [] => []
  | x :: q => ⟨n, x.r⟩ :: numL (n + 1) q
theorem numL_len (q : List Line) : ∀ n, (numL n q).length = q.length := by
  induction q with
  | nil => intro n; rfl
  | cons r q ih => intro n; simp [numL, ih]
def mergeM (base a b : Table) : MR :=
  bif !fitsS base a || !fitsS base b then noM [] 1 else
  bif decide (0 < ((base.l.filter (clash a.l b.l)).length : Int)) then noM (base.l.filter (clash a.l b.l)) 280 else
  bif decide (4096 < ((keptM a.l b.l base.l ++ freshS base.next a.l ++ numL a.next (freshS base.next b.l)).length : Int)) || decide (4611686018427387904 < a.next + (freshS base.next b.l).length) then noM [] 2 else
  ⟨a.next + (freshS base.next b.l).length, keptM a.l b.l base.l ++ freshS base.next a.l ++ numL a.next (freshS base.next b.l), [], 0⟩
theorem freshS_sub (b : Int) (L : List Line) : ∀ x ∈ freshS b L, x ∈ L := by
  intro x hx
  unfold freshS at hx
  cases d : decide (idxF (fun x : Line => decide (b ≤ x.n)) 0 L < 0) with
  | true => rw [d] at hx; simp at hx
  | false => rw [d] at hx; exact List.mem_of_mem_drop (by simpa using hx)
theorem freshS_len (b : Int) (L : List Line) : (freshS b L).length ≤ L.length := by
  unfold freshS
  cases decide (idxF (fun x : Line => decide (b ≤ x.n)) 0 L < 0) with
  | true => simp
  | false => simp
section
variable (base a b : Table)
theorem merge_Merge (hb : base.l.length < 1000000000) (ha : a.l.length < 1000000000) (hc : b.l.length < 1000000000) (nb : nodup base.l) (na : nodup a.l) (nc : nodup b.l)
    (ra : rowsOk a.l) (rc : rowsOk b.l) (h0 : 0 ≤ a.next) (h1 : a.next < 1000000000000) :
    Den prog 132 [.agg ([AV.int IntKind.i64 base.next, AV.sl (base.l.map Line.cells)] : List AV), .agg ([AV.int IntKind.i64 a.next, AV.sl (a.l.map Line.cells)] : List AV), .agg ([AV.int IntKind.i64 b.next, AV.sl (b.l.map Line.cells)] : List AV)] [] = some ((mergeM base a b).av, []) := by
  have f1 := merge_fits base a (by omega) (by omega) nb
  have f2 := merge_fits base b (by omega) (by omega) nb
  have s1 := merge_states a (by omega) na
  have s2 := merge_states b (by omega) nc
  have g1 := merge_fresh base.next base.l a (by omega)
  have g2 := merge_fresh base.next base.l b (by omega)
  have lf1 := freshS_len base.next a.l
  have lf2 := freshS_len base.next b.l
  rw [Den_ofK [] pr_merge_Merge rfl]
  obtain ⟨R, hR⟩ : ∃ R, R = mergeM base a b := ⟨_, rfl⟩
  rw [← hR]
  unfold mergeM at hR
  cases d1 : fitsS base a with
  | false =>
    rw [d1, Bool.not_false, Bool.true_or, cond_true] at hR
    rw [d1] at f1; rw [hR]
    simp only [f_merge_Merge, f1, go_sem]
  | true => cases d2 : fitsS base b with
    | false =>
      rw [d1, d2, Bool.not_false, Bool.or_true, cond_true] at hR
      rw [d1] at f1; rw [d2] at f2; rw [hR]
      simp only [f_merge_Merge, f1, f2, go_sem]
    | true =>
      rw [d1, d2, Bool.not_true, Bool.or_self, cond_false] at hR
      rw [d1] at f1; rw [d2] at f2
      simp only [f_merge_Merge, f1, f2, s1, s2, go_sem]
      refine range_ind base.l (by omega) (fun i (s : List Line × List Line) => (Run prog 0 (.loop 4 [3, 4, 5, 6, 9, 10, 11, 12, 39, 40, 41] f_merge_Merge_l0) [(3, .rptr ([AV.int IntKind.i64 base.next, AV.sl (base.l.map Line.cells)] : List AV)), (4, .rptr ([AV.int IntKind.i64 a.next, AV.sl (a.l.map Line.cells)] : List AV)), (5, .rptr ([AV.int IntKind.i64 b.next, AV.sl (b.l.map Line.cells)] : List AV)), (6, .ref 0 0), (9, .fn 100 [.rptr [.fmap (stC a.l)]]), (10, .fn 100 [.rptr [.fmap (stC b.l)]]),
          (11, .osl 1 0 s.1.length 0 s.1.length), (12, .ref 3 0), (39, .sl (base.l.map Line.cells)), (40, .int .i64 base.l.length), (41, .int .i64 i)]
          [.cells [.int .i64 0, .nils], .arr 0 2 (s.1.map Line.cells), .arr 0 2 (s.2.map Line.cells), .cells [.int .i64 a.next, .osl 2 0 s.2.length 0 s.2.length]]).bind _ = _)
        (fun i rest s => s.1 ++ rest.filter (clash a.l b.l) = base.l.filter (clash a.l b.l) ∧ s.2 ++ keptM a.l b.l rest = keptM a.l b.l base.l ∧ (s.1.length : Int) ≤ i ∧ (s.2.length : Int) ≤ i) ?_ ?_ ([], []) ⟨by simp, by simp, by simp, by simp⟩
      · intro s ⟨h2, h3, h4, h5⟩
        obtain ⟨c, out⟩ := s
        simp only [] at h2 h3 h4 h5
        rw [List.filter_nil, List.append_nil] at h2
        have h3 : out = keptM a.l b.l base.l := by rw [← h3]; simp [keptM]
        rw [← h2, ← h3] at hR
        clear h2 h3
        rw [Run_loop]
        cases e1 : decide (0 < (c.length : Int)) with
        | true =>
          rw [e1, cond_true] at hR
          rw [hR]
          simp only [f_merge_Merge_l0_eq, f_merge_Merge_l0u, e1, go_sem]
        | false =>
          rw [e1, cond_false] at hR
          have hb1 : (out.length + (freshS base.next a.l).length) * 32 ≤ 140737488355328 := by clear f1 f2 s1 s2 g1 g2; omega
          generalize hfa : freshS base.next a.l = fa at *
          generalize hfb : freshS base.next b.l = fb at *
          simp only [f_merge_Merge_l0_eq, f_merge_Merge_l0u, e1, g1, g2, hb1, cond_false, List.length_map, go_sem]
          simp only [← List.map_append, ← List.length_append]
          refine range_ind fb (by omega) (fun i (s : List Line × Int) => (Run prog 0 (.loop 4 [6, 12, 111, 112, 113] f_merge_Merge_l1) [(6, .ref 0 0), (12, .ref 3 0), (111, .sl (fb.map Line.cells)), (112, .int .i64 fb.length), (113, .int .i64 i)]
              [.cells [.int .i64 0, .nils], .arr 0 2 (c.map Line.cells), .arr 0 2 (s.1.map Line.cells), .cells [.int .i64 s.2, .osl 2 0 s.1.length 0 s.1.length]]).bind _ = _)
            (fun i rest s => s.1 ++ numL s.2 rest = out ++ fa ++ numL a.next fb ∧ (s.1.length : Int) = out.length + fa.length + i ∧ s.2 = a.next + i) ?_ ?_ (out ++ fa, a.next) ⟨rfl, by simp, by simp⟩
          · intro s ⟨h, hl2, hm⟩
            obtain ⟨o2, m⟩ := s
            simp only [] at hm hl2 h
            subst hm
            simp only [numL, List.append_nil] at h
            rw [← h] at hR
            rw [Run_loop]
            cases e1 : decide (4096 < (o2.length : Int)) with
            | true =>
              rw [e1, Bool.true_or, cond_true] at hR
              rw [hR]
              simp only [f_merge_Merge_l1_eq, f_merge_Merge_l1u, e1, go_sem]
            | false => cases e2 : decide (4611686018427387904 < a.next + (fb.length : Int)) with
              | true =>
                rw [e1, e2, Bool.or_true, cond_true] at hR
                rw [hR]
                simp only [f_merge_Merge_l1_eq, f_merge_Merge_l1u, e1, e2, go_sem]
              | false =>
                rw [e1, e2, Bool.or_false, cond_false] at hR
                rw [hR]
                simp only [f_merge_Merge_l1_eq, f_merge_Merge_l1u, e1, e2, go_sem]
          · intro i pre rest x s hq _ hi0 hi1 hx hc hw ⟨h, hl2, hm⟩ ih
            obtain ⟨o2, m⟩ := s
            simp only [] at hm hl2 h
            have hb : (o2.length + 1) * 32 ≤ 140737488355328 := by clear hw hx hc ih h hq f1 f2 s1 s2 g1 g2; omega
            have hw2 : IntKind.wrap .i64 (m + 1) = m + 1 := wrap_i64 (by clear hw hx hc ih h hq f1 f2 s1 s2 g1 g2; omega) (by clear hw hx hc ih h hq f1 f2 s1 s2 g1 g2; omega)
            have ih := ih (o2 ++ [⟨m, x.r⟩], m + 1) ⟨by rw [← h, numL]; simp, by simp; clear hw hx hc h hq hw2 f1 f2 s1 s2 g1 g2; omega, by simp only []; clear hw hx hc h hq hw2 f1 f2 s1 s2 g1 g2; omega⟩
            clear h hq
            simp only [go_sem] at ih
            rw [Run_loop]
            simp only [f_merge_Merge_l1_eq, f_merge_Merge_l1u, hx, hc, hw, hw2, hb, ih, go_sem]
      · intro i pre rest x s hq _ hi0 hi1 hx hc hw ⟨h2, h3, h4, h5⟩ ih
        obtain ⟨c, out⟩ := s
        simp only [] at h2 h3 h4 h5
        have hb1 : (c.length + 1) * 32 ≤ 140737488355328 := by clear hw hx hc ih h2 h3 hq f1 f2 s1 s2 g1 g2; omega
        have hb2 : (out.length + 1) * 32 ≤ 140737488355328 := by clear hw hx hc ih h2 h3 hq f1 f2 s1 s2 g1 g2; omega
        have hu := states_1 a.l x.n
        have hv := states_1 b.l x.n
        have lu := lookL_len ra x.n
        have lv := lookL_len rc x.n
        have e1 := merge_equal _ (some x.r) lu
        have e2 := merge_equal _ (some x.r) lv
        have e3 := merge_equal _ (lookL b.l x.n) lu
        have hcl : clash a.l b.l x = (!decide (lookL a.l x.n = some x.r) && (!decide (lookL b.l x.n = some x.r) && !decide (lookL a.l x.n = lookL b.l x.n))) := rfl
        have hpk : pickM a.l b.l x = bif decide (lookL a.l x.n = some x.r) then lookL b.l x.n else lookL a.l x.n := rfl
        simp only [ptrc_some] at e1 e2
        rw [List.filter_cons, hcl] at h2
        rw [keptM_cons, hpk] at h3
        generalize lookL a.l x.n = u at *
        generalize lookL b.l x.n = v at *
        generalize decide (u = some x.r) = p at *
        generalize decide (v = some x.r) = q at *
        generalize decide (u = v) = t at *
        clear hcl hpk lu lv hq f1 f2 s1 s2 g1 g2
        rw [Run_loop]
        cases p with
        | true =>
          simp only [Bool.not_true, Bool.false_and, cond_true, Bool.false_eq_true, if_false] at h2 h3
          cases v with
          | none =>
            simp only [Option.map_none, Option.toList_none, List.nil_append] at h3
            have ih := ih (c, out) ⟨h2, h3, by simp only []; omega, by simp only []; omega⟩
            simp only [ptrc_none, go_sem] at *
            simp only [f_merge_Merge_l0_eq, f_merge_Merge_l0u, hx, hc, hw, hu, hv, e1, e2, e3, ih, go_sem]
          | some r =>
            have ih := ih (c, out ++ [⟨x.n, r⟩]) ⟨h2, by rw [← h3]; simp, by simp only []; omega, by simp; omega⟩
            simp only [ptrc_some, go_sem] at *
            simp only [f_merge_Merge_l0_eq, f_merge_Merge_l0u, hx, hc, hw, hu, hv, e1, e2, e3, hb2, ih, go_sem]
        | false =>
          simp only [Bool.not_false, Bool.true_and, cond_false] at h2 h3
          cases hqt : (!q && !t) with
          | false =>
            rw [hqt] at h2
            simp only [Bool.false_eq_true, if_false] at h2
            cases u with
            | none =>
              simp only [Option.map_none, Option.toList_none, List.nil_append] at h3
              have ih := ih (c, out) ⟨h2, h3, by simp only []; omega, by simp only []; omega⟩
              simp only [ptrc_none, go_sem] at *
              cases q <;> cases t <;> first | (exact absurd hqt (by decide)) | simp only [f_merge_Merge_l0_eq, f_merge_Merge_l0u, hx, hc, hw, hu, hv, e1, e2, e3, ih, go_sem]
            | some r =>
              have ih := ih (c, out ++ [⟨x.n, r⟩]) ⟨h2, by rw [← h3]; simp, by simp only []; omega, by simp; omega⟩
              simp only [ptrc_some, go_sem] at *
              cases q <;> cases t <;> first | (exact absurd hqt (by decide)) | simp only [f_merge_Merge_l0_eq, f_merge_Merge_l0u, hx, hc, hw, hu, hv, e1, e2, e3, hb2, ih, go_sem]
          | true =>
            rw [hqt] at h2
            simp only [if_true] at h2
            have hq2 : q = false := by cases q <;> simp_all
            have ht2 : t = false := by cases t <;> simp_all
            subst hq2; subst ht2
            cases u with
            | none =>
              simp only [Option.map_none, Option.toList_none, List.nil_append] at h3
              have ih := ih (c ++ [x], out) ⟨by rw [← h2]; simp, h3, by simp; omega, by simp only []; omega⟩
              simp only [ptrc_none, go_sem] at *
              simp only [f_merge_Merge_l0_eq, f_merge_Merge_l0u, hx, hc, hw, hu, hv, e1, e2, e3, hb1, ih, go_sem]
            | some r =>
              have ih := ih (c ++ [x], out ++ [⟨x.n, r⟩]) ⟨by rw [← h2]; simp, by rw [← h3]; simp, by simp; omega, by simp; omega⟩
              simp only [ptrc_some, go_sem] at *
              simp only [f_merge_Merge_l0_eq, f_merge_Merge_l0u, hx, hc, hw, hu, hv, e1, e2, e3, hb1, hb2, ih, go_sem]
end
end Go.Den

/-! Ch. 30: merging, the reference's way; tables held against each other. -/
namespace Go.Den
open Go
set_option linter.unusedSimpArgs false
set_option linter.unusedVariables false
set_option maxRecDepth 100000
set_option maxHeartbeats 1000000
def findL (L : List Line) (n : Int) : Option Line := L.find? fun x => decide (x.n = n)
def lineO : Option Line → Line
  | none => ⟨0, []⟩
  | some l => l
theorem lineO_none : lineO none = ⟨0, []⟩ := rfl
theorem lineO_some (l : Line) : lineO (some l) = l := rfl
theorem R30_find (L : List Line) (nx n : Int) (hL : L.length < 1000000000000000) : Den prog 137 [.agg [.int .i64 nx, .sl (L.map Line.cells)], .int .i64 n] [] =
    some (.tup [.agg [.int .i64 (lineO (findL L n)).n, .sl ((lineO (findL L n)).r.map Cell.cells)], .bool (findL L n).isSome], []) := by
  rw [Den_ofK [] pr_R30_find rfl]
  simp only [f_R30_find, go_sem]
  refine range_ind L hL (fun i (_ : Unit) => (Run prog 0 (.loop 1 [1, 2, 4, 6] f_R30_find_l0) [(1, .int .i64 n), (2, .rptr [.int .i64 nx, .sl (L.map Line.cells)]), (4, .ref 0 0), (6, .int .i64 i)] [.cells [.int .i64 0, .nils]]).bind _ = _)
    (fun i rest _ => findL rest n = findL L n) ?_ ?_ () rfl
  · intro _ h
    rw [← h, Run_loop]
    simp only [f_R30_find_l0_eq, f_R30_find_l0u, findL, List.find?_nil, Option.isSome_none, lineO_none, go_sem]
  · intro i pre rest x _ hq _ hi0 hi1 hx hc hw h ih
    unfold findL at h
    rw [List.find?_cons] at h
    rw [Run_loop]
    cases d : decide (x.n = n) with
    | true =>
      rw [d] at h
      change some x = findL L n at h
      rw [← h]
      simp only [f_R30_find_l0_eq, f_R30_find_l0u, hx, hc, hw, d, Option.isSome_some, lineO_some, go_sem]
    | false =>
      rw [d] at h
      have ih := ih () h
      clear h
      simp only [f_R30_find_l0_eq, f_R30_find_l0u, hx, hc, hw, d, ih, go_sem]
theorem findL_len {L : List Line} (h : rowsOk L) (n : Int) : (lineO (findL L n)).r.length < 1000000000000000 := by
  cases e : findL L n with
  | none => simp [lineO]
  | some x =>
    have := h x (List.mem_of_find?_eq_some e)
    simp only [lineO]; omega
theorem bff : (false == false) = true := rfl
theorem bft : (false == true) = false := rfl
theorem btf : (true == false) = false := rfl
theorem btt : (true == true) = true := rfl
def sameS (A B : List Line) (n : Int) : Bool := decide ((findL A n).map Line.r = (findL B n).map Line.r)
theorem R30_same (A B : List Line) (na nb n : Int) (hA : A.length < 1000000000000000) (hB : B.length < 1000000000000000) (rA : rowsOk A) :
    Den prog 139 [.agg [.int .i64 na, .sl (A.map Line.cells)], .agg [.int .i64 nb, .sl (B.map Line.cells)], .int .i64 n] [] = some (.bool (sameS A B n), []) := by
  have h1 := R30_find A na n hA
  have h2 := R30_find B nb n hB
  have h3 := findL_len rA n
  rw [Den_ofK [] pr_R30_same rfl]
  unfold sameS
  generalize findL A n = u at *
  generalize findL B n = v at *
  have h4 := R06_SameRow (lineO u).r (lineO v).r h3
  cases u with
  | none =>
    cases v with
    | none =>
      have e : decide (Option.map Line.r none = Option.map Line.r none) = true := rfl
      simp only [f_R30_same, h1, h2, h4, e, bff, bft, btf, btt, Option.isSome_none, go_sem]
    | some v =>
      have e : decide (Option.map Line.r none = Option.map Line.r (some v)) = false := rfl
      simp only [f_R30_same, h1, h2, h4, e, bff, bft, btf, btt, Option.isSome_none, Option.isSome_some, go_sem]
  | some u =>
    cases v with
    | none =>
      have e : decide (Option.map Line.r (some u) = Option.map Line.r none) = false := rfl
      simp only [f_R30_same, h1, h2, h4, e, bff, bft, btf, btt, Option.isSome_none, Option.isSome_some, go_sem]
    | some v =>
      rw [show decide (Option.map Line.r (some u) = Option.map Line.r (some v)) = decide (u.r = v.r) by simp]
      simp only [lineO_some] at h1 h2 h4
      simp only [f_R30_same, h1, h2, h4, bff, bft, btf, btt, Option.isSome_some, go_sem]
      congr
def fitsR (base t : Table) : Bool := decide (base.next ≤ t.next) && !t.l.any fun x => decide (x.n < base.next) && !(findL base.l x.n).isSome
theorem R30_fits (base t : Table) (hb : base.l.length < 1000000000000000) (ht : t.l.length < 1000000000000000) :
    Den prog 138 [.agg [.int .i64 base.next, .sl (base.l.map Line.cells)], .agg [.int .i64 t.next, .sl (t.l.map Line.cells)]] [] = some (.bool (fitsR base t), []) := by
  rw [Den_ofK [] pr_R30_fits rfl]
  unfold fitsR
  simp only [f_R30_fits, go_sem]
  refine range_ind t.l ht (fun i (_ : Unit) => (Run prog 0 (.loop 0 [2, 3, 5] f_R30_fits_l0) [(2, .rptr [.int .i64 base.next, .sl (base.l.map Line.cells)]), (3, .rptr [.int .i64 t.next, .sl (t.l.map Line.cells)]), (5, .int .i64 i)] []).bind _ = _)
    (fun i rest _ => (rest.any fun x => decide (x.n < base.next) && !(findL base.l x.n).isSome) = (t.l.any fun x => decide (x.n < base.next) && !(findL base.l x.n).isSome)) ?_ ?_ () rfl
  · intro _ h
    rw [← h, Run_loop]
    simp only [f_R30_fits_l0_eq, f_R30_fits_l0u, List.any_nil, Bool.not_false, Bool.and_true, go_sem]
  · intro i pre rest x _ hq _ hi0 hi1 hx hc hw h ih
    have hf := R30_find base.l base.next x.n hb
    rw [List.any_cons] at h
    rw [Run_loop]
    cases d : decide (x.n < base.next) with
    | false =>
      rw [d, Bool.false_and, Bool.false_or] at h
      have ih := ih () h
      simp only [f_R30_fits_l0_eq, f_R30_fits_l0u, hx, hc, hw, d, hf, ih, go_sem]
    | true =>
      rw [d, Bool.true_and] at h
      cases d2 : (findL base.l x.n).isSome with
      | true =>
        rw [d2, Bool.not_true, Bool.false_or] at h
        have ih := ih () h
        simp only [f_R30_fits_l0_eq, f_R30_fits_l0u, hx, hc, hw, d, d2, hf, ih, go_sem]
      | false =>
        rw [d2, Bool.not_false, Bool.true_or] at h
        rw [← h]
        simp only [f_R30_fits_l0_eq, f_R30_fits_l0u, hx, hc, hw, d, d2, hf, Bool.not_true, Bool.and_false, go_sem]
def freshR (b : Int) (L : List Line) : List Line := L.filter fun x => decide (b ≤ x.n)
theorem R30_Fresh (bn : Int) (bl L : List Line) (tn : Int) (hL : L.length < 1000000000) :
    Den prog 140 [.agg [.int .i64 bn, .sl (bl.map Line.cells)], .agg [.int .i64 tn, .sl (L.map Line.cells)]] [] = some (.sl ((freshR bn L).map Line.cells), []) := by
  rw [Den_ofK [] pr_R30_Fresh rfl]
  unfold freshR
  simp only [f_R30_Fresh, go_sem]
  refine range_ind L (by omega) (fun i (out : List Line) => (Run prog 0 (.loop 1 [2, 3, 5, 6] f_R30_Fresh_l0) [(2, .rptr [.int .i64 bn, .sl (bl.map Line.cells)]), (3, .rptr [.int .i64 tn, .sl (L.map Line.cells)]), (5, .osl 0 0 out.length 0 out.length), (6, .int .i64 i)] [.arr 0 2 (out.map Line.cells)]).bind _ = _)
    (fun i rest out => out ++ (rest.filter fun x => decide (bn ≤ x.n)) = (L.filter fun x => decide (bn ≤ x.n)) ∧ (out.length : Int) ≤ i) ?_ ?_ [] ⟨by simp, by simp⟩
  · intro out ⟨h, hl⟩
    have h : (L.filter fun x => decide (bn ≤ x.n)) = out := by rw [← h]; simp
    rw [h, Run_loop]
    clear h
    simp only [f_R30_Fresh_l0_eq, f_R30_Fresh_l0u, go_sem]
  · intro i pre rest x out hq _ hi0 hi1 hx hc hw ⟨h, hl⟩ ih
    have hb : (out.length + 1) * 32 ≤ 140737488355328 := by clear hw hx hc ih h hq; omega
    rw [List.filter_cons] at h
    rw [Run_loop]
    cases d : decide (bn ≤ x.n) with
    | true =>
      rw [d, if_pos rfl] at h
      have ih := ih (out ++ [x]) ⟨by rw [← h]; simp, by simp; omega⟩
      clear h hq
      simp only [go_sem] at ih
      simp only [f_R30_Fresh_l0_eq, f_R30_Fresh_l0u, hx, hc, hw, d, hb, ih, go_sem]
    | false =>
      rw [d, if_neg (by decide)] at h
      have ih := ih out ⟨h, by omega⟩
      clear h hq
      simp only [f_R30_Fresh_l0_eq, f_R30_Fresh_l0u, hx, hc, hw, d, hb, ih, go_sem]
theorem R27_SameTable (m n : Int) (A B : List Line) (hL : A.length < 1000000000000000) (hA : rowsOk A) : Den prog 109 [.agg [.int .i64 m, .sl (A.map Line.cells)], .agg [.int .i64 n, .sl (B.map Line.cells)]] [] = some (.bool (decide (m = n) && decide (A = B)), []) := by
  rw [Den_ofK [] pr_R27_SameTable rfl]
  cases dn : decide (m = n) with
  | false => simp only [f_R27_SameTable, dn, Bool.false_and, go_sem]
  | true =>
  by_cases hl : A.length = B.length
  · have hd : decide ((A.length : Int) = B.length) = true := by rw [decide_eq_true_eq]; omega
    simp only [f_R27_SameTable, dn, hd, Bool.true_and, go_sem]
    refine zip_ind A B hl hL (fun i => (Run prog 0 (.loop 0 [2, 3, 5] f_R27_SameTable_l0) [(2, .rptr [.int .i64 m, .sl (A.map Line.cells)]), (3, .rptr [.int .i64 n, .sl (B.map Line.cells)]), (5, .int .i64 i)] []).bind _ = _) ?_ ?_
    · intro h
      have hab : decide (A = B) = true := by simp [h]
      rw [Run_loop]
      simp only [f_R27_SameTable_l0_eq, f_R27_SameTable_l0u, hab, go_sem]
    · intro i x y hx hy hc hw hxA hyB h1 h0
      have hxr : x.r.length < 1000000000000000 := by have := hA x hxA; omega
      rw [Run_loop]
      by_cases c2 : x.r = y.r
      · have d2 : decide (x.r = y.r) = true := by simpa using c2
        by_cases c1 : x.n = y.n
        · have d1 : decide (x.n = y.n) = true := by simpa using c1
          have h1 := h1 (by cases x; cases y; simp_all)
          simp only [f_R27_SameTable_l0_eq, f_R27_SameTable_l0u, hx, hy, hc, hw, d1, d2, hxr, h1, go_sem]
        · have d1 : decide (x.n = y.n) = false := by simpa using c1
          have hab : decide (A = B) = false := by simpa using h0 (by intro e; exact c1 (by rw [e]))
          simp only [f_R27_SameTable_l0_eq, f_R27_SameTable_l0u, hx, hy, hc, hw, d1, d2, hxr, hab, go_sem]
      · have d2 : decide (x.r = y.r) = false := by simpa using c2
        have hab : decide (A = B) = false := by simpa using h0 (by intro e; exact c2 (by rw [e]))
        simp only [f_R27_SameTable_l0_eq, f_R27_SameTable_l0u, hx, hy, hc, hw, d2, hxr, hab, go_sem]
  · have hd : decide ((A.length : Int) = B.length) = false := by simp; omega
    have hab : decide (A = B) = false := by simp only [decide_eq_false_iff_not]; intro h; exact hl (by rw [h])
    simp only [f_R27_SameTable, dn, hd, hab, Bool.and_false, go_sem]
theorem R30_SameLines (A B : List Line) (hL : A.length < 1000000000000000) (hA : rowsOk A) : Den prog 134 [.sl (A.map Line.cells), .sl (B.map Line.cells)] [] = some (.bool (decide (A = B)), []) := by
  have h := R27_SameTable 0 0 A B hL hA
  have e : decide ((0 : Int) = 0) = true := rfl
  rw [e, Bool.true_and] at h
  rw [Den_ofK [] pr_R30_SameLines rfl]
  simp only [f_R30_SameLines, h, go_sem]
end Go.Den

/-! Ch. 30: the reference's Merge; branches. -/
namespace Go.Den
open Go
set_option linter.unusedSimpArgs false
set_option linter.unusedVariables false
set_option maxRecDepth 100000
set_option maxHeartbeats 1000000
def clashR (base A B : List Line) (n : Int) : Bool := !sameS base A n && (!sameS base B n && !sameS A B n)
def pickR (base A B : List Line) (n : Int) : Option Line := bif sameS base A n then findL B n else findL A n
def keptR (base A B : List Line) (L : List Line) : List Line := L.filterMap fun x => pickR base A B x.n
theorem keptR_cons (base A B : List Line) (x : Line) (r : List Line) : keptR base A B (x :: r) = (pickR base A B x.n).toList ++ keptR base A B r := by
  unfold keptR
  rw [List.filterMap_cons]
  cases pickR base A B x.n <;> rfl
def mergeR (base a b : Table) : MR :=
  bif !fitsR base a || !fitsR base b then noM [] 1 else
  bif decide (0 < ((base.l.filter fun x => clashR base.l a.l b.l x.n).length : Int)) then noM (base.l.filter fun x => clashR base.l a.l b.l x.n) 280 else
  bif decide (4096 < ((keptR base.l a.l b.l base.l ++ freshR base.next a.l ++ numL a.next (freshR base.next b.l)).length : Int)) || decide (4611686018427387904 < a.next + (freshR base.next b.l).length) then noM [] 2 else
  ⟨a.next + (freshR base.next b.l).length, keptR base.l a.l b.l base.l ++ freshR base.next a.l ++ numL a.next (freshR base.next b.l), [], 0⟩
theorem freshR_len (b : Int) (L : List Line) : (freshR b L).length ≤ L.length := List.length_filter_le _ _
section
variable (base a b : Table)
theorem R30_Merge (hb : base.l.length < 1000000000) (ha : a.l.length < 1000000000) (hc : b.l.length < 1000000000)
    (rb : rowsOk base.l) (ra : rowsOk a.l) (h0 : 0 ≤ a.next) (h1 : a.next < 1000000000000) :
    Den prog 143 [.agg ([AV.int IntKind.i64 base.next, AV.sl (base.l.map Line.cells)] : List AV), .agg ([AV.int IntKind.i64 a.next, AV.sl (a.l.map Line.cells)] : List AV), .agg ([AV.int IntKind.i64 b.next, AV.sl (b.l.map Line.cells)] : List AV)] [] = some ((mergeR base a b).av, []) := by
  have f1 := R30_fits base a (by omega) (by omega)
  have f2 := R30_fits base b (by omega) (by omega)
  have g1 := R30_Fresh base.next base.l a.l a.next (by omega)
  have g2 := R30_Fresh base.next base.l b.l b.next (by omega)
  have lf1 := freshR_len base.next a.l
  have lf2 := freshR_len base.next b.l
  rw [Den_ofK [] pr_R30_Merge rfl]
  obtain ⟨R, hR⟩ : ∃ R, R = mergeR base a b := ⟨_, rfl⟩
  rw [← hR]
  unfold mergeR at hR
  cases d1 : fitsR base a with
  | false =>
    rw [d1, Bool.not_false, Bool.true_or, cond_true] at hR
    rw [d1] at f1; rw [hR]
    simp only [f_R30_Merge, f1, go_sem]
  | true => cases d2 : fitsR base b with
    | false =>
      rw [d1, d2, Bool.not_false, Bool.or_true, cond_true] at hR
      rw [d1] at f1; rw [d2] at f2; rw [hR]
      simp only [f_R30_Merge, f1, f2, go_sem]
    | true =>
      rw [d1, d2, Bool.not_true, Bool.or_self, cond_false] at hR
      rw [d1] at f1; rw [d2] at f2
      simp only [f_R30_Merge, f1, f2, go_sem]
      refine range_ind base.l (by omega) (fun i (s : List Line × List Line) => (Run prog 0 (.loop 4 [3, 4, 5, 6, 9, 10, 11] f_R30_Merge_l0) [(3, .rptr ([AV.int IntKind.i64 base.next, AV.sl (base.l.map Line.cells)] : List AV)), (4, .rptr ([AV.int IntKind.i64 a.next, AV.sl (a.l.map Line.cells)] : List AV)), (5, .rptr ([AV.int IntKind.i64 b.next, AV.sl (b.l.map Line.cells)] : List AV)), (6, .ref 0 0),
          (9, .osl 1 0 s.1.length 0 s.1.length), (10, .ref 3 0), (11, .int .i64 i)]
          [.cells [.int .i64 0, .nils], .arr 0 2 (s.1.map Line.cells), .arr 0 2 (s.2.map Line.cells), .cells [.int .i64 0, .osl 2 0 s.2.length 0 s.2.length]]).bind _ = _)
        (fun i rest s => s.1 ++ (rest.filter fun x => clashR base.l a.l b.l x.n) = (base.l.filter fun x => clashR base.l a.l b.l x.n) ∧ s.2 ++ keptR base.l a.l b.l rest = keptR base.l a.l b.l base.l ∧ (s.1.length : Int) ≤ i ∧ (s.2.length : Int) ≤ i) ?_ ?_ ([], []) ⟨by simp, by simp, by simp, by simp⟩
      · intro s ⟨h2, h3, h4, h5⟩
        obtain ⟨c, out⟩ := s
        simp only [] at h2 h3 h4 h5
        rw [List.filter_nil, List.append_nil] at h2
        have h3 : out = keptR base.l a.l b.l base.l := by rw [← h3]; simp [keptR]
        rw [← h2, ← h3] at hR
        clear h2 h3
        rw [Run_loop]
        cases e1 : decide (0 < (c.length : Int)) with
        | true =>
          rw [e1, cond_true] at hR
          rw [hR]
          simp only [f_R30_Merge_l0_eq, f_R30_Merge_l0u, e1, go_sem]
        | false =>
          rw [e1, cond_false] at hR
          have hb1 : (out.length + (freshR base.next a.l).length) * 32 ≤ 140737488355328 := by clear f1 f2 g1 g2; omega
          generalize hfa : freshR base.next a.l = fa at *
          generalize hfb : freshR base.next b.l = fb at *
          simp only [f_R30_Merge_l0_eq, f_R30_Merge_l0u, e1, g1, g2, hb1, cond_false, List.length_map, go_sem]
          simp only [← List.map_append, ← List.length_append]
          refine range_ind fb (by omega) (fun i (s : List Line × Int) => (Run prog 0 (.loop 4 [6, 10, 16, 17] f_R30_Merge_l1) [(6, .ref 0 0), (10, .ref 3 0), (16, .sl (fb.map Line.cells)), (17, .int .i64 i)]
              [.cells [.int .i64 0, .nils], .arr 0 2 (c.map Line.cells), .arr 0 2 (s.1.map Line.cells), .cells [.int .i64 s.2, .osl 2 0 s.1.length 0 s.1.length]]).bind _ = _)
            (fun i rest s => s.1 ++ numL s.2 rest = out ++ fa ++ numL a.next fb ∧ (s.1.length : Int) = out.length + fa.length + i ∧ s.2 = a.next + i) ?_ ?_ (out ++ fa, a.next) ⟨rfl, by simp, by simp⟩
          · intro s ⟨h, hl2, hm⟩
            obtain ⟨o2, m⟩ := s
            simp only [] at hm hl2 h
            subst hm
            simp only [numL, List.append_nil] at h
            rw [← h] at hR
            rw [Run_loop]
            cases e1 : decide (4096 < (o2.length : Int)) with
            | true =>
              rw [e1, Bool.true_or, cond_true] at hR
              rw [hR]
              simp only [f_R30_Merge_l1_eq, f_R30_Merge_l1u, e1, go_sem]
            | false => cases e2 : decide (4611686018427387904 < a.next + (fb.length : Int)) with
              | true =>
                rw [e1, e2, Bool.or_true, cond_true] at hR
                rw [hR]
                simp only [f_R30_Merge_l1_eq, f_R30_Merge_l1u, e1, e2, go_sem]
              | false =>
                rw [e1, e2, Bool.or_false, cond_false] at hR
                rw [hR]
                simp only [f_R30_Merge_l1_eq, f_R30_Merge_l1u, e1, e2, go_sem]
          · intro i pre rest x s hq _ hi0 hi1 hx hc hw ⟨h, hl2, hm⟩ ih
            obtain ⟨o2, m⟩ := s
            simp only [] at hm hl2 h
            have hb : (o2.length + 1) * 32 ≤ 140737488355328 := by clear hw hx hc ih h hq f1 f2 g1 g2; omega
            have hw2 : IntKind.wrap .i64 (m + 1) = m + 1 := wrap_i64 (by clear hw hx hc ih h hq f1 f2 g1 g2; omega) (by clear hw hx hc ih h hq f1 f2 g1 g2; omega)
            have ih := ih (o2 ++ [⟨m, x.r⟩], m + 1) ⟨by rw [← h, numL]; simp, by simp; clear hw hx hc h hq hw2 f1 f2 g1 g2; omega, by simp only []; clear hw hx hc h hq hw2 f1 f2 g1 g2; omega⟩
            clear h hq
            simp only [go_sem] at ih
            rw [Run_loop]
            simp only [f_R30_Merge_l1_eq, f_R30_Merge_l1u, hx, hc, hw, hw2, hb, ih, go_sem]
      · intro i pre rest x s hq _ hi0 hi1 hx hc hw ⟨h2, h3, h4, h5⟩ ih
        obtain ⟨c, out⟩ := s
        simp only [] at h2 h3 h4 h5
        have hb1 : (c.length + 1) * 32 ≤ 140737488355328 := by clear hw hx hc ih h2 h3 hq f1 f2 g1 g2; omega
        have hb2 : (out.length + 1) * 32 ≤ 140737488355328 := by clear hw hx hc ih h2 h3 hq f1 f2 g1 g2; omega
        have e1 := R30_same base.l a.l base.next a.next x.n (by omega) (by omega) rb
        have e2 := R30_same base.l b.l base.next b.next x.n (by omega) (by omega) rb
        have e3 := R30_same a.l b.l a.next b.next x.n (by omega) (by omega) ra
        have e4 := R30_find a.l a.next x.n (by omega)
        have e5 := R30_find b.l b.next x.n (by omega)
        have hcl : clashR base.l a.l b.l x.n = (!sameS base.l a.l x.n && (!sameS base.l b.l x.n && !sameS a.l b.l x.n)) := rfl
        have hpk : pickR base.l a.l b.l x.n = bif sameS base.l a.l x.n then findL b.l x.n else findL a.l x.n := rfl
        rw [List.filter_cons, hcl] at h2
        rw [keptR_cons, hpk] at h3
        generalize findL a.l x.n = u at *
        generalize findL b.l x.n = v at *
        generalize sameS base.l a.l x.n = p at *
        generalize sameS base.l b.l x.n = q at *
        generalize sameS a.l b.l x.n = t at *
        clear hcl hpk hq f1 f2 g1 g2
        rw [Run_loop]
        cases p with
        | true =>
          simp only [Bool.not_true, Bool.false_and, cond_true, Bool.false_eq_true, if_false] at h2 h3
          cases v with
          | none =>
            have ih := ih (c, out) ⟨h2, h3, by simp only []; omega, by simp only []; omega⟩
            simp only [lineO_none, Option.isSome_none, go_sem] at *
            simp only [f_R30_Merge_l0_eq, f_R30_Merge_l0u, hx, hc, hw, e1, e2, e3, e4, e5, ih, go_sem]
          | some r =>
            have ih := ih (c, out ++ [r]) ⟨h2, by rw [← h3]; simp, by simp only []; omega, by simp; omega⟩
            simp only [lineO_some, Option.isSome_some, go_sem] at *
            simp only [f_R30_Merge_l0_eq, f_R30_Merge_l0u, hx, hc, hw, e1, e2, e3, e4, e5, hb2, ih, go_sem]
        | false =>
          simp only [Bool.not_false, Bool.true_and, cond_false] at h2 h3
          cases hqt : (!q && !t) with
          | false =>
            rw [hqt] at h2
            simp only [Bool.false_eq_true, if_false] at h2
            cases u with
            | none =>
              have ih := ih (c, out) ⟨h2, h3, by simp only []; omega, by simp only []; omega⟩
              simp only [lineO_none, Option.isSome_none, go_sem] at *
              cases q <;> cases t <;> first | (exact absurd hqt (by decide)) | simp only [f_R30_Merge_l0_eq, f_R30_Merge_l0u, hx, hc, hw, e1, e2, e3, e4, e5, ih, go_sem]
            | some r =>
              have ih := ih (c, out ++ [r]) ⟨h2, by rw [← h3]; simp, by simp only []; omega, by simp; omega⟩
              simp only [lineO_some, Option.isSome_some, go_sem] at *
              cases q <;> cases t <;> first | (exact absurd hqt (by decide)) | simp only [f_R30_Merge_l0_eq, f_R30_Merge_l0u, hx, hc, hw, e1, e2, e3, e4, e5, hb2, ih, go_sem]
          | true =>
            rw [hqt] at h2
            simp only [if_true] at h2
            have hq2 : q = false := by cases q <;> simp_all
            have ht2 : t = false := by cases t <;> simp_all
            subst hq2; subst ht2
            cases u with
            | none =>
              have ih := ih (c ++ [x], out) ⟨by rw [← h2]; simp, h3, by simp; omega, by simp only []; omega⟩
              simp only [lineO_none, Option.isSome_none, go_sem] at *
              simp only [f_R30_Merge_l0_eq, f_R30_Merge_l0u, hx, hc, hw, e1, e2, e3, e4, e5, hb1, ih, go_sem]
            | some r =>
              have ih := ih (c ++ [x], out ++ [r]) ⟨by rw [← h2]; simp, by rw [← h3]; simp, by simp; omega, by simp; omega⟩
              simp only [lineO_some, Option.isSome_some, go_sem] at *
              simp only [f_R30_Merge_l0_eq, f_R30_Merge_l0u, hx, hc, hw, e1, e2, e3, e4, e5, hb1, hb2, ih, go_sem]
end
/-! Branches. -/
structure Edit where
  gone : Int
  chg : Int
  rows : List (List Val)
  skip : Int
def bitOf (w i : Int) : Int := andI .u32 (w.fdiv (2 ^ min (i.tmod 32).toNat IntKind.u32.bits)) 1
def goneB (w i : Int) : Bool := decide (bitOf w i = 0)
def chgB (w i : Int) : Bool := decide (bitOf w i = 1)
/-- The row of the i-th line. -/
def rowAt (rows : List (List Cell)) (w i : Int) (r : List Cell) : List Cell := bif chgB w i && decide (0 < (rows.length : Int)) then (getE rows (i.tmod rows.length)).getD [] else r
def oldS (rows : List (List Cell)) (gone chg i : Int) : List Line → List Line
  | [] => []
  | x :: r => bif goneB gone i then ⟨x.n, rowAt rows chg i x.r⟩ :: oldS rows gone chg (i + 1) r else oldS rows gone chg (i + 1) r
def rowsN (fs : List Fld) (x : List (List Val)) (n : Nat) : List (List Cell) := (x.take n).map (rowS fs)
def branchS (fs : List Fld) (base : Table) (x : Edit) : Table :=
  ⟨base.next + x.skip.tmod 3 + (rowsN fs x.rows 6).length, oldS (rowsN fs x.rows 6) x.gone x.chg 0 base.l ++ addL (base.next + x.skip.tmod 3) (rowsN fs x.rows 6)⟩
theorem bin_shr (kd : EK) (k k' : IntKind) (a b : Int) (h : 0 ≤ b) : bin .shr kd (.int k a) (.int k' b) = some (.int k (a.fdiv (2 ^ (min b.toNat k.bits)))) := by simp [bin, h]
theorem getE_mod {α : Type} (l : List α) (i : Int) (h : 0 < (l.length : Int)) (h0 : 0 ≤ i) : ∃ x, getE l (i.tmod l.length) = some x := by
  have h1 : 0 ≤ i.tmod l.length := Int.tmod_nonneg _ h0
  have h2 : i.tmod l.length < l.length := Int.tmod_lt_of_pos _ h
  refine ⟨l[(i.tmod l.length).toNat]'(by omega), ?_⟩
  simp [getE, h1]
end Go.Den

/-! Ch. 30: branches; how the inputs are made. -/
namespace Go.Den
open Go
set_option linter.unusedSimpArgs false
set_option linter.unusedVariables false
set_option maxRecDepth 100000
set_option maxHeartbeats 1000000
def Edit.cells (x : Edit) : List AV := [.int .u32 x.gone, .int .u32 x.chg, .sl (x.rows.map vals), .int .u8 x.skip]
attribute [go_sem] Edit.cells
theorem addL_next (n : Int) (q : List (List Cell)) : (addL n q).length = q.length := addL_len n q
theorem oldS_len (rows : List (List Cell)) (g c : Int) : ∀ (L : List Line) (i : Int), (oldS rows g c i L).length ≤ L.length
  | [], i => by simp [oldS]
  | x :: r, i => by
    have := oldS_len rows g c r (i + 1)
    rw [oldS]
    cases goneB g i <;> simp <;> omega
section
variable (fs : List Fld) (m : Int) (base : Table) (x : Edit)
theorem R30_Branch (hF : fs.length < 1000000000000) (hb : base.l.length < 1000000000) (hr : x.rows.length < 1000000000000000) (hs0 : 0 ≤ x.skip) (hs1 : x.skip < 256) (h0 : 0 ≤ base.next) (h1 : base.next < 1000000000000) :
    Den prog 136 [.agg [.sl (fs.map Fld.cells), .int .i64 m], .agg [.int .i64 base.next, .sl (base.l.map Line.cells)], .agg [.int .u32 x.gone, .int .u32 x.chg, .sl (x.rows.map vals), .int .u8 x.skip]] [] =
      some (.agg [.int .i64 (branchS fs base x).next, .sl ((branchS fs base x).l.map Line.cells)], []) := by
  have hR := R06_Rows fs m x.rows 6 hF hr (by omega) (by omega)
  have e6 : (6 : Int).toNat = 6 := rfl
  have hlen : (rowsN fs x.rows 6).length ≤ 6 := by unfold rowsN; rw [List.length_map, List.length_take]; omega
  obtain ⟨R, hRR⟩ : ∃ R, R = branchS fs base x := ⟨_, rfl⟩
  rw [← hRR]
  simp only [branchS] at hRR
  change Den prog 76 _ [] = some (.sl ((rowsN fs x.rows 6).map rowc), []) at hR
  rw [Den_ofK [] pr_R30_Branch rfl]
  generalize rowsN fs x.rows 6 = rows at *
  have hsk : 0 ≤ x.skip.tmod 3 ∧ x.skip.tmod 3 < 3 := ⟨Int.tmod_nonneg _ hs0, Int.tmod_lt_of_pos _ (by omega)⟩
  have ws : IntKind.wrap .i64 (x.skip.tmod 3) = x.skip.tmod 3 := wrap_i64 (by omega) (by omega)
  have wn : IntKind.wrap .i64 (base.next + x.skip.tmod 3) = base.next + x.skip.tmod 3 := wrap_i64 (by omega) (by omega)
  have n3 : (3 : Int) ≠ 0 := by decide
  have n32 : (32 : Int) ≠ 0 := by decide
  simp only [f_R30_Branch, hR, go_sem]
  refine range_ind base.l (by omega) (fun i (out : List Line) => (Run prog 0 (.loop 3 [4, 5, 6, 7, 8, 9] f_R30_Branch_l0) [(4, .rptr [.int .i64 base.next, .sl (base.l.map Line.cells)]), (5, .rptr [.int .u32 x.gone, .int .u32 x.chg, .sl (x.rows.map vals), .int .u8 x.skip]), (6, .ref 0 0), (7, .ref 2 0), (8, .sl (rows.map rowc)), (9, .int .i64 i)]
      [.cells [.int .i64 0, .nils], .arr 0 2 (out.map Line.cells), .cells [.int .i64 0, .osl 1 0 out.length 0 out.length]]).bind _ = _)
    (fun i rest out => out ++ oldS rows x.gone x.chg i rest = oldS rows x.gone x.chg 0 base.l ∧ (out.length : Int) ≤ i) ?_ ?_ [] ⟨by simp, by simp⟩
  · intro out ⟨h, hl⟩
    have h : oldS rows x.gone x.chg 0 base.l = out := by rw [← h]; simp [oldS]
    rw [h] at hRR
    rw [Run_loop]
    simp only [f_R30_Branch_l0_eq, f_R30_Branch_l0u, ws, wn, n3, go_sem]
    refine range_ind rows (by omega) (fun i (s : List Line × Int) => (Run prog 0 (.loop 3 [6, 7, 8, 11] f_R30_Branch_l1) [(6, .ref 0 0), (7, .ref 2 0), (8, .sl (rows.map rowc)), (11, .int .i64 i)]
        [.cells [.int .i64 0, .nils], .arr 0 2 (s.1.map Line.cells), .cells [.int .i64 s.2, .osl 1 0 s.1.length 0 s.1.length]]).bind _ = _)
      (fun i rest s => s.1 ++ addL s.2 rest = out ++ addL (base.next + x.skip.tmod 3) rows ∧ (s.1.length : Int) = out.length + i ∧ s.2 = base.next + x.skip.tmod 3 + i) ?_ ?_ (out, base.next + x.skip.tmod 3) ⟨rfl, by simp, by simp⟩
    · intro s ⟨h, hl2, hm⟩
      obtain ⟨o2, k⟩ := s
      simp only [] at hm hl2 h
      simp only [addL, List.append_nil] at h
      rw [← h, ← hm] at hRR
      rw [hRR, Run_loop]
      simp only [f_R30_Branch_l1_eq, f_R30_Branch_l1u, go_sem]
    · intro i pre rest y s hq _ hi0 hi1 hx hc hw ⟨h, hl2, hm⟩ ih
      obtain ⟨o2, k⟩ := s
      simp only [] at hm hl2 h
      have hb : (o2.length + 1) * 32 ≤ 140737488355328 := by clear hw hx hc ih h hq hR ws wn; omega
      have hw2 : IntKind.wrap .i64 (k + 1) = k + 1 := wrap_i64 (by clear hw hx hc ih h hq hR ws wn; omega) (by clear hw hx hc ih h hq hR ws wn; omega)
      have ih := ih (o2 ++ [⟨k, y⟩], k + 1) ⟨by rw [← h, addL]; simp, by simp; clear hw hx hc h hq hw2 hR ws wn; omega, by simp only []; clear hw hx hc h hq hw2 hR ws wn; omega⟩
      clear h hq
      simp only [go_sem] at ih
      rw [Run_loop]
      simp only [f_R30_Branch_l1_eq, f_R30_Branch_l1u, hx, hc, hw, hw2, hb, ih, go_sem]
  · intro i pre rest y out hq _ hi0 hi1 hx hc hw ⟨h, hl⟩ ih
    have hb : (out.length + 1) * 32 ≤ 140737488355328 := by clear hw hx hc ih h hq hR ws wn; omega
    have ht : 0 ≤ i.tmod 32 := Int.tmod_nonneg _ hi0
    have hsh : ∀ w : Int, bin .shr .num (.int .u32 w) (.int .i64 (i.tmod 32)) = some (.int .u32 (w.fdiv (2 ^ (min (i.tmod 32).toNat 32)))) := fun w => bin_shr _ _ _ _ _ ht
    rw [oldS] at h
    have hg : goneB x.gone i = decide (andI .u32 (x.gone.fdiv (2 ^ (min (i.tmod 32).toNat 32))) 1 = 0) := rfl
    have hch : chgB x.chg i = decide (andI .u32 (x.chg.fdiv (2 ^ (min (i.tmod 32).toNat 32))) 1 = 1) := rfl
    have hra : rowAt rows x.chg i y.r = bif chgB x.chg i && decide (0 < (rows.length : Int)) then (getE rows (i.tmod rows.length)).getD [] else y.r := rfl
    rw [Run_loop]
    generalize rowAt rows x.chg i y.r = yr at *
    cases dg : goneB x.gone i with
    | true =>
      rw [dg] at h hg
      rw [cond_true] at h
      have ih := ih (out ++ [⟨y.n, yr⟩]) ⟨by rw [← h]; simp, by simp; omega⟩
      clear h hq
      simp only [go_sem] at ih
      cases dc : chgB x.chg i with
      | false =>
        rw [dc] at hch hra
        rw [Bool.false_and, cond_false] at hra
        subst hra
        simp only [f_R30_Branch_l0_eq, f_R30_Branch_l0u, hx, hc, hw, hb, hsh, n32, ← hg, ← hch, ih, go_sem]
      | true => cases dl : decide (0 < (rows.length : Int)) with
        | false =>
          rw [dc] at hch hra
          rw [dl, Bool.and_false, cond_false] at hra
          subst hra
          simp only [f_R30_Branch_l0_eq, f_R30_Branch_l0u, hx, hc, hw, hb, hsh, n32, ← hg, ← hch, dl, ih, go_sem]
        | true =>
          rw [dc] at hch hra
          rw [dl, Bool.and_true, cond_true] at hra
          have hpos : 0 < (rows.length : Int) := by simpa using dl
          obtain ⟨z, hz⟩ := getE_mod rows i hpos hi0
          have hne : (rows.length : Int) ≠ 0 := by omega
          rw [hz] at hra
          simp only [Option.getD_some] at hra
          subst hra
          simp only [f_R30_Branch_l0_eq, f_R30_Branch_l0u, hx, hc, hw, hb, hsh, n32, ← hg, ← hch, dl, hz, hne, ih, go_sem]
    | false =>
      rw [dg] at h hg
      rw [cond_false] at h
      have ih := ih out ⟨h, by omega⟩
      clear h hq
      cases dc : chgB x.chg i with
      | false =>
        rw [dc] at hch
        simp only [f_R30_Branch_l0_eq, f_R30_Branch_l0u, hx, hc, hw, hb, hsh, n32, ← hg, ← hch, ih, go_sem]
      | true => cases dl : decide (0 < (rows.length : Int)) with
        | false =>
          rw [dc] at hch
          simp only [f_R30_Branch_l0_eq, f_R30_Branch_l0u, hx, hc, hw, hb, hsh, n32, ← hg, ← hch, dl, ih, go_sem]
        | true =>
          rw [dc] at hch
          have hpos : 0 < (rows.length : Int) := by simpa using dl
          obtain ⟨z, hz⟩ := getE_mod rows i hpos hi0
          have hne : (rows.length : Int) ≠ 0 := by omega
          simp only [f_R30_Branch_l0_eq, f_R30_Branch_l0u, hx, hc, hw, hb, hsh, n32, ← hg, ← hch, dl, hz, hne, ih, go_sem]
end
/-! The inputs. -/
structure Case where
  cs : List Chg
  rows : List (List Val)
  a : Edit
  b : Edit
def Case.cells (x : Case) : List AV := [.sl (x.cs.map Chg.cells), .sl (x.rows.map vals)] ++ (x.a.cells ++ x.b.cells)
def schS (cs : List Chg) (n : Nat) : List Fld := (afterS [] 1 0 (madeC [] 1 (cs.take n))).fs
def baseS (x : Case) : Table := tabS (schS x.cs 8) x.rows 12
theorem schS_inv (cs : List Chg) (n : Nat) : SInv (schS cs n) (afterS [] 1 0 (madeC [] 1 (cs.take n))).next := afterS_inv (madeC_ok _ _ _) .nil
theorem tabS_facts (fs : List Fld) (raw : List (List Val)) (n : Int) (hF : fs.length ≤ 64) : (tabS fs raw n).l.length ≤ n.toNat ∧ 0 ≤ (tabS fs raw n).next ∧ (tabS fs raw n).next ≤ 2 * (n.toNat : Int) ∧ (∀ x ∈ (tabS fs raw n).l, 0 ≤ x.n ∧ x.n < (tabS fs raw n).next ∧ x.r.length ≤ 64) ∧ (tabS fs raw n).l.Pairwise fun x y => x.n < y.n := by
  have key : ∀ (L : List (List Cell)) (s : List Line × Int), (∀ r ∈ L, r.length ≤ 64) → 0 ≤ s.2 → (∀ x ∈ s.1, 0 ≤ x.n ∧ x.n < s.2 ∧ x.r.length ≤ 64) → s.1.Pairwise (fun x y => x.n < y.n) →
      (L.foldl tabStep s).1.length = s.1.length + L.length ∧ s.2 ≤ (L.foldl tabStep s).2 ∧ (L.foldl tabStep s).2 ≤ s.2 + 2 * (L.length : Int) ∧ (∀ x ∈ (L.foldl tabStep s).1, 0 ≤ x.n ∧ x.n < (L.foldl tabStep s).2 ∧ x.r.length ≤ 64) ∧ (L.foldl tabStep s).1.Pairwise fun x y => x.n < y.n := by
    intro L
    induction L with
    | nil => intro s _ h0 h1 h2; exact ⟨by simp, by simp, by simp, h1, h2⟩
    | cons r q ih =>
      intro s hr h0 h1 h2
      rw [List.foldl_cons]
      obtain ⟨out, k⟩ := s
      have hk : k ≤ (bif decide (k.tmod 3 = 2) then k + 1 else k) ∧ (bif decide (k.tmod 3 = 2) then k + 1 else k) ≤ k + 1 := by
        cases decide (k.tmod 3 = 2) <;> simp only [cond_true, cond_false] <;> omega
      simp only [] at h0 h1
      have hs : tabStep (out, k) r = (out ++ [⟨bif decide (k.tmod 3 = 2) then k + 1 else k, r⟩], (bif decide (k.tmod 3 = 2) then k + 1 else k) + 1) := rfl
      rw [hs]
      generalize (bif decide (k.tmod 3 = 2) then k + 1 else k) = k' at *
      obtain ⟨q1, q2, q3, q4, q5⟩ := ih (out ++ [⟨k', r⟩], k' + 1) (fun z hz => hr z (by simp [hz])) (by simp only []; omega)
        (by
          intro x hx
          simp only [List.mem_append, List.mem_singleton] at hx
          rcases hx with hx | rfl
          · have := h1 x hx; simp only []; omega
          · have := hr r (by simp); simp only []; omega)
        (by
          rw [List.pairwise_append]
          refine ⟨h2, by simp, fun x hx y hy => ?_⟩
          simp at hy; subst hy
          have := h1 x hx; simp only []; omega)
      simp only [] at q2 q3
      refine ⟨by rw [q1]; simp; omega, by simp only []; omega, by simp only [List.length_cons]; omega, q4, q5⟩
  obtain ⟨q1, q2, q3, q4, q5⟩ := key ((raw.take n.toNat).map (rowS fs)) ([], 0) (by
    intro r hr
    obtain ⟨v, _, rfl⟩ := List.mem_map.1 hr
    have := rowS_len fs v; omega) (by simp) (by simp) (by simp)
  have hl : ((raw.take n.toNat).map (rowS fs)).length ≤ n.toNat := by rw [List.length_map, List.length_take]; omega
  refine ⟨by simp only [tabS]; rw [q1]; simp only [List.length_nil]; omega, by simp only [tabS]; simp only [] at q2; omega, by simp only [tabS]; simp only [] at q3; omega, q4, q5⟩
theorem L30_made (x : Case) (hc : ∀ c ∈ x.cs, COK2 c) (hl : x.cs.length < 1000000000000000) (hr : x.rows.length < 1000000000000000) (ha : x.a.rows.length < 1000000000000000) (hb : x.b.rows.length < 1000000000000000)
    (sa0 : 0 ≤ x.a.skip) (sa1 : x.a.skip < 256) (sb0 : 0 ≤ x.b.skip) (sb1 : x.b.skip < 256) :
    Den prog 142 [.agg x.cells] [] = some (.tup [.agg (baseS x).cells, .agg (branchS (schS x.cs 8) (baseS x) x.a).cells, .agg (branchS (schS x.cs 8) (baseS x) x.b).cells], []) := by
  have hm := R06_Made x.cs 8 hl hc (by omega) (by omega)
  have haf := R06_After (madeC [] 1 (x.cs.take 8)) (by have := madeC_len (x.cs.take 8) [] 1; rw [List.length_take] at this; omega) (madeC_ok _ _ _)
  have hinv := schS_inv x.cs 8
  have hF := hinv.len
  obtain ⟨t1, t2, t3, t4, t5⟩ := tabS_facts (schS x.cs 8) x.rows 12 (by omega)
  have e12 : (12 : Int).toNat = 12 := rfl
  have e8 : (8 : Int).toNat = 8 := rfl
  have ht := R27_Table (schS x.cs 8) (afterS [] 1 0 (madeC [] 1 (x.cs.take 8))).next x.rows 12 (by omega) hr (by omega) (by omega)
  have hba := R30_Branch (schS x.cs 8) (afterS [] 1 0 (madeC [] 1 (x.cs.take 8))).next (baseS x) x.a (by omega) (by unfold baseS; omega) ha sa0 sa1 (by unfold baseS; omega) (by unfold baseS; omega)
  have hbb := R30_Branch (schS x.cs 8) (afterS [] 1 0 (madeC [] 1 (x.cs.take 8))).next (baseS x) x.b (by omega) (by unfold baseS; omega) hb sb0 sb1 (by unfold baseS; omega) (by unfold baseS; omega)
  rw [e8] at hm
  rw [Den_ofK [] pr_L30_made rfl]
  change Den prog 90 _ _ = some (.agg [.int .i64 (baseS x).next, .sl ((baseS x).l.map Line.cells)], []) at ht
  have hfs : (afterS [] 1 0 (madeC [] 1 (x.cs.take 8))).fs = schS x.cs 8 := rfl
  clear t1 t2 t3 t4 t5
  generalize branchS (schS x.cs 8) (baseS x) x.a = A at *
  generalize branchS (schS x.cs 8) (baseS x) x.b = B at *
  generalize baseS x = T at *
  simp only [AR.av, hfs] at haf
  obtain ⟨cs, rows, ⟨g1, c1, r1, k1⟩, ⟨g2, c2, r2, k2⟩⟩ := x
  simp only [Case.cells, Edit.cells, List.cons_append, List.nil_append] at *
  simp only [f_L30_made, hm, haf, ht, hba, hbb, go_sem]
end Go.Den

/-! Ch. 30, in plain Lean: the program's Merge and the reference's come to the same. -/
namespace Go.Den
open Go
set_option linter.unusedSimpArgs false
set_option linter.unusedVariables false
set_option maxRecDepth 100000
set_option maxHeartbeats 1000000
/-- A table as they are made here. -/
structure TOK (t : Table) : Prop where
  len : t.l.length ≤ 100000
  n0 : 0 ≤ t.next
  n1 : t.next ≤ 1000000
  rng : ∀ x ∈ t.l, 0 ≤ x.n ∧ x.n < t.next
  row : ∀ x ∈ t.l, x.r.length ≤ 1000
  srt : t.l.Pairwise fun x y => x.n < y.n
theorem TOK.rows {t : Table} (h : TOK t) : rowsOk t.l := fun x hx => by have := h.row x hx; omega
theorem TOK.nd {t : Table} (h : TOK t) : nodup t.l := by
  unfold nodup
  rw [List.nodup_iff_pairwise_ne, List.pairwise_map]
  exact h.srt.imp fun h => by omega
theorem base_ok (x : Case) : TOK (baseS x) := by
  have hF := (schS_inv x.cs 8).len
  obtain ⟨t1, t2, t3, t4, t5⟩ := tabS_facts (schS x.cs 8) x.rows 12 (by omega)
  have e12 : (12 : Int).toNat = 12 := rfl
  unfold baseS
  exact ⟨by omega, by omega, by omega, fun x hx => ⟨(t4 x hx).1, (t4 x hx).2.1⟩, fun x hx => by have := (t4 x hx).2.2; omega, t5⟩
theorem oldS_sub (rows : List (List Cell)) (g c : Int) : ∀ (L : List Line) (i : Int), ((oldS rows g c i L).map Line.n).Sublist (L.map Line.n)
  | [], i => by simp [oldS]
  | x :: r, i => by
    rw [oldS]
    cases goneB g i with
    | true => simpa using (oldS_sub rows g c r (i + 1)).cons_cons x.n
    | false => simpa using (oldS_sub rows g c r (i + 1)).cons x.n
theorem rowAt_len {rows : List (List Cell)} {w i : Int} {r : List Cell} (h : ∀ q ∈ rows, q.length ≤ 1000) (hr : r.length ≤ 1000) : (rowAt rows w i r).length ≤ 1000 := by
  unfold rowAt
  cases chgB w i && decide (0 < (rows.length : Int)) with
  | false => exact hr
  | true =>
    simp only [cond_true]
    cases hg : getE rows (i.tmod rows.length) with
    | none => simp
    | some q =>
      unfold getE at hg
      split at hg
      · simpa using h q (List.mem_of_getElem? hg)
      · exact absurd hg (by simp)
theorem oldS_row {rows : List (List Cell)} {g c : Int} (h : ∀ q ∈ rows, q.length ≤ 1000) : ∀ {L : List Line} {i : Int}, (∀ x ∈ L, x.r.length ≤ 1000) → ∀ x ∈ oldS rows g c i L, x.r.length ≤ 1000
  | [], i, _, x, hx => by simp [oldS] at hx
  | y :: r, i, hL, x, hx => by
    rw [oldS] at hx
    cases hg : goneB g i with
    | true =>
      rw [hg, cond_true, List.mem_cons] at hx
      rcases hx with rfl | hx
      · exact rowAt_len h (hL y (by simp))
      · exact oldS_row h (fun z hz => hL z (by simp [hz])) x hx
    | false =>
      rw [hg, cond_false] at hx
      exact oldS_row h (fun z hz => hL z (by simp [hz])) x hx
theorem addL_mem {n : Int} : ∀ {q : List (List Cell)} {n : Int} {x : Line}, x ∈ addL n q → n ≤ x.n ∧ x.n < n + q.length ∧ x.r ∈ q
  | [], n, x, h => by simp [addL] at h
  | r :: q, n, x, h => by
    simp only [addL, List.mem_cons] at h
    rcases h with rfl | h
    · simp; omega
    · obtain ⟨h1, h2, h3⟩ := addL_mem (n := n) h
      refine ⟨by omega, by simp only [List.length_cons]; omega, by simp [h3]⟩
theorem addL_srt : ∀ (q : List (List Cell)) (n : Int), (addL n q).Pairwise fun x y => x.n < y.n
  | [], n => by simp [addL]
  | r :: q, n => by
    rw [addL, List.pairwise_cons]
    refine ⟨fun y hy => ?_, addL_srt q (n + 1)⟩
    have := addL_mem (n := n) hy; simp only []; omega
theorem rowsN_len {fs : List Fld} (h : fs.length ≤ 64) (x : List (List Val)) (n : Nat) : ∀ q ∈ rowsN fs x n, q.length ≤ 1000 := by
  intro q hq
  obtain ⟨v, _, rfl⟩ := List.mem_map.1 hq
  have := rowS_len fs v; omega
theorem branch_ok {fs : List Fld} (hF : fs.length ≤ 64) {base : Table} (hb : TOK base) (hl : base.l.length ≤ 1000) (hn : base.next ≤ 1000) {x : Edit} (h0 : 0 ≤ x.skip) : TOK (branchS fs base x) := by
  have hlen : (rowsN fs x.rows 6).length ≤ 6 := by unfold rowsN; rw [List.length_map, List.length_take]; omega
  have hsk : 0 ≤ x.skip.tmod 3 ∧ x.skip.tmod 3 < 3 := ⟨Int.tmod_nonneg _ h0, Int.tmod_lt_of_pos _ (by omega)⟩
  have hr := rowsN_len hF x.rows 6
  have h1 := oldS_len (rowsN fs x.rows 6) x.gone x.chg base.l 0
  have h2 := oldS_sub (rowsN fs x.rows 6) x.gone x.chg base.l 0
  have hb0 := hb.n0
  have hmem : ∀ y ∈ oldS (rowsN fs x.rows 6) x.gone x.chg 0 base.l, 0 ≤ y.n ∧ y.n < base.next := by
    intro y hy
    have := h2.subset (List.mem_map_of_mem hy)
    obtain ⟨z, hz, e⟩ := List.mem_map.1 this
    rw [← e]; exact hb.rng z hz
  unfold branchS
  refine ⟨by simp only [List.length_append, addL_len]; omega, by simp only []; omega, by simp only []; omega, fun y hy => ?_, fun y hy => ?_, ?_⟩
  · simp only [List.mem_append] at hy
    simp only []
    rcases hy with hy | hy
    · have := hmem y hy; omega
    · have := addL_mem (n := 0) hy; omega
  · simp only [List.mem_append] at hy
    rcases hy with hy | hy
    · exact oldS_row hr hb.row y hy
    · exact hr _ (addL_mem (n := 0) hy).2.2
  · simp only []
    rw [List.pairwise_append]
    refine ⟨?_, addL_srt _ _, fun y hy z hz => ?_⟩
    · have hs := hb.srt
      have e : (base.l.map Line.n).Pairwise (· < ·) := by rw [List.pairwise_map]; exact hs
      have := e.sublist h2
      rwa [List.pairwise_map] at this
    · have := hmem y hy
      have := addL_mem (n := 0) hz; omega
/-! Looking up. -/
theorem look_find (L : List Line) (n : Int) : lookL L n = (findL L n).map Line.r := by
  unfold lookL findL
  congr 2
  funext x
  by_cases h : n = x.n
  · simp [h]
  · have : ¬ x.n = n := fun e => h e.symm
    simp [h, this]
theorem find_n {L : List Line} {n : Int} {x : Line} (h : findL L n = some x) : x.n = n ∧ x ∈ L := by
  unfold findL at h
  exact ⟨by simpa using List.find?_some h, List.mem_of_find?_eq_some h⟩
theorem find_some {L : List Line} (hd : nodup L) {x : Line} (hx : x ∈ L) : findL L x.n = some x := by
  induction L with
  | nil => simp at hx
  | cons y r ih =>
    unfold findL
    rw [List.find?_cons]
    unfold nodup at hd
    rw [List.map_cons, List.nodup_cons] at hd
    rcases List.mem_cons.1 hx with rfl | hx
    · simp
    · have : ¬ y.n = x.n := fun e => hd.1 (by rw [e]; exact List.mem_map_of_mem hx)
      simp only [this, decide_false]
      exact ih hd.2 hx
theorem look_some {L : List Line} (hd : nodup L) {x : Line} (hx : x ∈ L) : lookL L x.n = some x.r := by rw [look_find, find_some hd hx]; rfl
theorem look_none {L : List Line} {n : Int} : lookL L n = none ↔ ∀ x ∈ L, x.n ≠ n := by
  rw [look_find]
  unfold findL
  simp
theorem fresh_eq (b : Int) (L : List Line) (h : L.Pairwise fun x y => x.n < y.n) : freshS b L = freshR b L := by
  have key : ∀ (L pre : List Line), (∀ x ∈ pre, x.n < b) → L.Pairwise (fun x y => x.n < y.n) →
      (bif decide (idxF (fun x : Line => decide (b ≤ x.n)) (pre.length : Int) L < 0) then [] else (pre ++ L).drop (idxF (fun x : Line => decide (b ≤ x.n)) (pre.length : Int) L).toNat) = L.filter fun x => decide (b ≤ x.n) := by
    intro L
    induction L with
    | nil => intro pre _ _; simp [idxF]
    | cons x r ih =>
      intro pre hp hs
      rw [List.pairwise_cons] at hs
      rw [idxF, List.filter_cons]
      cases d : decide (b ≤ x.n) with
      | true =>
        have : decide ((pre.length : Int) < 0) = false := by simp
        simp only [cond_true, this, cond_false, if_true, Int.toNat_natCast, List.drop_left]
        congr 1
        symm
        rw [List.filter_eq_self]
        intro y hy
        have := hs.1 y hy
        simp at d ⊢; omega
      | false =>
        simp only [cond_false, Bool.false_eq_true, if_false]
        have := ih (pre ++ [x]) (fun y hy => by
          simp at hy
          rcases hy with hy | rfl
          · exact hp y hy
          · simpa using d) hs.2
        simpa using this
  have := key L [] (by simp) h
  simpa [freshS, freshR] using this
theorem fits_eq (base t : Table) : fitsR base t = fitsS base t := by
  unfold fitsR fitsS
  congr 2
  refine congrArg (fun p => t.l.any p) ?_
  funext x
  congr 1
  rw [look_find]
  cases findL base.l x.n <;> simp
theorem same_eq (A B : List Line) (n : Int) : sameS A B n = decide (lookL A n = lookL B n) := by
  unfold sameS
  rw [look_find, look_find]
theorem filterMap_eq {f g : Line → Option Line} : ∀ {L : List Line}, (∀ x ∈ L, f x = g x) → L.filterMap f = L.filterMap g
  | [], _ => rfl
  | x :: r, h => by
    rw [List.filterMap_cons, List.filterMap_cons, h x (by simp), filterMap_eq fun y hy => h y (by simp [hy])]
theorem merge_eq {base a b : Table} (hb : nodup base.l) (ha : a.l.Pairwise fun x y => x.n < y.n) (hc : b.l.Pairwise fun x y => x.n < y.n) : mergeR base a b = mergeM base a b := by
  have e1 : (base.l.filter fun x => clashR base.l a.l b.l x.n) = base.l.filter (clash a.l b.l) := by
    refine List.filter_congr fun x hx => ?_
    unfold clashR clash
    rw [same_eq, same_eq, same_eq, look_some hb hx]
    have f : ∀ o : Option (List Cell), decide (some x.r = o) = decide (o = some x.r) := fun o => by
      by_cases h : o = some x.r
      · simp [h]
      · have : ¬ some x.r = o := fun e => h e.symm
        simp [h, this]
    rw [f, f]
  have e2 : keptR base.l a.l b.l base.l = keptM a.l b.l base.l := by
    unfold keptR keptM
    refine filterMap_eq fun x hx => ?_
    unfold pickR pickM
    rw [same_eq, look_some hb hx]
    have f : ∀ o : Option (List Cell), decide (some x.r = o) = decide (o = some x.r) := fun o => by
      by_cases h : o = some x.r
      · simp [h]
      · have : ¬ some x.r = o := fun e => h e.symm
        simp [h, this]
    rw [f]
    have g : ∀ L : List Line, findL L x.n = (lookL L x.n).map fun r => (⟨x.n, r⟩ : Line) := by
      intro L
      rw [look_find]
      cases hf : findL L x.n with
      | none => rfl
      | some y =>
        obtain ⟨h1, _⟩ := find_n hf
        cases y
        simp at h1 ⊢
        exact h1
    cases decide (lookL a.l x.n = some x.r) with
    | true => simp only [cond_true]; exact g _
    | false => simp only [cond_false]; exact g _
  unfold mergeR mergeM
  rw [e1, e2, fits_eq, fits_eq, ← fresh_eq _ _ ha, ← fresh_eq _ _ hc]
theorem look_row {L : List Line} {n : Int} {r : List Cell} (h : lookL L n = some r) : ∃ x ∈ L, x.n = n ∧ x.r = r := by
  rw [look_find] at h
  obtain ⟨x, hx, rfl⟩ := Option.map_eq_some_iff.1 h
  obtain ⟨h1, h2⟩ := find_n hx
  exact ⟨x, h2, h1, rfl⟩
theorem keptM_row {A B L : List Line} {x : Line} (h : x ∈ keptM A B L) : ∃ y, (y ∈ A ∨ y ∈ B) ∧ y.r = x.r := by
  unfold keptM at h
  obtain ⟨z, _, hz⟩ := List.mem_filterMap.1 h
  obtain ⟨r, hr, rfl⟩ := Option.map_eq_some_iff.1 hz
  unfold pickM at hr
  cases hd : decide (lookL A z.n = some z.r) with
  | true =>
    rw [hd, cond_true] at hr
    obtain ⟨y, hy, _, rfl⟩ := look_row hr
    exact ⟨y, .inr hy, rfl⟩
  | false =>
    rw [hd, cond_false] at hr
    obtain ⟨y, hy, _, rfl⟩ := look_row hr
    exact ⟨y, .inl hy, rfl⟩
theorem numL_row {x : Line} : ∀ {q : List Line} {n : Int}, x ∈ numL n q → ∃ y ∈ q, y.r = x.r
  | [], n, h => by simp [numL] at h
  | y :: q, n, h => by
    simp only [numL, List.mem_cons] at h
    rcases h with rfl | h
    · exact ⟨y, by simp, rfl⟩
    · obtain ⟨z, hz, e⟩ := numL_row h
      exact ⟨z, by simp [hz], e⟩
theorem mergeM_rows {base a b : Table} (hb : rowsOk base.l) (ha : rowsOk a.l) (hc : rowsOk b.l) : rowsOk (mergeM base a b).l ∧ rowsOk (mergeM base a b).c ∧ (mergeM base a b).l.length ≤ base.l.length + a.l.length + b.l.length ∧ (mergeM base a b).c.length ≤ base.l.length := by
  have nil : rowsOk [] := by intro x hx; simp at hx
  unfold mergeM
  cases !fitsS base a || !fitsS base b with
  | true => exact ⟨nil, nil, by simp [noM], by simp [noM]⟩
  | false =>
    rw [cond_false]
    cases decide (0 < ((base.l.filter (clash a.l b.l)).length : Int)) with
    | true => exact ⟨nil, fun x hx => hb x ((List.mem_filter.1 hx).1), by simp [noM], List.length_filter_le _ _⟩
    | false =>
      rw [cond_false]
      cases decide (4096 < ((keptM a.l b.l base.l ++ freshS base.next a.l ++ numL a.next (freshS base.next b.l)).length : Int)) || decide (4611686018427387904 < a.next + (freshS base.next b.l).length) with
      | true => exact ⟨nil, nil, by simp [noM], by simp [noM]⟩
      | false =>
        rw [cond_false]
        refine ⟨fun x hx => ?_, nil, ?_, by simp⟩
        · simp only [List.mem_append] at hx
          rcases hx with (hx | hx) | hx
          · obtain ⟨y, hy, e⟩ := keptM_row hx
            rw [← e]
            rcases hy with hy | hy
            · exact ha y hy
            · exact hc y hy
          · exact ha x (freshS_sub _ _ x hx)
          · obtain ⟨y, hy, e⟩ := numL_row hx
            rw [← e]
            exact hc y (freshS_sub _ _ y hy)
        · simp only [List.length_append, numL_len]
          have h1 := freshS_len base.next a.l
          have h2 := freshS_len base.next b.l
          have h3 : (keptM a.l b.l base.l).length ≤ base.l.length := List.length_filterMap_le _ _
          omega
end Go.Den
