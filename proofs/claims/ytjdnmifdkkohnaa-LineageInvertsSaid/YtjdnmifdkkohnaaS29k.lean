/- Ch. 29: the reference's Apply and Fits. -/
import Derived.Test.YtjdnmifdkkohnaaS29j
namespace Go.Den
open Go
set_option linter.unusedSimpArgs false
set_option linter.unusedVariables false
set_option maxRecDepth 100000
set_option maxHeartbeats 1000000
def takeLt (n : Int) : List Line → List Line
  | [] => []
  | x :: r => if x.n < n then x :: takeLt n r else []
def dropLt (n : Int) : List Line → List Line
  | [] => []
  | x :: r => if x.n < n then dropLt n r else x :: r
def σR (out : List Line) (next : Int) : St := [.cells [.int .i64 0, .nils], .cells [.int .i64 next, .osl 2 0 out.length 0 out.length], .arr 0 2 (out.map Line.cells)]
theorem R29_Apply_l1 {β : Type} {K : Ex × Env × St → Option β} {Z : Option β} (I : AV) (J : Int) (n next : Int) : ∀ (x out : List Line), out.length + x.length < 1000000000000 →
    K (.exit 2, [(4, .ref 0 0), (6, I), (7, .ref 1 0), (8, .sl ((dropLt n x).map Line.cells)), (9, .int .i64 J), (10, .int .i64 n), (48, .bool false)], σR (out ++ takeLt n x) next) = Z →
    (Run prog 0 (.loop 3 [4, 6, 7, 8, 9, 10] f_R29_Apply_l1) [(4, .ref 0 0), (6, I), (7, .ref 1 0), (8, .sl (x.map Line.cells)), (9, .int .i64 J), (10, .int .i64 n)] (σR out next)).bind K = Z
  | [], out, hl, h => by
    have hz : decide ((0 : Int) < 0) = false := rfl
    simp only [dropLt, takeLt, σR, List.append_nil, List.map_nil] at h
    rw [Run_loop]
    simp only [f_R29_Apply_l1_eq, f_R29_Apply_l1u, σR, hz, Int.natCast_zero, h, go_sem, Nat.reduceEqDiff, ↓reduceIte, Nat.reduceAdd, Nat.reduceLeDiff, Nat.reduceLT, reduceCtorEq, Nat.reduceBEq, Nat.reduceMul, Nat.reduceSub, ne_eq, not_false_eq_true, Int.reduceSub, Int.reduceAdd, Int.reduceLE, Int.reduceLT, Int.reduceToNat, Int.toNat_zero, implies_true]
  | x :: r, out, hl, h => by
    have hp : decide ((0 : Int) < (r.length : Int) + 1) = true := by rw [decide_eq_true_eq]; omega
    by_cases c : x.n < n
    · have hd : decide (x.n < n) = true := by simpa using c
      have ih := R29_Apply_l1 (K := K) (Z := Z) I J n next r (out ++ [x]) (by clear h; simp at hl ⊢; omega) (by rw [dropLt, takeLt, if_pos c, if_pos c] at h; simpa using h)
      have hb : (out.length + 1) * 32 ≤ 140737488355328 := mul32 (by clear h ih; simp at hl; omega)
      simp only [σR, go_sem, Nat.reduceEqDiff, ↓reduceIte, Nat.reduceAdd, Nat.reduceLeDiff, Nat.reduceLT, reduceCtorEq, Nat.reduceBEq, Nat.reduceMul, Nat.reduceSub, ne_eq, not_false_eq_true, Int.reduceSub, Int.reduceAdd, Int.reduceLE, Int.reduceLT, Int.reduceToNat, Int.toNat_zero, implies_true] at ih
      rw [Run_loop]
      simp only [f_R29_Apply_l1_eq, f_R29_Apply_l1u, σR, hp, hd, hb, ih, go_sem, Nat.reduceEqDiff, ↓reduceIte, Nat.reduceAdd, Nat.reduceLeDiff, Nat.reduceLT, reduceCtorEq, Nat.reduceBEq, Nat.reduceMul, Nat.reduceSub, ne_eq, not_false_eq_true, Int.reduceSub, Int.reduceAdd, Int.reduceLE, Int.reduceLT, Int.reduceToNat, Int.toNat_zero, implies_true]
    · have hd : decide (x.n < n) = false := by simpa using c
      simp only [dropLt, takeLt, σR, if_neg c, go_sem, Nat.reduceEqDiff, ↓reduceIte, Nat.reduceAdd, Nat.reduceLeDiff, Nat.reduceLT, reduceCtorEq, Nat.reduceBEq, Nat.reduceMul, Nat.reduceSub, ne_eq, not_false_eq_true, Int.reduceSub, Int.reduceAdd, Int.reduceLE, Int.reduceLT, Int.reduceToNat, Int.toNat_zero, implies_true] at h
      rw [Run_loop]
      simp only [f_R29_Apply_l1_eq, f_R29_Apply_l1u, σR, hp, hd, h, go_sem, Nat.reduceEqDiff, ↓reduceIte, Nat.reduceAdd, Nat.reduceLeDiff, Nat.reduceLT, reduceCtorEq, Nat.reduceBEq, Nat.reduceMul, Nat.reduceSub, ne_eq, not_false_eq_true, Int.reduceSub, Int.reduceAdd, Int.reduceLE, Int.reduceLT, Int.reduceToNat, Int.toNat_zero, implies_true]
def apR : List Item → List Line → List Line → Int → Option (List Line × List Line × Int)
  | [], x, out, next => some (x, out, next)
  | i :: r, x, out, next =>
    if atS i.n (dropLt i.n x) = i.b then (match i.a with
      | some row => apR r (atR i.n (dropLt i.n x)) (out ++ takeLt i.n x ++ [⟨i.n, row⟩]) (if next < i.n + 1 then i.n + 1 else next)
      | none => apR r (atR i.n (dropLt i.n x)) (out ++ takeLt i.n x) next)
    else none
theorem takeLt_len (n : Int) : ∀ x : List Line, (takeLt n x).length + (dropLt n x).length = x.length
  | [] => rfl
  | x :: r => by
    have := takeLt_len n r
    rw [takeLt, dropLt]
    split <;> simp <;> omega
theorem dropLt_sub (n : Int) : ∀ (x : List Line), ∀ l ∈ dropLt n x, l ∈ x
  | [], l, h => h
  | x :: r, l, h => by
    rw [dropLt] at h
    split at h
    · exact List.mem_cons_of_mem _ (dropLt_sub n r l h)
    · exact h
theorem atR_sub (n : Int) : ∀ (x : List Line), ∀ l ∈ atR n x, l ∈ x
  | [], l, h => h
  | x :: r, l, h => by
    rw [atR] at h
    split at h
    · exact List.mem_cons_of_mem _ h
    · exact h
theorem atR_len (n : Int) : ∀ (x : List Line), (atR n x).length ≤ x.length
  | [] => Nat.le_refl _
  | x :: r => by rw [atR]; split <;> simp
theorem atS_ok (n : Int) : ∀ (x : List Line), okL x → lenB (atS n x)
  | [], _ => by intro r hr; simp [atS] at hr
  | x :: r, h => by
    intro r hr
    rw [atS] at hr
    split at hr
    · simp at hr; subst hr; exact h x (by simp)
    · simp at hr
theorem R29_Apply_l0 {β : Type} {K : Ex × Env × St → Option β} {Z : Option β} (L : List Item) (hL : L.length < 200000000000) (hB : ∀ i ∈ L, okI i ∧ 0 ≤ i.n ∧ i.n < 4611686018427387904) (x0 : List Line) (hx0 : x0.length < 200000000000) (hx : okL x0) (next0 : Int)
    (h1 : ∀ x out next, apR L x0 [] next0 = some (x, out, next) → out.length + x.length ≤ L.length + x0.length → K (.exit 0, [(4, .ref 0 0), (6, .sl (L.map Item.cellsR)), (7, .ref 1 0), (8, .sl (x.map Line.cells)), (9, .int .i64 L.length), (30, .bool false)], σR out next) = Z)
    (h0 : apR L x0 [] next0 = none → ∀ s, K (.ret, [(4, .ref 0 0), (5, .int .i64 300)], .cells [.int .i64 0, .nils] :: s) = Z) :
    (Run prog 0 (.loop 3 [4, 6, 7, 8, 9] f_R29_Apply_l0) [(4, .ref 0 0), (6, .sl (L.map Item.cellsR)), (7, .ref 1 0), (8, .sl (x0.map Line.cells)), (9, .int .i64 0)] (σR [] next0)).bind K = Z := by
  have h := range_ind L (by omega) (fun i (s : List Line × List Line × Int) => (Run prog 0 (.loop 3 [4, 6, 7, 8, 9] f_R29_Apply_l0) [(4, .ref 0 0), (6, .sl (L.map Item.cellsR)), (7, .ref 1 0), (8, .sl (s.1.map Line.cells)), (9, .int .i64 i)] (σR s.2.1 s.2.2)).bind K = Z)
    (fun i rest s => (s.2.1.length + s.1.length : Int) ≤ i + x0.length ∧ okL s.1 ∧ apR rest s.1 s.2.1 s.2.2 = apR L x0 [] next0) ?_ ?_ (x0, [], next0) ⟨by simp, hx, rfl⟩
  · exact h
  · intro ⟨x, out, next⟩ ⟨hl, _, hg⟩
    rw [apR] at hg
    have := h1 x out next hg.symm (by clear h1 h0 hB; simp only [] at hl; omega)
    simp only [σR] at this
    rw [Run_loop]
    simp only [f_R29_Apply_l0_eq, f_R29_Apply_l0u, σR, this, go_sem, Nat.reduceEqDiff, ↓reduceIte, Nat.reduceAdd, Nat.reduceLeDiff, Nat.reduceLT, reduceCtorEq, Nat.reduceBEq, Nat.reduceMul, Nat.reduceSub, ne_eq, not_false_eq_true, Int.reduceSub, Int.reduceAdd, Int.reduceLE, Int.reduceLT, Int.reduceToNat, Int.toNat_zero, implies_true]
  · intro i pre rest it ⟨x, out, next⟩ hp hi0 hi1 hi2 hxx hc hw ⟨hl, hok, hg⟩ ih
    simp only [] at hl hok hg ih
    obtain ⟨hit, hn0, hn1⟩ := hB it (by rw [hp]; simp)
    have hwn : IntKind.wrap .i64 (it.n + 1) = it.n + 1 := wrap_i64 (by clear hw hc hxx hg hp h1 h0 ih; omega) (by clear hw hc hxx hg hp h1 h0 ih; omega)
    have htl := takeLt_len it.n x
    have har := atR_len it.n (dropLt it.n x)
    have hq : out.length + x.length < 400000000000 := by clear hw hc hxx hg hp h1 h0 ih hwn; omega
    have hok1 : okL (dropLt it.n x) := fun l hl => hok l (dropLt_sub _ _ l hl)
    have hok2 : okL (atR it.n (dropLt it.n x)) := fun l hl => hok1 l (atR_sub _ _ l hl)
    have ha := R29_at it.n (dropLt it.n x)
    have hs := R29_same (atS it.n (dropLt it.n x)) it.b (atS_ok _ _ hok1)
    have hb : ((out ++ takeLt it.n x).length + 1) * 32 ≤ 140737488355328 := mul32 (by rw [List.length_append]; clear hw hc hxx hg hp h1 h0 ih hwn hs ha; omega)
    rw [apR] at hg
    rw [Run_loop]
    simp only [f_R29_Apply_l0_eq, f_R29_Apply_l0u, hw, hxx, hc, σR, go_sem, Nat.reduceEqDiff, ↓reduceIte, Nat.reduceAdd, Nat.reduceLeDiff, Nat.reduceLT, reduceCtorEq, Nat.reduceBEq, Nat.reduceMul, Nat.reduceSub, ne_eq, not_false_eq_true, Int.reduceSub, Int.reduceAdd, Int.reduceLE, Int.reduceLT, Int.reduceToNat, Int.toNat_zero, implies_true]
    have hl1 := fun K => R29_Apply_l1 (β := β) (K := K) (Z := Z) (.sl (L.map Item.cellsR)) i it.n next x out (by clear hw hc hxx hg hp h1 h0 ih hwn hs ha hb hl; omega)
    simp only [σR, go_sem, Nat.reduceEqDiff, ↓reduceIte, Nat.reduceAdd, Nat.reduceLeDiff, Nat.reduceLT, reduceCtorEq, Nat.reduceBEq, Nat.reduceMul, Nat.reduceSub, ne_eq, not_false_eq_true, Int.reduceSub, Int.reduceAdd, Int.reduceLE, Int.reduceLT, Int.reduceToNat, Int.toNat_zero, implies_true] at hl1
    refine hl1 _ ?_
    clear hl1
    by_cases hsame : atS it.n (dropLt it.n x) = it.b
    · have hd : decide (atS it.n (dropLt it.n x) = it.b) = true := by simpa using hsame
      rw [hd] at hs
      rw [if_pos hsame] at hg
      cases hia : it.a with
      | none =>
        rw [hia] at hg
        have ih := ih (atR it.n (dropLt it.n x), out ++ takeLt it.n x, next) ⟨by simp only [List.length_append]; clear hw hc hxx hg hp h1 h0 hwn hs ha hb ih; omega, hok2, hg⟩
        simp only [σR, go_sem, Nat.reduceEqDiff, ↓reduceIte, Nat.reduceAdd, Nat.reduceLeDiff, Nat.reduceLT, reduceCtorEq, Nat.reduceBEq, Nat.reduceMul, Nat.reduceSub, ne_eq, not_false_eq_true, Int.reduceSub, Int.reduceAdd, Int.reduceLE, Int.reduceLT, Int.reduceToNat, Int.toNat_zero, implies_true] at ih
        clear hg hp h1 h0 hB hl htl har
        simp only [hw, hxx, hc, ha, hs, hia, ih, go_sem, Nat.reduceEqDiff, ↓reduceIte, Nat.reduceAdd, Nat.reduceLeDiff, Nat.reduceLT, reduceCtorEq, Nat.reduceBEq, Nat.reduceMul, Nat.reduceSub, ne_eq, not_false_eq_true, Int.reduceSub, Int.reduceAdd, Int.reduceLE, Int.reduceLT, Int.reduceToNat, Int.toNat_zero, implies_true]
      | some row =>
        rw [hia] at hg
        have ih := ih (atR it.n (dropLt it.n x), out ++ takeLt it.n x ++ [⟨it.n, row⟩], if next < it.n + 1 then it.n + 1 else next) ⟨by simp only [List.length_append, List.length_cons, List.length_nil]; clear hw hc hxx hg hp h1 h0 hwn hs ha hb ih; omega, hok2, hg⟩
        simp only [σR, Nat.add_assoc, go_sem, Nat.reduceEqDiff, ↓reduceIte, Nat.reduceAdd, Nat.reduceLeDiff, Nat.reduceLT, reduceCtorEq, Nat.reduceBEq, Nat.reduceMul, Nat.reduceSub, ne_eq, not_false_eq_true, Int.reduceSub, Int.reduceAdd, Int.reduceLE, Int.reduceLT, Int.reduceToNat, Int.toNat_zero, implies_true] at ih hb
        clear hg hp h1 h0 hB hl htl har
        simp only [hw, hxx, hc, ha, hs, hia, hwn, hb, ih, Nat.add_assoc, go_sem, Nat.reduceEqDiff, ↓reduceIte, Nat.reduceAdd, Nat.reduceLeDiff, Nat.reduceLT, reduceCtorEq, Nat.reduceBEq, Nat.reduceMul, Nat.reduceSub, ne_eq, not_false_eq_true, Int.reduceSub, Int.reduceAdd, Int.reduceLE, Int.reduceLT, Int.reduceToNat, Int.toNat_zero, implies_true]
    · have hd : decide (atS it.n (dropLt it.n x) = it.b) = false := by simpa using hsame
      rw [hd] at hs
      rw [if_neg hsame] at hg
      have h0 := h0 hg.symm
      simp only [hw, hxx, hc, ha, hs, h0, go_sem, Nat.reduceEqDiff, ↓reduceIte, Nat.reduceAdd, Nat.reduceLeDiff, Nat.reduceLT, reduceCtorEq, Nat.reduceBEq, Nat.reduceMul, Nat.reduceSub, ne_eq, not_false_eq_true, Int.reduceSub, Int.reduceAdd, Int.reduceLE, Int.reduceLT, Int.reduceToNat, Int.toNat_zero, implies_true]
def applyR (t : Table) (l : List Event) : Table × Int :=
  if valid t = false then (⟨0, []⟩, 1) else if feedOk none l = false then (⟨0, []⟩, 5) else
  match apR (itemsOf [] l) t.l [] t.next with
  | none => (⟨0, []⟩, 300)
  | some (x, out, next) => if 4096 < (out ++ x).length then (⟨0, []⟩, 2) else (⟨next, out ++ x⟩, 0)
theorem R29_Apply (t : Table) (l : List Event) (hLt : t.l.length < 1000000000000000) (hLl : l.length < 100000000000) (ht : okL t.l) (hl : okE l) :
    Den prog 35 [.agg [.int .i64 t.next, .sl (t.l.map Line.cells)], .sl (l.map Event.cells)] [] = some (.tup [.agg [.int .i64 (applyR t l).1.next, .sl ((applyR t l).1.l.map Line.cells)], .int .i64 (applyR t l).2], []) := by
  have hva := R29_Valid t hLt
  have hvb := R29_IsFeed l (by clear ht hl; omega) hl
  have hia := R29_Items l hLl
  simp only [go_sem, Nat.reduceEqDiff, ↓reduceIte, Nat.reduceAdd, Nat.reduceLeDiff, Nat.reduceLT, reduceCtorEq, Nat.reduceBEq, Nat.reduceMul, Nat.reduceSub, ne_eq, not_false_eq_true, Int.reduceSub, Int.reduceAdd, Int.reduceLE, Int.reduceLT, Int.reduceToNat, Int.toNat_zero, implies_true] at hva
  rw [Den_ofK [] pr_R29_Apply rfl]
  cases va : valid t with
  | false =>
    have hf : applyR t l = (⟨0, []⟩, 1) := by rw [applyR, if_pos va]
    rw [hf]
    simp only [f_R29_Apply, hva, va, go_sem, Nat.reduceEqDiff, ↓reduceIte, Nat.reduceAdd, Nat.reduceLeDiff, Nat.reduceLT, reduceCtorEq, Nat.reduceBEq, Nat.reduceMul, Nat.reduceSub, ne_eq, not_false_eq_true, Int.reduceSub, Int.reduceAdd, Int.reduceLE, Int.reduceLT, Int.reduceToNat, Int.toNat_zero, implies_true]
  | true =>
    cases vb : feedOk none l with
    | false =>
      have hf : applyR t l = (⟨0, []⟩, 5) := by rw [applyR, if_neg (by simp [va]), if_pos vb]
      rw [hf]
      simp only [f_R29_Apply, hva, hvb, va, vb, go_sem, Nat.reduceEqDiff, ↓reduceIte, Nat.reduceAdd, Nat.reduceLeDiff, Nat.reduceLT, reduceCtorEq, Nat.reduceBEq, Nat.reduceMul, Nat.reduceSub, ne_eq, not_false_eq_true, Int.reduceSub, Int.reduceAdd, Int.reduceLE, Int.reduceLT, Int.reduceToNat, Int.toNat_zero, implies_true]
    | true =>
      have l1 := itemsOf_len l []
      simp only [List.length_nil, Nat.zero_add] at l1
      obtain ⟨_, v2, v3⟩ := valid_all va
      simp only [f_R29_Apply, hva, hvb, hia, va, vb, go_sem, Nat.reduceEqDiff, ↓reduceIte, Nat.reduceAdd, Nat.reduceLeDiff, Nat.reduceLT, reduceCtorEq, Nat.reduceBEq, Nat.reduceMul, Nat.reduceSub, ne_eq, not_false_eq_true, Int.reduceSub, Int.reduceAdd, Int.reduceLE, Int.reduceLT, Int.reduceToNat, Int.toNat_zero, implies_true]
      have hl0 := fun K Z => R29_Apply_l0 (β := AV × St) (K := K) (Z := Z) (itemsOf [] l) (by clear ht hl hva hvb hia; omega) (fun i hi => ⟨itemsOf_ok hl i hi, itemsOf_lt vb i hi⟩) t.l (by clear ht hl hva hvb hia; omega) ht t.next
      simp only [σR, go_sem, Nat.reduceEqDiff, ↓reduceIte, Nat.reduceAdd, Nat.reduceLeDiff, Nat.reduceLT, reduceCtorEq, Nat.reduceBEq, Nat.reduceMul, Nat.reduceSub, ne_eq, not_false_eq_true, Int.reduceSub, Int.reduceAdd, Int.reduceLE, Int.reduceLT, Int.reduceToNat, Int.toNat_zero, implies_true] at hl0
      refine hl0 _ _ (fun x out next hap hlen => ?_) (fun hap s => ?_)
      · have hf : applyR t l = (if 4096 < (out ++ x).length then (⟨0, []⟩, 2) else (⟨next, out ++ x⟩, 0)) := by
          rw [applyR, if_neg (by simp [va]), if_neg (by simp [vb]), hap]
        rw [hf]
        have hb : (out.length + x.length) * 32 ≤ 140737488355328 := mul32 (by clear ht hl hva hvb hia hl0 hap hf; omega)
        by_cases hbig : 4096 < (out ++ x).length
        · rw [if_pos hbig]
          rw [List.length_append] at hbig
          have hd : decide ((4096 : Int) < (out.length : Int) + x.length) = true := by rw [decide_eq_true_eq]; clear hb hl0 hap hf; omega
          simp only [hb, hd, go_sem, Nat.reduceEqDiff, ↓reduceIte, Nat.reduceAdd, Nat.reduceLeDiff, Nat.reduceLT, reduceCtorEq, Nat.reduceBEq, Nat.reduceMul, Nat.reduceSub, ne_eq, not_false_eq_true, Int.reduceSub, Int.reduceAdd, Int.reduceLE, Int.reduceLT, Int.reduceToNat, Int.toNat_zero, implies_true]
        · rw [if_neg hbig]
          rw [List.length_append] at hbig
          have hd : decide ((4096 : Int) < (out.length : Int) + x.length) = false := by rw [decide_eq_false_iff_not]; clear hb hl0 hap hf; omega
          simp only [hb, hd, go_sem, Nat.reduceEqDiff, ↓reduceIte, Nat.reduceAdd, Nat.reduceLeDiff, Nat.reduceLT, reduceCtorEq, Nat.reduceBEq, Nat.reduceMul, Nat.reduceSub, ne_eq, not_false_eq_true, Int.reduceSub, Int.reduceAdd, Int.reduceLE, Int.reduceLT, Int.reduceToNat, Int.toNat_zero, implies_true]
      · have hf : applyR t l = (⟨0, []⟩, 300) := by
          rw [applyR, if_neg (by simp [va]), if_neg (by simp [vb]), hap]
        rw [hf]
        simp only [go_sem, Nat.reduceEqDiff, ↓reduceIte, Nat.reduceAdd, Nat.reduceLeDiff, Nat.reduceLT, reduceCtorEq, Nat.reduceBEq, Nat.reduceMul, Nat.reduceSub, ne_eq, not_false_eq_true, Int.reduceSub, Int.reduceAdd, Int.reduceLE, Int.reduceLT, Int.reduceToNat, Int.toNat_zero, implies_true]
theorem R29_Fits (t : Table) (l : List Event) (hLt : t.l.length < 1000000000000000) (hLl : l.length < 100000000000) (ht : okL t.l) (hl : okE l) :
    Den prog 40 [.agg [.int .i64 t.next, .sl (t.l.map Line.cells)], .sl (l.map Event.cells)] [] = some (.bool (decide ((applyR t l).2 = 0)), []) := by
  have h := R29_Apply t l hLt hLl ht hl
  rw [Den_ofK [] pr_R29_Fits rfl]
  simp only [f_R29_Fits, h, go_sem, Nat.reduceEqDiff, ↓reduceIte, Nat.reduceAdd, Nat.reduceLeDiff, Nat.reduceLT, reduceCtorEq, Nat.reduceBEq, Nat.reduceMul, Nat.reduceSub, ne_eq, not_false_eq_true, Int.reduceSub, Int.reduceAdd, Int.reduceLE, Int.reduceLT, Int.reduceToNat, Int.toNat_zero, implies_true]
end Go.Den
