/- Rows: from a law of the evaluator to what a row says. -/
import Derived.Test.YtggelolphgcpgaaDenY
namespace Go.Den
open Go Go.ChangeShapes Go.WideShapes Go.ChangeAt Go.RowKit
section
variable {P : Program} {tab : Nat → Nat} {H : Type} {enc : TypeId × Value → H} {T : List TypeId}
/-- The abstract value out of a type's cells. -/
def avOf (P : Program) (t : TypeId) (xs : List AV) : AV := match P.underlying t with
  | some (.struct _) | some (.array _ _) => .agg xs
  | _ => xs.headD .dead
/-- The arguments of a law: each the cells of its type. -/
inductive Args (P : Program) : List TypeId → List AV → Prop
  | nil : Args P [] []
  | cons {t : TypeId} {ts : List TypeId} {x : List AV} {xs : List AV} (n : Nat) (h : Sh P n t x) (r : Args P ts xs) : Args P (t :: ts) (avOf P t x :: xs)
theorem okWide_agg {W : World} {r : Reach} {b0 : Nat} {t : TypeId} {v : Value} (hu : (∃ fs, P.underlying t = some (.struct fs)) ∨ ∃ n e, P.underlying t = some (.array n e)) (h : Value.okWide P W r b0 t v) : ∃ xs : Array Value, v = .agg xs := by
  rcases hu with ⟨fs, hu⟩ | ⟨n, e, hu⟩
  · simp only [Value.okWide, hu] at h
    obtain ⟨cs, h1, _⟩ := h
    exact ⟨cs, h1⟩
  · simp only [Value.okWide, hu] at h
    obtain ⟨cs, h1, _⟩ := h
    exact ⟨cs, h1⟩
theorem okWide_cell {W : World} {r : Reach} {b0 : Nat} {t : TypeId} {v : Value} (h : Value.okWide P W r b0 t v) (h1 : ∀ fs, P.underlying t ≠ some (.struct fs)) (h2 : ∀ n e, P.underlying t ≠ some (.array n e)) (h3 : (P.underlying t).isSome) : v.cells = #[v] := by
  cases v with
  | agg xs =>
    exfalso
    cases hu : P.underlying t with
    | none => simp [hu] at h3
    | some d =>
      cases d with
      | struct fs => exact h1 fs hu
      | array n e => exact h2 n e hu
      | _ => simp [Value.okWide, hu, Cell.okWide, Cell.ok] at h
  | _ => rfl
theorem one_read {w : World} (hT : ∀ t ∈ T, plainT P T t = true) {t : TypeId} (ht : t ∈ T) {v : Value} {d : DataW H} {ps : List MemPlace} {r : Reach} {b0 : Nat} (h : DataW.Trod enc P w 0 (fun _ => true) true t v d ps) (hw : ∀ x ∈ d.weights P t, x ≤ reachBytes)
    (hv : Value.okWide P w r b0 t v) : ∃ n x, Sh P n t x ∧ RF tab w (fun b => b < w.heap.size) (avOf P t x) v := by
  obtain ⟨n, h⟩ := h
  obtain ⟨xs, h1, h2, h3⟩ := trod_reads (tab := tab) hT n t _ d ps ht h hw
  refine ⟨n, xs, h1, ?_⟩
  have hp := hT t ht
  unfold avOf
  split
  · rename_i fs hu
    obtain ⟨cs, rfl⟩ := okWide_agg (Or.inl ⟨fs, hu⟩) hv
    have h2' : ReadAs tab w cs.toList xs := h2
    have := RF.agg (tab := tab) (w := w) (S := fun b => b < w.heap.size) xs cs.toList h2'.1.symm (fun j x hx => by
      have hj : j < cs.toList.length := by
        have := (List.getElem?_eq_some_iff.1 hx).1
        rw [← h2'.1]; exact this
      exact (h2'.2 j x cs.toList[j] hx (List.getElem?_eq_getElem hj)).1) (fun j x v hx hv => (h2'.2 j x v hx hv).2)
    simpa using this
  · rename_i n e hu
    obtain ⟨cs, rfl⟩ := okWide_agg (Or.inr ⟨n, e, hu⟩) hv
    have h2' : ReadAs tab w cs.toList xs := h2
    have := RF.agg (tab := tab) (w := w) (S := fun b => b < w.heap.size) xs cs.toList h2'.1.symm (fun j x hx => by
      have hj : j < cs.toList.length := by
        have := (List.getElem?_eq_some_iff.1 hx).1
        rw [← h2'.1]; exact this
      exact (h2'.2 j x cs.toList[j] hx (List.getElem?_eq_getElem hj)).1) (fun j x v hx hv => (h2'.2 j x v hx hv).2)
    simpa using this
  · rename_i g1 g2
    have hc := okWide_cell hv (fun fs h => g1 fs h) (fun n e h => g2 n e h) (by
      unfold plainT at hp
      cases hu : P.underlying t with
      | none => simp [hu] at hp
      | some _ => rfl)
    rw [hc] at h2
    have hl := h2.1
    match xs, hl with
    | [x], _ => exact (h2.2 0 x v rfl rfl).2
theorem args_read {w : World} {r : Reach} {b0 : Nat} (hT : ∀ t ∈ T, plainT P T t = true) : ∀ {ts : List TypeId} {vs : List Value} {ds : List (DataW H)} {ps : List MemPlace}, DataW.TrodAll enc P w 0 (fun _ => true) true ts vs ds ps → (∀ t ∈ ts, t ∈ T) →
    (∀ x ∈ DataW.weightsEach P ts ds, x ≤ reachBytes) → (∀ (j : Nat) t v, ts[j]? = some t → vs[j]? = some v → Value.okWide P w r b0 t v) →
    ∃ xs, Args P ts xs ∧ vs.length = xs.length ∧ ∀ (j : Nat) x v, xs[j]? = some x → vs[j]? = some v → RF tab w (fun b => b < w.heap.size) x v
  | [], [], [], ps, _, _, _, _ => ⟨[], .nil, rfl, by simp⟩
  | t :: ts, v :: vs, d :: ds, ps, ⟨p, q, h1, h2, _⟩, hm, hw, hv => by
    simp only [DataW.weightsEach, List.mem_append] at hw
    obtain ⟨n, x, a1, a2⟩ := one_read (tab := tab) hT (hm t (by simp)) h1 (fun x hx => hw x (Or.inl hx)) (hv 0 t v rfl rfl)
    obtain ⟨xs, b1, b2, b3⟩ := args_read hT h2 (fun t ht => hm t (by simp [ht])) (fun x hx => hw x (Or.inr hx)) (fun j t v h1 h2 => hv (j + 1) t v (by simpa using h1) (by simpa using h2))
    refine ⟨avOf P t x :: xs, .cons n a1 b1, by simp [b2], fun j y u hy hu => ?_⟩
    cases j with
    | zero => simp at hy hu; subst hy; subst hu; exact a2
    | succ j => exact b3 j y u (by simpa using hy) (by simpa using hu)
  | [], [], _ :: _, _, h, _, _, _ => h.elim
  | [], _ :: _, _, _, h, _, _, _ => h.elim
  | _ :: _, [], _, _, h, _, _, _ => h.elim
  | _ :: _, _ :: _, [], _, h, _, _, _ => h.elim
/-- The arguments read behind the call as before it. -/
theorem trodAll_back {W W' : World} (hl : laidOutB P = true) (hb : Below W.heap.size W W') : ∀ {ts : List TypeId} {vs : List Value} {ds : List (DataW H)} {ps : List MemPlace}, ts.all (fun t => P.readableRec t && decide (t < P.types.size)) = true →
    DataW.TrodAll enc P W 0 (fun _ => true) true ts vs ds ps → DataW.TrodAll enc P W' 0 (fun b => decide (b < W.heap.size)) true ts vs ds ps
  | [], [], [], ps, _, h => h
  | t :: ts, v :: vs, d :: ds, ps, ht, ⟨p, q, h1, h2, h3⟩ => by
    simp only [List.all_cons, Bool.and_eq_true, decide_eq_true_eq] at ht
    exact ⟨p, q, Below.trod hl ht.1.1 ht.1.2 h1 hb (by obtain ⟨m, hm⟩ := h1; exact DataW.trod_lt m _ _ _ hm), trodAll_back hl hb ht.2 h2, h3⟩
  | [], [], _ :: _, _, _, h => h.elim
  | [], _ :: _, _, _, _, h => h.elim
  | _ :: _, [], _, _, _, h => h.elim
  | _ :: _, _ :: _, [], _, _, h => h.elim
/-- A law's call. -/
theorem law_calls {G : Nat → Option AFunc} {W : World} {f : Nat} {ts : List TypeId} {vs : List Value} {ds : List (DataW H)} {ps : List MemPlace} {r : Reach} {b0 : Nat} (L : Link P tab G) (hT : T.all (plainT P T) = true) (hts : ts.all (T.contains ·) = true)
    (law : ∀ xs, Args P ts xs → Den G f xs [] = some (.bool true, []))
    (h : DataW.TrodAll enc P W 0 (fun _ => true) true ts vs ds ps) (hw : ∀ x ∈ DataW.weightsEach P ts ds, x ≤ reachBytes) (hv : ∀ (j : Nat) t v, ts[j]? = some t → vs[j]? = some v → Value.okWide P W r b0 t v) :
    Calls P (tab f) vs.toArray W fun e W' => e = .returned (.bool true) ∧ Below W.heap.size W W' := by
  obtain ⟨xs, h1, h2, h3⟩ := args_read (tab := tab) (fun t ht => List.all_eq_true.1 hT t ht) h (fun t ht => by simpa using List.all_eq_true.1 hts t ht) hw hv
  refine (Den_calls L (law xs h1) rfl h2 h3).mono ?_
  rintro e W' ⟨v, rfl, hr, hb⟩
  cases hr
  exact ⟨rfl, hb⟩
end
end Go.Den
