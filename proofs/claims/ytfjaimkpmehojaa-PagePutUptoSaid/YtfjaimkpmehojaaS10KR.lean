/- Ch. 10: the row of PagePut: what the bound on the reading gives. -/
import Derived.Test.YtfjaimkpmehojaaS10K
import Derived.Test.YtfjaimkpmehojaaSh10
import Derived.Test.YtfjaimkpmehojaaFn10Link
import Derived.Below
namespace Go.Den
open Go Go.Proofs Go.ChangeShapes Go.WideShapes Go.ChangeAt Go.RowKit
set_option linter.unusedSimpArgs false
set_option linter.unusedVariables false
set_option maxRecDepth 100000
set_option maxHeartbeats 1000000
def dlen {H : Type} : DataW H → Nat
  | .slice el _ => el.length
  | _ => 0
section
variable {P : Program} {tab : Nat → Nat} {T : List TypeId} {H : Type} {enc : TypeId × Value → H}
theorem law_calls_at {G : Nat → Option AFunc} {W : World} {f : Nat} {ts : List TypeId} {vs : List Value} {ds : List (DataW H)} {ps : List MemPlace} {r : Reach} {b0 : Nat} (L : Link P tab G) (hT : T.all (plainT P T) = true) (hts : ts.all (T.contains ·) = true)
    (law : ∀ xs, Args P ts xs → vs.length = xs.length → (∀ (j : Nat) x v, xs[j]? = some x → vs[j]? = some v → RF tab W (fun b => b < W.heap.size) x v) → Den G f xs [] = some (.bool true, []))
    (h : DataW.TrodAll enc P W 0 (fun _ => true) true ts vs ds ps) (hw : ∀ x ∈ DataW.weightsEach P ts ds, x ≤ reachBytes) (hv : ∀ (j : Nat) t v, ts[j]? = some t → vs[j]? = some v → Value.okWide P W r b0 t v) (hg : GOk tab W (fun b => b < W.heap.size)) :
    Calls P (tab f) vs.toArray W fun e W' => e = .returned (.bool true) ∧ Below W.heap.size W W' := by
  obtain ⟨xs, h1, h2, h3⟩ := args_read (tab := tab) (fun t ht => List.all_eq_true.1 hT t ht) h (fun t ht => by simpa using List.all_eq_true.1 hts t ht) hw hv
  refine (Den_calls L (law xs h1 h2 h3) rfl h2 h3 hg).mono ?_
  rintro e W' ⟨v, rfl, hr, hb⟩
  cases hr
  exact ⟨rfl, hb⟩
theorem up_slice {w : World} {S : Nat → Prop} {t e : TypeId} (hu : P.underlying t = some (.slice e)) {v : Value} {d : DataW H} {ps : List MemPlace} (h : DataW.Trod enc P w 0 (fun _ => true) true t v d ps) {es : List (List AV)} (hr : RF tab w S (.sl es) v) : es.length ≤ dlen d := by
  obtain ⟨n, h⟩ := h
  rcases DataW.trod_slice hu h with ⟨hc, hx⟩ | ⟨a, len, cap, elems, rest, n', hn, hc, hx, _, hlc, hm, hlen, hel, _, _⟩
  · cases hr with
    | sl0 a c => simp
    | sl b off sz cap es vs => simp [Value.cells] at hc
  · obtain ⟨rfl, rfl⟩ := Prod.mk.inj hx
    cases hr with
    | sl0 a c => simp
    | sl b off sz cap es vs =>
      simp [Value.cells] at hc
      simp [dlen]; omega
end
theorem row_PP {W : World} {S : Nat → Prop} {H : Type} {enc : TypeId × Value → H} {vs : List Value} {d0 d1 d2 : DataW H} {p : List MemPlace}
    (hA : DataW.TrodAll enc Try.prog W 0 (fun _ => true) true [31, 29, 3] vs [d0, d1, d2] p) (hd : dlen d1 ≤ 1048576)
    (xs : List AV) (h : Args Try.prog [31, 29, 3] xs) (hl : vs.length = xs.length) (hrf : ∀ (j : Nat) x v, xs[j]? = some x → vs[j]? = some v → RF tab W S x v) : Den prog 507 xs [] = some (.bool true, []) := by
  obtain ⟨n, x, ys, rfl, h1, h⟩ := h.one
  obtain ⟨n2, x2, ys2, rfl, h2, h⟩ := h.one
  obtain ⟨n3, x3, ys3, rfl, h3, h⟩ := h.one
  cases h.none
  obtain ⟨q, rfl, hk, hr, hb⟩ := sh_page h1
  obtain ⟨b, rfl, _⟩ := sh_bytes h2
  obtain ⟨a, rfl, _⟩ := sh_int h3
  simp only [avOf, Try.underlying31, Try.underlying29, Try.underlying3] at hrf ⊢
  match vs, hA with
  | v0 :: v1 :: vs, ⟨p0, q0, _, ⟨p1, q1, t1, _, _⟩, _⟩ =>
  have hb1 := up_slice Try.underlying29 t1 (hrf 1 _ v1 rfl rfl)
  rw [List.length_map] at hb1
  exact L10_Put q b a hk hr hb (by omega)
end Go.Den
