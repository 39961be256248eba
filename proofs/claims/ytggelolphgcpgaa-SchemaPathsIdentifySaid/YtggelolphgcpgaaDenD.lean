/- What a change of one object leaves; reading memory. -/
import Derived.Test.YtggelolphgcpgaaDenC
import Derived.Laws.CopyRow
import Derived.Laws.Cells
import Derived.Laws.Sem
namespace Go.Den
open Go

section
variable {tab : Nat → Nat}
theorem ObOk.under {w : World} {S : Nat → Prop} {σ : St} {γ : List Gh} {x : Ob} {g : Gh} (h : ObOk tab w S σ γ x g) : x.under σ.length = true := by
  cases x with
  | dead => rfl
  | res => rfl
  | arr => rfl
  | cells cs =>
    obtain ⟨vs, ty, _, hl, _, hr⟩ := h
    simp only [Ob.under]
    rw [unders_iff]
    intro j x hx
    have : j < vs.size := by have := lt_of_get hx; omega
    exact (hr j x vs[j] hx (Array.getElem?_eq_getElem this)).under
  | map es =>
    obtain ⟨ms, clock, _, hl, hr⟩ := h
    simp only [Ob.under]
    rw [List.all_eq_true]
    intro p hp
    obtain ⟨j, hj, e⟩ := List.getElem_of_mem hp
    have hj' : j < ms.size := by omega
    obtain ⟨h1, h2⟩ := hr j p ms[j] (by rw [List.getElem?_eq_getElem hj, e]) (Array.getElem?_eq_getElem hj')
    simp [noref_under _ h1.noref, h2.under]
theorem ObOk.step {m : Nat} {w w1 : World} {F : Nat → Prop} {σ σ1 : St} {γ γ1 : List Gh} (a : Step m w σ γ w1 σ1 γ1) {x : Ob} {g : Gh} (h : ObOk tab w (Stab w F σ γ) σ γ x g)
    (hu : x.under m = true) (hb : owns x g = true → w1.heap[g.b]? = w.heap[g.b]?) : ObOk tab w1 (Stab w1 F σ1 γ1) σ1 γ1 x g := by
  cases x with
  | dead => trivial
  | res => trivial
  | arr v sz es =>
    obtain ⟨h1, h2, h3, h4⟩ := h
    refine ⟨h1, h2, h3, fun hc => ?_⟩
    obtain ⟨vs, ty, e1, e2, e3⟩ := h4 hc
    refine ⟨vs, ty, by rw [hb (by simp [owns, hc])]; exact e1, e2, fun i e he j x hx => ?_⟩
    obtain ⟨v, q1, q2, q3⟩ := e3 i e he j x hx
    exact ⟨v, q1, q2, q3.mono fun b hb => a.stab hb⟩
  | cells cs =>
    obtain ⟨vs, ty, e1, hl, hs, hr⟩ := h
    simp only [Ob.under] at hu
    rw [unders_iff] at hu
    exact ⟨vs, ty, by rw [hb rfl]; exact e1, hl, hs, fun j x v hx hv => (hr j x v hx hv).step a (hu j x hx)⟩
  | map es =>
    obtain ⟨ms, clock, e1, hl, hr⟩ := h
    simp only [Ob.under] at hu
    rw [List.all_eq_true] at hu
    refine ⟨ms, clock, by rw [hb rfl]; exact e1, hl, fun j p m hp hm => ?_⟩
    obtain ⟨h1, h2⟩ := hr j p m hp hm
    have := hu p (List.mem_of_getElem? hp)
    simp at this
    exact ⟨h1.mono fun b hb => a.stab hb, h2.step a this.2⟩

/-- One object (the k-th) may turn; of the heap only what it owned, and what is new. -/
theorem change {w w1 : World} {F : Nat → Prop} {σ σ1 : St} {γ γ1 : List Gh} (k : Nat) (I : Inv tab w F σ γ)
    (hos : w1.os = w.os) (htape : w1.tape = w.tape) (hout : w1.output = w.output) (hsize : w.heap.size ≤ w1.heap.size)
    (hoth : ∀ o, o ≠ k → σ1[o]? = σ[o]? ∧ γ1[o]? = γ[o]?) (hlen : σ.length ≤ σ1.length) (hγ : γ1.length = σ1.length)
    (hheap : ∀ b, b < w.heap.size → w1.heap[b]? = w.heap[b]? ∨ ∃ x g, σ[k]? = some x ∧ γ[k]? = some g ∧ owns x g = true ∧ g.b = b)
    (hk : ∀ x g, σ1[k]? = some x → γ1[k]? = some g → owns x g = true → (w.heap.size ≤ g.b ∧ g.b < w1.heap.size) ∨ ∃ x0 g0, σ[k]? = some x0 ∧ γ[k]? = some g0 ∧ owns x0 g0 = true ∧ g.b = g0.b)
    (hs : ∀ x g, σ[k]? = some x → γ[k]? = some g → ∃ x' g', σ1[k]? = some x' ∧ γ1[k]? = some g' ∧ ObStep x g x' g') :
    Step σ.length w σ γ w1 σ1 γ1 ∧ ((∀ x g, σ1[k]? = some x → γ1[k]? = some g → ObOk tab w1 (Stab w1 F σ1 γ1) σ1 γ1 x g) → Inv tab w1 F σ1 γ1) := by
  have st : Step σ.length w σ γ w1 σ1 γ1 := by
    refine ⟨hos, htape, hout, hsize, fun b hb hn => ⟨?_, ?_⟩, Nat.le_refl _, hlen, ?_⟩
    · rcases hheap b hb with h | ⟨x, g, h1, h2, h3, h4⟩
      · exact h
      · exact (hn ⟨k, x, g, h1, h2, h3, h4⟩).elim
    · rintro ⟨o, x, g, h1, h2, h3, h4⟩
      by_cases ho : o = k
      · subst ho
        rcases hk x g h1 h2 h3 with h | ⟨x0, g0, q1, q2, q3, q4⟩
        · omega
        · exact hn ⟨o, x0, g0, q1, q2, q3, by omega⟩
      · rw [(hoth o ho).1] at h1
        rw [(hoth o ho).2] at h2
        exact hn ⟨o, x, g, h1, h2, h3, h4⟩
    · intro o x g ho hx hg
      by_cases e : o = k
      · subst e; exact hs x g hx hg
      · exact ⟨x, g, by rw [(hoth o e).1]; exact hx, by rw [(hoth o e).2]; exact hg, ObStep.refl x g⟩
  refine ⟨st, fun hok => ⟨hγ, fun b hb => Nat.lt_of_lt_of_le (I.fsz b hb) hsize, ?_, ?_, ?_⟩⟩
  · intro o x g hx hg
    by_cases e : o = k
    · subst e; exact hok x g hx hg
    · rw [(hoth o e).1] at hx
      rw [(hoth o e).2] at hg
      have h0 := I.ok o x g hx hg
      refine h0.step st h0.under fun ho => ?_
      rcases hheap g.b (I.own o x g hx hg ho).1 with h | ⟨x', g', h1, h2, h3, h4⟩
      · exact h
      · exact (e (I.inj o k x x' g g' hx hg ho h1 h2 h3 h4.symm)).elim
  · intro o x g hx hg ho
    by_cases e : o = k
    · subst e
      rcases hk x g hx hg ho with h | ⟨x0, g0, q1, q2, q3, q4⟩
      · exact ⟨h.2, fun hF => by have := I.fsz _ hF; omega⟩
      · have := I.own o x0 g0 q1 q2 q3
        rw [q4]; exact ⟨by omega, this.2⟩
    · rw [(hoth o e).1] at hx
      rw [(hoth o e).2] at hg
      have := I.own o x g hx hg ho
      exact ⟨by omega, this.2⟩
  · intro o o' x x' g g' h1 h2 h3 h4 h5 h6 h7
    have old : ∀ (o : Nat) (x : Ob) (g : Gh), σ1[o]? = some x → γ1[o]? = some g → owns x g = true → (o = k ∧ w.heap.size ≤ g.b) ∨ ∃ x0 g0, σ[o]? = some x0 ∧ γ[o]? = some g0 ∧ owns x0 g0 = true ∧ g.b = g0.b := by
      intro o x g h1 h2 h3
      by_cases e : o = k
      · subst e
        rcases hk x g h1 h2 h3 with h | h
        · exact .inl ⟨rfl, h.1⟩
        · exact .inr h
      · rw [(hoth o e).1] at h1
        rw [(hoth o e).2] at h2
        exact .inr ⟨x, g, h1, h2, h3, rfl⟩
    rcases old o x g h1 h2 h3 with ⟨e, q⟩ | ⟨x0, g0, q1, q2, q3, q4⟩ <;> rcases old o' x' g' h4 h5 h6 with ⟨e', q'⟩ | ⟨x0', g0', q1', q2', q3', q4'⟩
    · omega
    · have := (I.own o' x0' g0' q1' q2' q3').1; omega
    · have := (I.own o x0 g0 q1 q2 q3).1; omega
    · exact I.inj o o' x0 x0' g0 g0' q1 q2 q3 q1' q2' q3' (by omega)

/-- Nothing that is owned turns. -/
theorem still {w w1 : World} {F : Nat → Prop} {σ : St} {γ : List Gh} (I : Inv tab w F σ γ)
    (hos : w1.os = w.os) (htape : w1.tape = w.tape) (hout : w1.output = w.output) (hsize : w.heap.size ≤ w1.heap.size)
    (hheap : ∀ b, b < w.heap.size → w1.heap[b]? = w.heap[b]?) : Step σ.length w σ γ w1 σ γ ∧ Inv tab w1 F σ γ := by
  have hn : σ[σ.length]? = none := List.getElem?_eq_none (Nat.le_refl _)
  obtain ⟨h1, h2⟩ := change (w1 := w1) (σ1 := σ) (γ1 := γ) σ.length I hos htape hout hsize (fun o _ => ⟨rfl, rfl⟩) (Nat.le_refl _) I.len (fun b hb => .inl (hheap b hb))
    (fun x g h => by rw [hn] at h; exact absurd h (by simp)) (fun x g h => by rw [hn] at h; exact absurd h (by simp))
  exact ⟨h1, h2 fun x g h => by rw [hn] at h; exact absurd h (by simp)⟩

theorem add_none (b off n : Nat) : (⟨b, off, none⟩ : Addr).add n = ⟨b, off + n, none⟩ := by
  unfold Addr.add; split <;> simp_all

/-- What an address leads to. -/
theorem deref_ok {w : World} {F : Nat → Prop} {σ : St} {γ : List Gh} (I : Inv tab w F σ γ) {x : AV} {v : Value} (h : RS tab w F σ γ x v) {cs : List AV} {t : Bool} (hd : deref σ x = some (cs, t)) :
    ∃ b off, v = .pointer (some ⟨b, off, none⟩) ∧ ∀ (j : Nat) (y : AV), cs[j]? = some y → ∃ u, w.cell? ⟨b, off + j, none⟩ = some u ∧ RS tab w F σ γ y u ∧ y.scalar = true := by
  cases x with
  | rptr cs0 =>
    simp only [deref, Option.some.injEq, Prod.mk.injEq] at hd
    obtain ⟨rfl, rfl⟩ := hd
    cases h.frozen rfl with
    | rptr b off _ vs hb hc hs hr => exact ⟨b, off, rfl, fun j y hy => ⟨vs j, hc j y hy, .fz _ _ (hr j y hy), hs j y hy⟩⟩
  | ref o off =>
    cases h with
    | fz _ _ h => exact absurd h.noref (by simp [AV.noref])
    | ref _ _ g cs0 hs hg =>
      simp only [deref, hs, Option.some.injEq, Prod.mk.injEq] at hd
      obtain ⟨rfl, rfl⟩ := hd
      obtain ⟨vs, ty, h1, h2, h3, h4⟩ := I.ok o _ g hs hg
      refine ⟨g.b, off, rfl, fun j y hy => ?_⟩
      rw [List.getElem?_drop] at hy
      have hj : off + j < vs.size := by have := lt_of_get hy; omega
      exact ⟨vs[off + j], by simp [World.cell?, h1, Array.getElem?_eq_getElem hj], h4 _ y _ hy (Array.getElem?_eq_getElem hj), h3 _ y hy⟩
  | eref o ver n i off =>
    cases h with
    | fz _ _ h => exact absurd h.noref (by simp [AV.noref])
    | eref _ _ _ _ _ _ _ h =>
      obtain ⟨x, g, hx, hg, h⟩ := h
      simp only [deref, hx] at hd
      cases x with
      | arr ver' sz es =>
        simp only [] at hd h
        split at hd
        · rename_i hv
          obtain ⟨rfl, hn⟩ := hv
          split at hd
          · rename_i e he
            simp only [Option.some.injEq, Prod.mk.injEq] at hd
            obtain ⟨rfl, rfl⟩ := hd
            have hi := lt_of_get he
            have hv := h.2 rfl hn.symm (by omega)
            obtain ⟨k1, k2, k3, k4⟩ := I.ok o _ g hx hg
            obtain ⟨vs, ty, q1, q2, q3⟩ := k4 (by omega)
            refine ⟨g.b, _, hv, fun j y hy => ?_⟩
            rw [List.getElem?_drop] at hy
            obtain ⟨u, u1, u2, u3⟩ := q3 i e he _ y hy
            exact ⟨u, by simp only [World.cell?, q1]; simp; rw [← u1]; congr 1; omega, .fz _ _ u3, u2⟩
          · exact absurd hd (by simp)
        · exact absurd hd (by simp)
      | _ => simp at hd
  | _ => simp [deref] at hd

/-- What a slice holds. -/
theorem elems_ok {w : World} {F : Nat → Prop} {σ : St} {γ : List Gh} (I : Inv tab w F σ γ) {x : AV} {v : Value} (h : RS tab w F σ γ x v) {es : List (List AV)} {t : Bool} (hd : elems σ x = some (es, t)) :
    ∃ a cap, v = .slice a es.length cap ∧ es.length ≤ cap ∧ (es = [] ∨ ∃ b off sz, a = some ⟨b, off, none⟩ ∧ (∀ e ∈ es, e.length = sz) ∧
      ∀ (i : Nat) (e : List AV), es[i]? = some e → ∀ (j : Nat) (y : AV), e[j]? = some y → ∃ u, w.cell? ⟨b, off + i * sz + j, none⟩ = some u ∧ RF tab w (Stab w F σ γ) y u ∧ y.scalar = true) := by
  cases x with
  | nils =>
    simp only [elems, Option.some.injEq, Prod.mk.injEq] at hd
    obtain ⟨rfl, rfl⟩ := hd
    cases h with
    | fz _ _ h => cases h with
      | nils a => exact ⟨a, 0, rfl, Nat.le_refl _, .inl rfl⟩
  | sl es0 =>
    simp only [elems, Option.some.injEq, Prod.mk.injEq] at hd
    obtain ⟨rfl, rfl⟩ := hd
    cases h with
    | fz _ _ h => cases h with
      | sl0 a c => exact ⟨a, c, rfl, Nat.zero_le _, .inl rfl⟩
      | sl b off sz cap _ vs hb hz hl hc hs hr => exact ⟨_, cap, rfl, hl, .inr ⟨b, off, sz, rfl, hz, fun i e he j y hy => ⟨vs i j, hc i e he j y hy, hr i e he j y hy, hs i e he j y hy⟩⟩⟩
  | osl o ver n off len =>
    cases h with
    | fz _ _ h => exact absurd h.noref (by simp [AV.noref])
    | osl _ _ _ _ _ _ _ h =>
      obtain ⟨x, g, hx, hg, h⟩ := h
      simp only [elems, hx] at hd
      cases x with
      | arr ver' sz es0 =>
        simp only [] at hd h
        split at hd
        · rename_i hv
          obtain ⟨rfl, hn, ho⟩ := hv
          simp only [Option.some.injEq, Prod.mk.injEq] at hd
          obtain ⟨rfl, rfl⟩ := hd
          obtain ⟨a, hv, ha⟩ := h.2 rfl hn.symm ho
          obtain ⟨k1, k2, k3, k4⟩ := I.ok o _ g hx hg
          have hl : ((es0.drop off).take len).length = len := by simp; omega
          refine ⟨a, _, by rw [hl]; exact hv, by omega, ?_⟩
          by_cases h0 : len = 0
          · subst h0; exact .inl (by simp)
          · refine .inr ⟨g.b, g.base + off * sz, sz, ha (by omega), fun e he => k3 e (List.mem_of_mem_drop (List.mem_of_mem_take he)), fun i e he j y hy => ?_⟩
            obtain ⟨vs, ty, q1, q2, q3⟩ := k4 (by omega)
            have hi : i < len := by have := lt_of_get he; omega
            rw [List.getElem?_take_of_lt hi, List.getElem?_drop] at he
            obtain ⟨u, u1, u2, u3⟩ := q3 _ e he _ y hy
            refine ⟨u, ?_, u3, u2⟩
            simp only [World.cell?, q1]
            simp
            rw [← u1]
            congr 1
            rw [Nat.add_mul]; omega
        · exact absurd hd (by simp)
      | _ => simp at hd
  | nil0 =>
    simp only [elems, Option.some.injEq, Prod.mk.injEq] at hd
    obtain ⟨rfl, rfl⟩ := hd
    cases h with
    | fz _ _ h => cases h with
      | nil0 c => exact ⟨none, c, rfl, Nat.zero_le _, .inl rfl⟩
  | nne =>
    simp only [elems, Option.some.injEq, Prod.mk.injEq] at hd
    obtain ⟨rfl, rfl⟩ := hd
    cases h with
    | fz _ _ h => cases h with
      | nne a c => exact ⟨some a, c, rfl, Nat.zero_le _, .inl rfl⟩
  | _ => simp [elems] at hd
end
end Go.Den
