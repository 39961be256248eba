/- Calls. -/
import Derived.Test.YtggelolphgcpgaaDenO
namespace Go.Den
open Go

section
variable {P : Program} {tab : Nat → Nat}
/-- Values of arguments. -/
def ArgsOk (tab : Nat → Nat) (w : World) (F : Nat → Prop) (σ : St) (γ : List Gh) (xs : List AV) (vs : List Value) : Prop := vs.length = xs.length ∧ ∀ (j : Nat) (x : AV) (v : Value), xs[j]? = some x → vs[j]? = some v → RS tab w F σ γ x v
/-- What a call comes to. -/
def CallPost (tab : Nat → Nat) (F : Nat → Prop) (w : World) (σ : St) (γ : List Gh) (r : AV) (σ' : St) (e : Ending) (w' : World) : Prop :=
  ∃ v γ', e = .returned v ∧ Step σ.length w σ γ w' σ' γ' ∧ Inv tab w' F σ' γ' ∧ RS tab w' F σ' γ' r v ∧ Fr σ.length σ σ'
def CallOk (P : Program) (tab : Nat → Nat) (call : CallF) : Prop := ∀ f args σ r σ', call f args σ = some (r, σ') → ∀ (w : World) (F : Nat → Prop) (γ : List Gh) (vals : List Value), Inv tab w F σ γ → ArgsOk tab w F σ γ args vals →
    Calls P (tab f) vals.toArray w (CallPost tab F w σ γ r σ')

theorem RF.iffS {w : World} {S S' : Nat → Prop} (h : ∀ b, S b → S' b) {x : AV} {v : Value} (hr : RF tab w S x v) : RF tab w S' x v := hr.mono fun b hb => ⟨h b hb, rfl⟩
theorem shiftSt_get (k : Nat) : ∀ (σ : St) (o : Nat), (shiftSt k σ)[o]? = (σ[o]?).map (Ob.shift k)
  | [], o => by simp [shiftSt]
  | x :: r, o => by
    cases o with
    | zero => simp [shiftSt]
    | succ o => simpa [shiftSt] using shiftSt_get k r o
theorem shiftSt_length (k : Nat) (σ : St) : (shiftSt k σ).length = σ.length := by
  induction σ with
  | nil => rfl
  | cons x r ih => simp [shiftSt, ih]
theorem shifts_get (k : Nat) (l : List AV) (j : Nat) : (shifts k l)[j]? = (l[j]?).map (AV.shift k) := by
  induction l generalizing j with
  | nil => simp [shifts, AV.shift.shifts]
  | cons x r ih =>
    cases j with
    | zero => simp [shifts, AV.shift.shifts]
    | succ j => simpa [shifts, AV.shift.shifts] using ih j
theorem shifts_length (k : Nat) (l : List AV) : (shifts k l).length = l.length := by
  induction l with
  | nil => rfl
  | cons x r ih => simpa [shifts, AV.shift.shifts] using ih
theorem shift_scalar (k : Nat) {x : AV} (h : x.scalar = true) : (x.shift k).scalar = true := by cases x <;> first | rfl | exact absurd h (by simp [AV.scalar])
theorem shiftPs_get (k : Nat) : ∀ (l : List (AV × AV)) (j : Nat), (shiftPs k l)[j]? = (l[j]?).map fun p => (p.1.shift k, p.2.shift k)
  | [], j => by simp [shiftPs]
  | (a, b) :: r, j => by
    cases j with
    | zero => simp [shiftPs]
    | succ j => simpa [shiftPs] using shiftPs_get k r j
theorem shiftPs_length (k : Nat) (l : List (AV × AV)) : (shiftPs k l).length = l.length := by
  induction l with
  | nil => rfl
  | cons x r ih => obtain ⟨a, b⟩ := x; simp [shiftPs, ih]
theorem RF.shift {w : World} {S : Nat → Prop} {x : AV} {v : Value} (k : Nat) (h : RF tab w S x v) : RF tab w S (x.shift k) v := by
  induction h with
  | fn f caps vs hl hs hr ih =>
    refine .fn f _ vs (by rw [shifts_length]; exact hl) (fun j x hx => ?_) (fun j x v hx hv => ?_)
    all_goals
      rw [shifts_get] at hx
      cases hc : caps[j]? with
      | none => simp [hc] at hx
      | some y => simp [hc] at hx; subst hx; first | exact shift_scalar k (hs j y hc) | exact ih j y v hc hv
  | agg cs vs hl hs hr ih =>
    refine .agg _ vs (by rw [shifts_length]; exact hl) (fun j x hx => ?_) (fun j x v hx hv => ?_)
    all_goals
      rw [shifts_get] at hx
      cases hc : cs[j]? with
      | none => simp [hc] at hx
      | some y => simp [hc] at hx; subst hx; first | exact shift_scalar k (hs j y hc) | exact ih j y v hc hv
  | tup cs vs hl hr ih =>
    refine .tup _ vs (by rw [shifts_length]; exact hl) (fun j x v hx hv => ?_)
    rw [shifts_get] at hx
    cases hc : cs[j]? with
    | none => simp [hc] at hx
    | some y => simp [hc] at hx; subst hx; exact ih j y v hc hv
  | iface t x v hr ih => exact .iface t _ v ih
  | int k n => exact .int k n
  | bool b => exact .bool b
  | str s => exact .str s
  | nilp => exact .nilp
  | rptr b off cs vs hb hc hs hr _ => exact .rptr b off cs vs hb hc hs hr
  | nils a => exact .nils a
  | sl0 a c => exact .sl0 a c
  | sl b off sz cap es vs hb hz hl hc hs hr _ => exact .sl b off sz cap es vs hb hz hl hc hs hr
  | nilfn => exact .nilfn
  | nilmap => exact .nilmap
  | fmap b es ms clock hb hh hl hk hr _ _ => exact .fmap b es ms clock hb hh hl hk hr
  | nilif => exact .nilif
  | nil0 c => exact .nil0 c
  | nne a c => exact .nne a c
theorem RV.shift {w : World} {S : Nat → Prop} {σ σr : St} {γ γr : List Gh} (hl : γ.length = σ.length) {x : AV} {v : Value} (h : RV tab w S σr γr x v) : RV tab w S (σ ++ shiftSt σ.length σr) (γ ++ γr) (x.shift σ.length) v := by
  have gs : ∀ (o : Nat) (x : Ob), σr[o]? = some x → (σ ++ shiftSt σ.length σr)[σ.length + o]? = some (x.shift σ.length) := by
    intro o x hx
    rw [List.getElem?_append_right (by omega), Nat.add_sub_cancel_left, shiftSt_get, hx]; rfl
  have gg : ∀ (o : Nat) (g : Gh), γr[o]? = some g → (γ ++ γr)[σ.length + o]? = some g := by
    intro o g hg
    rw [List.getElem?_append_right (by omega), hl, Nat.add_sub_cancel_left, hg]
  induction h with
  | fz x v h => exact .fz _ _ (h.shift _)
  | dead v => exact .dead v
  | ref o off g cs hs hg => exact .ref _ off g _ (gs o _ hs) (gg o g hg)
  | mapr o g es hs hg => exact .mapr _ g _ (gs o _ hs) (gg o g hg)
  | osl o ver n off len v hv h =>
    obtain ⟨x, g, hx, hg, h⟩ := h
    refine .osl _ _ _ _ _ _ hv ⟨_, g, gs o x hx, gg o g hg, ?_⟩
    cases x <;> exact h
  | eref o ver n i off v hv h =>
    obtain ⟨x, g, hx, hg, h⟩ := h
    refine .eref _ _ _ _ _ _ hv ⟨_, g, gs o x hx, gg o g hg, ?_⟩
    cases x <;> exact h
  | fn f caps vs hl hs hr ih =>
    refine .fn f _ vs (by rw [shifts_length]; exact hl) (fun j x hx => ?_) (fun j x v hx hv => ?_)
    all_goals
      rw [shifts_get] at hx
      cases hc : caps[j]? with
      | none => simp [hc] at hx
      | some y => simp [hc] at hx; subst hx; first | exact shift_scalar _ (hs j y hc) | exact ih j y v hc hv
  | agg cs vs hl hs hr ih =>
    refine .agg _ vs (by rw [shifts_length]; exact hl) (fun j x hx => ?_) (fun j x v hx hv => ?_)
    all_goals
      rw [shifts_get] at hx
      cases hc : cs[j]? with
      | none => simp [hc] at hx
      | some y => simp [hc] at hx; subst hx; first | exact shift_scalar _ (hs j y hc) | exact ih j y v hc hv
  | tup cs vs hl hr ih =>
    refine .tup _ vs (by rw [shifts_length]; exact hl) (fun j x v hx hv => ?_)
    rw [shifts_get] at hx
    cases hc : cs[j]? with
    | none => simp [hc] at hx
    | some y => simp [hc] at hx; subst hx; exact ih j y v hc hv
  | iface t x v hr ih => exact .iface t _ v ih
theorem RV.iffS {w : World} {S S' : Nat → Prop} {σ : St} {γ : List Gh} (h : ∀ b, S b → S' b) {x : AV} {v : Value} (hr : RV tab w S σ γ x v) : RV tab w S' σ γ x v := by
  induction hr with
  | fz x v hx => exact .fz x v (hx.iffS h)
  | dead v => exact .dead v
  | ref o off g cs hs hg => exact .ref o off g cs hs hg
  | mapr o g es hs hg => exact .mapr o g es hs hg
  | osl o ver n off len v hv h => exact .osl _ _ _ _ _ _ hv h
  | eref o ver n i off v hv h => exact .eref _ _ _ _ _ _ hv h
  | fn f caps vs hl hs _ ih => exact .fn f caps vs hl hs ih
  | agg cs vs hl hs _ ih => exact .agg cs vs hl hs ih
  | tup cs vs hl _ ih => exact .tup cs vs hl ih
  | iface t x v _ ih => exact .iface t x v ih
theorem ObOk.shift {w : World} {S S' : Nat → Prop} {σ σr : St} {γ γr : List Gh} (hS : ∀ b, S b → S' b) (hl : γ.length = σ.length) {x : Ob} {g : Gh} (h : ObOk tab w S σr γr x g) : ObOk tab w S' (σ ++ shiftSt σ.length σr) (γ ++ γr) (x.shift σ.length) g := by
  cases x with
  | dead => trivial
  | res => trivial
  | arr v sz es =>
    obtain ⟨h1, h2, h3, h4⟩ := h
    refine ⟨h1, h2, h3, fun hc => ?_⟩
    obtain ⟨vs, ty, e1, e2, e3⟩ := h4 hc
    exact ⟨vs, ty, e1, e2, fun i e he j x hx => by
      obtain ⟨u, u1, u2, u3⟩ := e3 i e he j x hx
      exact ⟨u, u1, u2, u3.iffS hS⟩⟩
  | cells cs =>
    obtain ⟨vs, ty, e1, e2, e3, e4⟩ := h
    refine ⟨vs, ty, e1, by rw [shifts_length]; exact e2, fun j x hx => ?_, fun j x v hx hv => ?_⟩
    all_goals
      rw [shifts_get] at hx
      cases hc : cs[j]? with
      | none => simp [hc] at hx
      | some y => simp [hc] at hx; subst hx; first | exact shift_scalar _ (e3 j y hc) | exact ((e4 j y v hc hv).iffS hS).shift hl
  | map es =>
    obtain ⟨ms, clock, e1, e2, e3⟩ := h
    refine ⟨ms, clock, e1, by rw [shiftPs_length]; exact e2, fun j p m hp hm => ?_⟩
    rw [shiftPs_get] at hp
    cases hc : es[j]? with
    | none => simp [hc] at hp
    | some y =>
      simp [hc] at hp; subst hp
      obtain ⟨q1, q2⟩ := e3 j y m hc hm
      exact ⟨(q1.iffS hS).shift _, (q2.iffS hS).shift hl⟩
theorem owns_shift (k : Nat) (x : Ob) (g : Gh) : owns (x.shift k) g = owns x g := by cases x <;> rfl

/-- A call that sees no objects, put back among the objects there are. -/
theorem join_ok {w w' : World} {F : Nat → Prop} {σ σr : St} {γ γr : List Gh} (I : Inv tab w F σ γ) (st : Step 0 w [] [] w' σr γr) (J : Inv tab w' (fun b => F b ∨ Owned σ γ b) σr γr) :
    Step σ.length w σ γ w' (σ ++ shiftSt σ.length σr) (γ ++ γr) ∧ Inv tab w' F (σ ++ shiftSt σ.length σr) (γ ++ γr) ∧ Fr σ.length σ (σ ++ shiftSt σ.length σr) ∧
      ∀ {x : AV} {v : Value}, RS tab w' (fun b => F b ∨ Owned σ γ b) σr γr x v → RS tab w' F (σ ++ shiftSt σ.length σr) (γ ++ γr) (x.shift σ.length) v := by
  have hl := I.len
  have get : ∀ (o : Nat) (x : Ob) (g : Gh), (σ ++ shiftSt σ.length σr)[o]? = some x → (γ ++ γr)[o]? = some g → (o < σ.length ∧ σ[o]? = some x ∧ γ[o]? = some g) ∨
      (σ.length ≤ o ∧ ∃ y, x = y.shift σ.length ∧ σr[o - σ.length]? = some y ∧ γr[o - σ.length]? = some g) := by
    intro o x g hx hg
    rcases Nat.lt_or_ge o σ.length with h | h
    · rw [List.getElem?_append_left h] at hx
      rw [List.getElem?_append_left (by omega)] at hg
      exact .inl ⟨h, hx, hg⟩
    · rw [List.getElem?_append_right h, shiftSt_get] at hx
      rw [List.getElem?_append_right (by omega), hl] at hg
      cases hy : σr[o - σ.length]? with
      | none => simp [hy] at hx
      | some y => simp [hy] at hx; exact .inr ⟨h, y, hx.symm, rfl, hg⟩
  have noOwn : ∀ b, ¬ Owned [] [] b := by rintro b ⟨o, x, g, h, _⟩; simp at h
  have own1 : ∀ b, Owned (σ ++ shiftSt σ.length σr) (γ ++ γr) b → Owned σ γ b ∨ Owned σr γr b := by
    rintro b ⟨o, x, g, h1, h2, h3, h4⟩
    rcases get o x g h1 h2 with ⟨_, q1, q2⟩ | ⟨_, y, rfl, q1, q2⟩
    · exact .inl ⟨o, x, g, q1, q2, h3, h4⟩
    · exact .inr ⟨_, y, g, q1, q2, by rw [owns_shift] at h3; exact h3, h4⟩
  have own2 : ∀ b, Owned σ γ b ∨ Owned σr γr b → Owned (σ ++ shiftSt σ.length σr) (γ ++ γr) b := by
    rintro b (⟨o, x, g, h1, h2, h3, h4⟩ | ⟨o, x, g, h1, h2, h3, h4⟩)
    · have ho := lt_of_get h1
      exact ⟨o, x, g, by rw [List.getElem?_append_left ho]; exact h1, by rw [List.getElem?_append_left (by omega)]; exact h2, h3, h4⟩
    · exact ⟨σ.length + o, x.shift σ.length, g, by rw [List.getElem?_append_right (by omega), Nat.add_sub_cancel_left, shiftSt_get, h1]; rfl, by rw [List.getElem?_append_right (by omega), hl, Nat.add_sub_cancel_left, h2], by rw [owns_shift]; exact h3, h4⟩
  have st2 : Step σ.length w σ γ w' (σ ++ shiftSt σ.length σr) (γ ++ γr) := by
    refine ⟨st.os, st.tape, st.output, st.size, fun b hb hn => ?_, Nat.le_refl _, by simp, fun o x g ho hx hg => ?_⟩
    · obtain ⟨q1, q2⟩ := st.keep b hb (noOwn b)
      exact ⟨q1, fun h => (own1 b h).elim hn q2⟩
    · exact ⟨x, g, by rw [List.getElem?_append_left ho]; exact hx, by rw [List.getElem?_append_left (by omega)]; exact hg, ObStep.refl x g⟩
  have hS : ∀ b, Stab w' (fun b => F b ∨ Owned σ γ b) σr γr b → Stab w' F (σ ++ shiftSt σ.length σr) (γ ++ γr) b := by
    rintro b ⟨h1, h2, h3⟩
    exact ⟨h1, fun hF => h2 (.inl hF), fun ho => (own1 b ho).elim (fun h => h2 (.inr h)) h3⟩
  refine ⟨st2, ⟨by simp [hl, J.len, shiftSt_length], fun b hb => Nat.lt_of_lt_of_le (I.fsz b hb) st.size, fun o x g hx hg => ?_, fun o x g hx hg ho => ?_, fun o o' x x' g g' h1 h2 h3 h4 h5 h6 h7 => ?_⟩, Fr.push (Nat.le_refl _) _, fun {x v} hr => (RV.iffS hS hr).shift hl⟩
  · rcases get o x g hx hg with ⟨ho, q1, q2⟩ | ⟨ho, y, rfl, q1, q2⟩
    · have h0 := I.ok o x g q1 q2
      exact h0.step st2 h0.under fun hw => (st.keep g.b (I.own o x g q1 q2 hw).1 (noOwn _)).1
    · exact (J.ok _ y g q1 q2).shift hS hl
  · rcases get o x g hx hg with ⟨ho', q1, q2⟩ | ⟨ho', y, rfl, q1, q2⟩
    · obtain ⟨k1, k2⟩ := I.own o x g q1 q2 ho
      exact ⟨Nat.lt_of_lt_of_le k1 st.size, k2⟩
    · rw [owns_shift] at ho
      obtain ⟨k1, k2⟩ := J.own _ y g q1 q2 ho
      exact ⟨k1, fun hF => k2 (.inl hF)⟩
  · rcases get o x g h1 h2 with ⟨ho, q1, q2⟩ | ⟨ho, y, rfl, q1, q2⟩ <;> rcases get o' x' g' h4 h5 with ⟨ho', q1', q2'⟩ | ⟨ho', y', rfl, q1', q2'⟩
    · exact I.inj o o' x x' g g' q1 q2 h3 q1' q2' h6 h7
    · rw [owns_shift] at h6
      exact ((J.own _ y' g' q1' q2' h6).2 (.inr ⟨o, x, g, q1, q2, h3, h7⟩)).elim
    · rw [owns_shift] at h3
      exact ((J.own _ y g q1 q2 h3).2 (.inr ⟨o', x', g', q1', q2', h6, h7.symm⟩)).elim
    · rw [owns_shift] at h3 h6
      have := J.inj _ _ y y' g g' q1 q2 h3 q1' q2' h6 h7
      omega
theorem inv_empty {w : World} {F : Nat → Prop} (h : ∀ b, F b → b < w.heap.size) : Inv tab w F [] [] :=
  ⟨rfl, h, fun o x g hx => by simp at hx, fun o x g hx => by simp at hx, fun o o' x x' g g' hx => by simp at hx⟩
theorem norms_args {w : World} {F : Nat → Prop} {σ : St} {γ : List Gh} {xs : List AV} {vs : List Value} (h : ArgsOk tab w F σ γ xs vs) : ArgsOk tab w F σ γ (norms xs) vs :=
  ⟨by rw [norms_length]; exact h.1, fun j x v hx hv => by
    rw [norms_get] at hx
    cases hc : xs[j]? with
    | none => simp [hc] at hx
    | some y => simp [hc] at hx; subst hx; exact (h.2 j y v hc hv).norm⟩
/-- A call at a place in the code. -/
theorem callOp_ok {call : CallF} (C : CallOk P tab call) {mode f : Nat} {args : List AV} {σ : St} {r : AV} {σ' : St} {t : Bool} (h : callOp call mode f args σ = some (r, σ', t)) {w : World} {F : Nat → Prop} {γ : List Gh} {vals : List Value} (I : Inv tab w F σ γ) (A : ArgsOk tab w F σ γ args vals) :
    Calls P (tab f) vals.toArray w (CallPost tab F w σ γ r σ') := by
  -- what is handed on
  have key : ∀ (as : List AV) (σ1 : St) (γ1 : List Gh), Step σ.length w σ γ w σ1 γ1 → Inv tab w F σ1 γ1 → Fr σ.length σ σ1 → σ1.length = σ.length → ArgsOk tab w F σ1 γ1 as vals →
      (if norefs as = true then
        match call f as [] with
        | none => none
        | some (r, σr) => if r.noref && σr.isEmpty then some (r, σ1, mode == 2) else some (r.shift σ1.length, σ1 ++ shiftSt σ1.length σr, true)
      else match call f as σ1 with
        | none => none
        | some (r, σ') => some (r, σ', true)) = some (r, σ', t) → Calls P (tab f) vals.toArray w (CallPost tab F w σ γ r σ') := by
    intro as σ1 γ1 st1 I1 fr1 hlen1 A1 h
    split at h
    · rename_i hn
      cases hc : call f as [] with
      | none => simp [hc] at h
      | some q =>
        obtain ⟨r0, σr⟩ := q
        simp only [hc] at h
        have hF : ∀ b, (F b ∨ Owned σ1 γ1 b) → b < w.heap.size := by
          rintro b (hb | ⟨o, x, g, h1, h2, h3, h4⟩)
          · exact I1.fsz b hb
          · rw [← h4]; exact (I1.own o x g h1 h2 h3).1
        have hS : ∀ b, Stab w F σ1 γ1 b → Stab w (fun b => F b ∨ Owned σ1 γ1 b) [] [] b := by
          rintro b ⟨h1, h2, h3⟩
          exact ⟨h1, fun hh => hh.elim h2 h3, by rintro ⟨o, x, g, h, _⟩; simp at h⟩
        have hA : ArgsOk tab w (fun b => F b ∨ Owned σ1 γ1 b) [] [] as vals := ⟨A1.1, fun j x v hx hv => .fz _ _ (((A1.2 j x v hx hv).frozen ((norefs_iff as).1 hn j x hx)).iffS hS)⟩
        refine Calls.mono (C f as [] r0 σr hc w _ [] vals (inv_empty hF) hA) ?_
        rintro e w' ⟨v, γr, rfl, st, J, hr, _⟩
        obtain ⟨j1, j2, j3, j4⟩ := join_ok I1 st J
        split at h
        · rename_i hne
          simp only [Bool.and_eq_true, List.isEmpty_iff] at hne
          obtain ⟨hn0, rfl⟩ := hne
          simp at h; obtain ⟨rfl, rfl, _⟩ := h
          have hγ : γr = [] := List.eq_nil_of_length_eq_zero (by simpa using J.len)
          subst hγ
          simp only [shiftSt, List.append_nil] at j1 j2 j3 j4
          have hrf := hr.frozen hn0
          refine ⟨v, γ1, rfl, st1.trans (j1.mono (by omega)), j2, .fz _ _ (hrf.iffS ?_), fr1⟩
          rintro b ⟨h1, h2, h3⟩
          exact ⟨h1, fun hF => h2 (.inl hF), fun ho => h2 (.inr ho)⟩
        · simp at h; obtain ⟨rfl, rfl, _⟩ := h
          exact ⟨v, _, rfl, st1.trans (j1.mono (by omega)), j2, j4 hr, fr1.trans (by rw [← hlen1]; exact j3)⟩
    · cases hc : call f as σ1 with
      | none => simp [hc] at h
      | some q =>
        obtain ⟨r0, σ2⟩ := q
        simp [hc] at h; obtain ⟨rfl, rfl, _⟩ := h
        refine Calls.mono (C f as σ1 _ _ hc w F γ1 vals I1 A1) ?_
        rintro e w' ⟨v, γ', rfl, st, J, hr, fr⟩
        exact ⟨v, γ', rfl, st1.trans (st.mono (by omega)), J, hr, fr1.trans (by rw [← hlen1]; exact fr)⟩
  unfold callOp at h
  split at h
  · exact absurd h (by simp)
  · rename_i as σ1 hsel
    split at hsel
    · simp at hsel; obtain ⟨rfl, rfl⟩ := hsel
      exact key args σ γ (Step.refl w γ (Nat.le_refl _)) I (Fr.refl _ _) rfl A h
    · split at hsel
      · obtain ⟨ds, hd, e⟩ := Option.map_eq_some_iff.1 hsel
        simp at e; obtain ⟨rfl, rfl⟩ := e
        obtain ⟨g1, g2⟩ := frzs_get hd
        have hl : ∀ o ∈ oslIns args, ∃ v sz es, σ[o]? = some (.arr v sz es) := fun o ho => frz_arr.go args hd ho
        obtain ⟨k1, k2, k3⟩ := killL_ok I hl
        rw [kill_eq.kills_eq] at h
        refine key ds _ γ k1 k2 (k3 _) (killL_length _ _) ⟨by rw [g1]; exact A.1, fun j y v hy hv => ?_⟩ h
        obtain ⟨x, hx, hf⟩ := g2 j y hy
        exact frz_read I hl (A.2 j x v hx hv) hf (fun o ho => mem_oslIns.2 ⟨x, List.mem_of_getElem? hx, ho⟩)
      · simp at hsel; obtain ⟨rfl, rfl⟩ := hsel
        exact key _ σ γ (Step.refl w γ (Nat.le_refl _)) I (Fr.refl _ _) rfl (norms_args A) h
theorem bare_open {w w' : World} {S S' : Nat → Prop} {x : AV} {v : Value} (h : RF tab w S x v) : x.bare = true → RF tab w' S' x v := by
  induction h with
  | int k n => exact fun _ => .int k n
  | bool b => exact fun _ => .bool b
  | str s => exact fun _ => .str s
  | agg cs vs hl hs hr ih => exact fun hb => .agg cs vs hl hs fun j x v hx hv => ih j x v hx hv (bares_get hb hx)
  | tup cs vs hl hr ih => exact fun hb => .tup cs vs hl fun j x v hx hv => ih j x v hx hv (bares_get hb hx)
  | _ => exact fun hb => absurd hb (by simp [AV.bare])
where bares_get : ∀ {cs : List AV}, bares cs = true → ∀ {j : Nat} {x : AV}, cs[j]? = some x → x.bare = true
  | [], _, j, x, hx => by simp at hx
  | y :: r, hb, j, x, hx => by
    simp only [bares, AV.bare.bares, Bool.and_eq_true] at hb
    cases j with
    | zero => simp at hx; exact hx ▸ hb.1
    | succ j => exact bares_get hb.2 (by simpa using hx)
theorem bare_noref : ∀ {x : AV}, x.bare = true → x.noref = true
  | .int _ _, _ | .bool _, _ | .str _, _ => rfl
  | .agg cs, h => go cs h
  | .tup cs, h => go cs h
where go : ∀ cs : List AV, bares cs = true → norefs cs = true
  | [], _ => rfl
  | x :: r, h => by
    simp only [bares, AV.bare.bares, Bool.and_eq_true] at h
    simp only [norefs, AV.noref.norefs, Bool.and_eq_true]
    exact ⟨bare_noref h.1, go r h.2⟩
/-- A call that only looks. -/
theorem viewOp_ok {call : CallF} (C : CallOk P tab call) {f : Nat} {args : List AV} {σ : St} {r : AV} {σ' : St} {t : Bool} (h : viewOp call f args σ = some (r, σ', t)) {w : World} {F : Nat → Prop} {γ : List Gh} {vals : List Value} (I : Inv tab w F σ γ) (A : ArgsOk tab w F σ γ args vals) :
    Calls P (tab f) vals.toArray w (CallPost tab F w σ γ r σ') := by
  unfold viewOp at h
  split at h
  case isFalse => exact absurd h (by simp)
  cases hd : frzs σ args with
  | none => simp [hd] at h
  | some as =>
    rw [hd] at h
    simp only [Option.bind_some] at h
    split at h
    · rename_i hn
      cases hc : call f as [] with
      | none => simp [hc] at h
      | some q =>
        obtain ⟨r0, σr⟩ := q
        simp only [hc, Option.bind_some] at h
        split at h
        · rename_i hb
          simp only [Bool.and_eq_true, List.isEmpty_iff] at hb
          obtain ⟨hb0, rfl⟩ := hb
          simp at h; obtain ⟨rfl, rfl, _⟩ := h
          obtain ⟨g1, g2⟩ := frzs_get hd
          have hl : ∀ o ∈ oslIns args, ∃ v sz es, σ[o]? = some (.arr v sz es) := fun o ho => frz_arr.go args hd ho
          obtain ⟨k1, k2, k3⟩ := killL_ok I hl
          have A1 : ArgsOk tab w F (killL σ (oslIns args)) γ as vals := ⟨by rw [g1]; exact A.1, fun j y v hy hv => by
            obtain ⟨x, hx, hf⟩ := g2 j y hy
            exact frz_read I hl (A.2 j x v hx hv) hf (fun o ho => mem_oslIns.2 ⟨x, List.mem_of_getElem? hx, ho⟩)⟩
          have hF : ∀ b, (F b ∨ Owned (killL σ (oslIns args)) γ b) → b < w.heap.size := by
            rintro b (hb | ⟨o, x, g, h1, h2, h3, h4⟩)
            · exact k2.fsz b hb
            · rw [← h4]; exact (k2.own o x g h1 h2 h3).1
          have hS : ∀ b, Stab w F (killL σ (oslIns args)) γ b → Stab w (fun b => F b ∨ Owned (killL σ (oslIns args)) γ b) [] [] b := by
            rintro b ⟨h1, h2, h3⟩
            exact ⟨h1, fun hh => hh.elim h2 h3, by rintro ⟨o, x, g, h, _⟩; simp at h⟩
          have hA : ArgsOk tab w (fun b => F b ∨ Owned (killL σ (oslIns args)) γ b) [] [] as vals := ⟨A1.1, fun j x v hx hv => .fz _ _ (((A1.2 j x v hx hv).frozen ((norefs_iff as).1 hn j x hx)).iffS hS)⟩
          refine Calls.mono (C f as [] r0 [] hc w _ [] vals (inv_empty hF) hA) ?_
          rintro e w' ⟨v, γr, rfl, st, J, hr, _⟩
          have hγ : γr = [] := List.eq_nil_of_length_eq_zero (by simpa using J.len)
          subst hγ
          have hF0 : ∀ b, (F b ∨ Owned σ γ b) → b < w.heap.size := by
            rintro b (hb | ⟨o, x, g, h1, h2, h3, h4⟩)
            · exact I.fsz b hb
            · rw [← h4]; exact (I.own o x g h1 h2 h3).1
          have st0 : Step ([] : St).length w [] [] w' [] [] := st
          have J0 : Inv tab w' (fun b => F b ∨ Owned σ γ b) [] [] := inv_empty fun b hb => Nat.lt_of_lt_of_le (hF0 b hb) st.size
          obtain ⟨j1, j2, j3, j4⟩ := join_ok I st0 J0
          simp only [shiftSt, List.append_nil] at j1 j2 j3 j4
          exact ⟨v, γ, rfl, j1, j2, .fz _ _ (bare_open (hr.frozen (bare_noref hb0)) hb0), Fr.refl _ _⟩
        · exact absurd h (by simp)
    · exact absurd h (by simp)
theorem callX_ok {call : CallF} (C : CallOk P tab call) {mode f : Nat} {args : List AV} {σ : St} {r : AV} {σ' : St} {t : Bool} (h : callX call mode f args σ = some (r, σ', t)) {w : World} {F : Nat → Prop} {γ : List Gh} {vals : List Value} (I : Inv tab w F σ γ) (A : ArgsOk tab w F σ γ args vals) :
    Calls P (tab f) vals.toArray w (CallPost tab F w σ γ r σ') := by
  unfold callX at h
  split at h
  · exact viewOp_ok C h I A
  · exact callOp_ok C h I A
end
end Go.Den
