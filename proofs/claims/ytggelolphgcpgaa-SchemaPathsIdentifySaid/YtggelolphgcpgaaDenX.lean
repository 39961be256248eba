/- Returning; the theorem on calls. -/
import Derived.Test.YtggelolphgcpgaaDenW
namespace Go.Den
open Go

section
variable {P : Program} {tab : Nat → Nat}
/-- One owned row is kept, in the place 'base'. -/
theorem keep_one {w : World} {F : Nat → Prop} {base o : Nat} {σ : St} {γ : List Gh} {ver sz : Nat} {es : List (List AV)} {g : Gh} (I : Inv tab w F σ γ) (hb : base ≤ σ.length) (hf : FrameOk base σ) (ho : base ≤ o) (hx : σ[o]? = some (.arr ver sz es)) (hg : γ[o]? = some g) :
    Step base w σ γ w (σ.take base ++ [.arr ver sz es]) (γ.take base ++ [g]) ∧ Inv tab w F (σ.take base ++ [.arr ver sz es]) (γ.take base ++ [g]) ∧ Fr base σ (σ.take base ++ [.arr ver sz es]) := by
  have hl := I.len
  have tl : (σ.take base).length = base := by simp; omega
  have tg : (γ.take base).length = base := by simp; omega
  have get : ∀ (k : Nat) (x : Ob) (g' : Gh), (σ.take base ++ [.arr ver sz es])[k]? = some x → (γ.take base ++ [g])[k]? = some g' → (k < base ∧ σ[k]? = some x ∧ γ[k]? = some g') ∨ (k = base ∧ x = .arr ver sz es ∧ g' = g) := by
    intro k x g' h1 h2
    rcases Nat.lt_or_ge k base with h | h
    · rw [List.getElem?_append_left (by omega), List.getElem?_take_of_lt h] at h1
      rw [List.getElem?_append_left (by omega), List.getElem?_take_of_lt h] at h2
      exact .inl ⟨h, h1, h2⟩
    · have hk := lt_of_get h1
      simp [tl] at hk
      have : k = base := by omega
      subst this
      rw [List.getElem?_append_right (by omega), tl] at h1
      rw [List.getElem?_append_right (by omega), tg] at h2
      simp at h1 h2
      exact .inr ⟨rfl, h1.symm, h2.symm⟩
  have idx : ∀ (k : Nat) (x : Ob) (g' : Gh), (σ.take base ++ [.arr ver sz es])[k]? = some x → (γ.take base ++ [g])[k]? = some g' → ∃ j, σ[j]? = some x ∧ γ[j]? = some g' ∧ ((k < base ∧ j = k) ∨ (k = base ∧ j = o)) := by
    intro k x g' h1 h2
    rcases get k x g' h1 h2 with ⟨h, q1, q2⟩ | ⟨h, rfl, rfl⟩
    · exact ⟨k, q1, q2, .inl ⟨h, rfl⟩⟩
    · exact ⟨o, hx, hg, .inr ⟨h, rfl⟩⟩
  have hown : ∀ b, Owned (σ.take base ++ [.arr ver sz es]) (γ.take base ++ [g]) b → Owned σ γ b := by
    rintro b ⟨k, x, g', h1, h2, h3, h4⟩
    obtain ⟨j, q1, q2, _⟩ := idx k x g' h1 h2
    exact ⟨j, x, g', q1, q2, h3, h4⟩
  have st : Step base w σ γ w (σ.take base ++ [.arr ver sz es]) (γ.take base ++ [g]) :=
    ⟨rfl, rfl, rfl, Nat.le_refl _, fun b _ hn => ⟨rfl, fun h => hn (hown b h)⟩, hb, by simp; omega, fun k x g' hk hx' hg' => ⟨x, g', by rw [List.getElem?_append_left (by omega), List.getElem?_take_of_lt hk]; exact hx', by rw [List.getElem?_append_left (by omega), List.getElem?_take_of_lt hk]; exact hg', ObStep.refl x g'⟩⟩
  refine ⟨st, ⟨by simp [hl], I.fsz, fun k x g' h1 h2 => ?_, fun k x g' h1 h2 h3 => ?_, fun k k' x x' g1 g2 h1 h2 h3 h4 h5 h6 h7 => ?_⟩, fun b hbb hfb k x hk hxk => ?_⟩
  · rcases get k x g' h1 h2 with ⟨h, q1, q2⟩ | ⟨h, rfl, rfl⟩
    · exact (I.ok k x g' q1 q2).step st (hf k x h q1) fun _ => rfl
    · exact (I.ok o _ _ hx hg).step st rfl fun _ => rfl
  · obtain ⟨j, q1, q2, _⟩ := idx k x g' h1 h2
    exact I.own j x g' q1 q2 h3
  · obtain ⟨j, q1, q2, r1⟩ := idx k x g1 h1 h2
    obtain ⟨j', q1', q2', r2⟩ := idx k' x' g2 h4 h5
    have := I.inj j j' x x' g1 g2 q1 q2 h3 q1' q2' h6 h7
    omega
  · rw [List.getElem?_append_left (by omega), List.getElem?_take_of_lt (by omega)] at hxk
    exact hfb k x hk hxk
theorem frzDs_get {f : AV → Option AV} : ∀ {cs ds : List AV}, frzDs f cs = some ds → ds.length = cs.length ∧ ∀ (j : Nat) (y : AV), ds[j]? = some y → ∃ x, cs[j]? = some x ∧ f x = some y
  | [], ds, h => by simp [frzDs, frzD.frzDs] at h; subst h; exact ⟨rfl, by simp⟩
  | x :: r, ds, h => by
    simp only [frzDs, frzD.frzDs] at h
    split at h
    · rename_i a b h1 h2
      simp at h; subst h
      obtain ⟨q1, q2⟩ := frzDs_get h2
      refine ⟨by simp [q1], fun j y hy => ?_⟩
      cases j with
      | zero => simp at hy; subst hy; exact ⟨x, rfl, h1⟩
      | succ j => exact q2 j y (by simpa using hy)
    · exact absurd h (by simp)
theorem frzDp_get {f : AV → Option AV} : ∀ {cs ds : List (AV × AV)}, frzDp f cs = some ds → ds.length = cs.length ∧ ∀ (j : Nat) (y : AV × AV), ds[j]? = some y → ∃ x, cs[j]? = some x ∧ y.1 = x.1 ∧ f x.2 = some y.2
  | [], ds, h => by simp [frzDp, frzD.frzDp] at h; subst h; exact ⟨rfl, by simp⟩
  | x :: r, ds, h => by
    simp only [frzDp, frzD.frzDp] at h
    split at h
    · rename_i a b h1 h2
      simp at h; subst h
      obtain ⟨q1, q2⟩ := frzDp_get h2
      refine ⟨by simp [q1], fun j y hy => ?_⟩
      cases j with
      | zero => simp at hy; subst hy; exact ⟨x, rfl, rfl, h1⟩
      | succ j => exact q2 j y (by simpa using hy)
    · exact absurd h (by simp)
theorem frzD_scalar {base : Nat} {σ : St} {n : Nat} {x y : AV} (hs : x.scalar = true) (h : frzD base σ n x = some y) : y.scalar = true := by
  cases n with
  | zero => simp [frzD] at h
  | succ n =>
    cases x with
    | agg | tup | dead => simp [AV.scalar] at hs
    | ref o off =>
      simp only [frzD] at h
      split at h
      · split at h
        · obtain ⟨r, _, e⟩ := Option.map_eq_some_iff.1 h
          subst e; rfl
        · exact absurd h (by simp)
      · exact absurd h (by simp)
    | mapr o =>
      simp only [frzD] at h
      split at h
      · split at h
        · obtain ⟨r, _, e⟩ := Option.map_eq_some_iff.1 h
          subst e; rfl
        · exact absurd h (by simp)
      · exact absurd h (by simp)
    | osl o ver n' off len =>
      simp only [frzD] at h
      split at h
      · obtain ⟨r, _, e⟩ := Option.map_eq_some_iff.1 h
        subst e; rfl
      · exact absurd h (by simp)
    | fn f caps =>
      simp only [frzD] at h
      obtain ⟨r, _, e⟩ := Option.map_eq_some_iff.1 h
      subst e; rfl
    | nils => simp [frzD] at h; subst h; rfl
    | _ => simp only [frzD] at h; split at h <;> (simp at h; try (subst h; rfl))
theorem take_free {w : World} {F : Nat → Prop} {σ : St} {γ : List Gh} {base o : Nat} {x : Ob} {g : Gh} (I : Inv tab w F σ γ) (ho : base ≤ o) (hx : σ[o]? = some x) (hg : γ[o]? = some g) (hw : owns x g = true) : Stab w F (σ.take base) (γ.take base) g.b := by
  obtain ⟨h1, h2⟩ := I.own o x g hx hg hw
  refine ⟨h1, h2, ?_⟩
  rintro ⟨o', x', g', q1, q2, q3, q4⟩
  have hlt : o' < base := by have := lt_of_get q1; simp at this; omega
  rw [List.getElem?_take_of_lt hlt] at q1 q2
  have := I.inj o o' x x' g g' hx hg hw q1 q2 q3 q4.symm
  omega
theorem frzD_ok {w : World} {F : Nat → Prop} {σ : St} {γ : List Gh} {base : Nat} (I : Inv tab w F σ γ) : ∀ (n : Nat) (x y : AV) (v : Value), RS tab w F σ γ x v → frzD base σ n x = some y → RF tab w (Stab w F (σ.take base) (γ.take base)) y v := by
  have hsub : ∀ b, Stab w F σ γ b → Stab w F (σ.take base) (γ.take base) b := by
    rintro b ⟨h1, h2, h3⟩
    refine ⟨h1, h2, fun ⟨o, x, g, q1, q2, q3, q4⟩ => h3 ?_⟩
    have hlt : o < base := by have := lt_of_get q1; simp at this; omega
    rw [List.getElem?_take_of_lt hlt] at q1 q2
    exact ⟨o, x, g, q1, q2, q3, q4⟩
  have plain : ∀ {x : AV} {v : Value}, RS tab w F σ γ x v → x.noref = true → RF tab w (Stab w F (σ.take base) (γ.take base)) x v := fun h hn => (h.frozen hn).iffS hsub
  intro n
  induction n with
  | zero => intro x y v _ h; simp [frzD] at h
  | succ n ih =>
    intro x y v hx h
    cases x with
    | ref o off =>
      simp only [frzD] at h
      split at h
      case isFalse => exact absurd h (by simp)
      rename_i hb
      split at h
      case h_2 => exact absurd h (by simp)
      rename_i cs hs
      obtain ⟨ds, hds, e⟩ := Option.map_eq_some_iff.1 h
      subst e
      obtain ⟨q1, q2⟩ := frzDs_get hds
      cases hx with
      | fz _ _ h => exact absurd h.noref (by simp [AV.noref])
      | ref _ _ g cs' hs' hg =>
        obtain ⟨vs, ty, e1, e2, e3, e4⟩ := I.ok o _ g hs hg
        have hget : ∀ (j : Nat) (z : AV), ds[j]? = some z → ∃ x u, cs[off + j]? = some x ∧ vs[off + j]? = some u ∧ frzD base σ n x = some z := by
          intro j z hz
          obtain ⟨x, hx, hf⟩ := q2 j z hz
          rw [List.getElem?_drop] at hx
          have := lt_of_get hx
          exact ⟨x, vs[off + j]'(by omega), hx, Array.getElem?_eq_getElem (by omega), hf⟩
        refine .rptr g.b off ds (fun j => (vs[off + j]?).getD undef) (take_free I hb hs hg rfl) (fun j z hz => ?_) (fun j z hz => ?_) (fun j z hz => ?_)
        · obtain ⟨x, u, _, h2, _⟩ := hget j z hz
          simp [World.cell?, e1, h2]
        · obtain ⟨x, u, h1, _, h3⟩ := hget j z hz
          exact frzD_scalar (e3 _ x h1) h3
        · obtain ⟨x, u, h1, h2, h3⟩ := hget j z hz
          rw [h2]
          exact ih x z u (e4 _ x u h1 h2) h3
    | mapr o =>
      simp only [frzD] at h
      split at h
      case isFalse => exact absurd h (by simp)
      rename_i hb
      split at h
      case h_2 => exact absurd h (by simp)
      rename_i es hs
      obtain ⟨ds, hds, e⟩ := Option.map_eq_some_iff.1 h
      subst e
      obtain ⟨q1, q2⟩ := frzDp_get hds
      cases hx with
      | fz _ _ h => exact absurd h.noref (by simp [AV.noref])
      | mapr _ g es' hs' hg =>
        obtain ⟨ms, clock, e1, e2, e3⟩ := I.ok o _ g hs hg
        refine .fmap g.b ds ms clock (take_free I hb hs hg rfl) e1 (by omega) (fun j p m hp hm => ?_) (fun j p m hp hm => ?_)
        · obtain ⟨x, hx, h1, h2⟩ := q2 j p hp
          rw [h1]
          exact (e3 j x m hx hm).1.iffS hsub
        · obtain ⟨x, hx, h1, h2⟩ := q2 j p hp
          exact ih x.2 p.2 m.val (e3 j x m hx hm).2 h2
    | osl o ver n' off len =>
      simp only [frzD] at h
      split at h
      case isFalse => exact absurd h (by simp)
      rename_i hb
      have hf : frz σ (.osl o ver n' off len) = some y := h
      have hr := frz_read I (l := oslIn (.osl o ver n' off len)) (fun o ho => frz_arr hf ho) hx hf (fun o ho => ho)
      have hy : y.noref = true := by
        obtain ⟨r, _, e⟩ := Option.map_eq_some_iff.1 h
        subst e; rfl
      refine (hr.frozen hy).iffS ?_
      rintro b ⟨h1, h2, h3⟩
      refine ⟨h1, h2, fun ⟨o', x, g, q1, q2, q3, q4⟩ => h3 ?_⟩
      have hlt : o' < base := by have := lt_of_get q1; simp at this; omega
      rw [List.getElem?_take_of_lt hlt] at q1 q2
      refine ⟨o', x, g, ?_, q2, q3, q4⟩
      rw [killL_get, if_neg (by simp [oslIn]; omega)]
      exact q1
    | fn f caps =>
      simp only [frzD] at h
      obtain ⟨ds, hds, e⟩ := Option.map_eq_some_iff.1 h
      subst e
      obtain ⟨q1, q2⟩ := frzDs_get hds
      have key : ∀ (vs : List Value), vs.length = caps.length → (∀ (j : Nat) (x : AV), caps[j]? = some x → AV.scalar x = true) → (∀ (j : Nat) (x : AV) (v : Value), caps[j]? = some x → vs[j]? = some v → RS tab w F σ γ x v) → RF tab w (Stab w F (σ.take base) (γ.take base)) (.fn f ds) (.func (.func (tab f)) #[] vs.toArray) := by
        intro vs hl hs hr
        refine .fn f ds vs (by omega) (fun j z hz => ?_) (fun j z v hz hv => ?_)
        · obtain ⟨x, hx, hf⟩ := q2 j z hz
          exact frzD_scalar (hs j x hx) hf
        · obtain ⟨x, hx, hf⟩ := q2 j z hz
          exact ih x z v (hr j x v hx hv) hf
      cases hx with
      | fz _ _ h => cases h with
        | fn _ _ vs hl hs hr => exact key vs hl hs fun j x v hx hv => .fz _ _ (hr j x v hx hv)
      | fn _ _ vs hl hs hr => exact key vs hl hs hr
    | agg cs =>
      simp only [frzD] at h
      obtain ⟨ds, hds, e⟩ := Option.map_eq_some_iff.1 h
      subst e
      obtain ⟨q1, q2⟩ := frzDs_get hds
      obtain ⟨vs, rfl, hl, hs, hr⟩ := agg_open hx
      refine .agg ds vs (by omega) (fun j z hz => ?_) (fun j z v hz hv => ?_)
      · obtain ⟨x, hx, hf⟩ := q2 j z hz
        exact frzD_scalar (hs j x hx) hf
      · obtain ⟨x, hx, hf⟩ := q2 j z hz
        exact ih x z v (hr j x v hx hv) hf
    | tup cs =>
      simp only [frzD] at h
      obtain ⟨ds, hds, e⟩ := Option.map_eq_some_iff.1 h
      subst e
      obtain ⟨q1, q2⟩ := frzDs_get hds
      have key : ∀ (vs : List Value), vs.length = cs.length → (∀ (j : Nat) (x : AV) (v : Value), cs[j]? = some x → vs[j]? = some v → RS tab w F σ γ x v) → RF tab w (Stab w F (σ.take base) (γ.take base)) (.tup ds) (.tuple vs.toArray) := by
        intro vs hl hr
        refine .tup ds vs (by omega) (fun j z v hz hv => ?_)
        obtain ⟨x, hx, hf⟩ := q2 j z hz
        exact ih x z v (hr j x v hx hv) hf
      cases hx with
      | fz _ _ h => cases h with
        | tup _ vs hl hr => exact key vs hl fun j x v hx hv => .fz _ _ (hr j x v hx hv)
      | tup _ vs hl hr => exact key vs hl hr
    | nils =>
      simp [frzD] at h; subst h
      obtain ⟨a, rfl⟩ := nils_open hx
      exact .sl0 a 0
    | _ =>
      simp only [frzD] at h
      split at h
      · rename_i hn
        simp at h; subst h
        exact plain hx hn
      · exact absurd h (by simp)
theorem fin_ok {w : World} {F : Nat → Prop} {base : Nat} {σ σr : St} {γ : List Gh} {own : OwnK} {x r : AV} {v : Value} (I : Inv tab w F σ γ) (hb : base ≤ σ.length) (hf : FrameOk base σ) (hx : RS tab w F σ γ x v) (h : fin own base x σ = some (r, σr)) :
    ∃ γr, Step base w σ γ w σr γr ∧ Inv tab w F σr γr ∧ RS tab w F σr γr r v ∧ Fr base σ σr := by
  have takeR : ∀ (σ : St) (γ : List Gh) (y : AV), Inv tab w F σ γ → base ≤ σ.length → FrameOk base σ → RS tab w F σ γ y v → y.under base = true → ∃ γr, Step base w σ γ w (σ.take base) γr ∧ Inv tab w F (σ.take base) γr ∧ RS tab w F (σ.take base) γr y v ∧ Fr base σ (σ.take base) := by
    intro σ γ y I hb hf hx hu
    obtain ⟨h1, h2, h3⟩ := take_ok I hb hf
    exact ⟨_, h1, h2, hx.step h1 hu, h3 base (Nat.le_refl _)⟩
  unfold fin at h
  split at h
  iterate 2
    · split at h
      · rename_i o ver n off len
        split at h
        · rename_i ho
          simp at h; obtain ⟨rfl, rfl⟩ := h
          exact takeR σ γ _ I hb hf hx (by simpa [AV.under] using ho)
        · rename_i ho
          split at h
          · rename_i v' sz es hobj
            simp at h; obtain ⟨rfl, rfl⟩ := h
            cases hx with
            | fz _ _ h => exact absurd h.noref (by simp [AV.noref])
            | osl _ _ _ _ _ _ hv h =>
              obtain ⟨y, g, h1, hg, h3⟩ := h
              rw [hobj] at h1; simp at h1; subst h1
              obtain ⟨q1, q2, q3⟩ := keep_one I hb hf (by omega) hobj hg
              have tl : (σ.take base).length = base := by simp; omega
              have tg : (γ.take base).length = base := by have := I.len; simp; omega
              exact ⟨_, q1, q2, .osl _ _ _ _ _ _ hv ⟨_, g, by rw [List.getElem?_append_right (by omega), tl]; simp; rfl, by rw [List.getElem?_append_right (by omega), tg]; simp, h3⟩, q3⟩
          · exact absurd h (by simp)
      · split at h
        · rename_i hn
          simp at h; obtain ⟨rfl, rfl⟩ := h
          exact takeR σ γ _ I hb hf hx (noref_under _ hn)
        · exact absurd h (by simp)
  · split at h
    · rename_i v' hfz
      have hl : ∀ o ∈ oslIn x, ∃ v sz es, σ[o]? = some (.arr v sz es) := fun o ho => frz_arr hfz ho
      obtain ⟨k1, k2, k3⟩ := killL_ok I hl
      have hr := frz_read I hl hx hfz (fun o ho => ho)
      rw [← kill_eq] at k1 k2 k3 hr
      split at h
      · rename_i hn
        simp at h; obtain ⟨rfl, rfl⟩ := h
        obtain ⟨γr, q1, q2, q3, q4⟩ := takeR (kill σ x) γ v' k2 (Nat.le_trans hb k1.l2) (k3 base base (Nat.le_refl _) hf) hr (noref_under _ hn)
        exact ⟨γr, (k1.mono hb).trans q1, q2, q3, (k3 base).trans q4⟩
      · simp at h; obtain ⟨rfl, rfl⟩ := h
        exact ⟨γ, k1.mono hb, k2, hr, k3 base⟩
    · exact absurd h (by simp)
  · split at h
    · rename_i v' hfz
      split at h
      · simp at h; obtain ⟨rfl, rfl⟩ := h
        obtain ⟨h1, h2, h3⟩ := take_ok I hb hf
        exact ⟨_, h1, h2, .fz _ _ (frzD_ok I 8 x v' v hx hfz), h3 base (Nat.le_refl _)⟩
      · exact absurd h (by simp)
    · exact absurd h (by simp)
def chkRess (P : Program) : List ResultVar → List ARes → Bool
  | [], [] => true
  | .tmp t :: r, .t t' :: s => t == t' && chkRess P r s
  | .cell t ty :: r, .cell t' ag sz :: s => t == t' && aggB P ty ag && szB P ty sz && chkRess P r s
  | _, _ => false
def readRes (tmps : Array Value) : ResultVar → Sem Value
  | .tmp t => pure (tmps.getD t undef)
  | .cell a t => do loadVar t (← asAddr (tmps.getD a undef))
theorem results_eq (fn : Func) (tmps : Array Value) : results fn tmps = (do
      let vs ← fn.results.mapM (readRes tmps)
      pure (if h : vs.size = 1 then vs[0] else .tuple vs)) := rfl
theorem res_ok {w : World} {F : Nat → Prop} {σ : St} {γ : List Gh} {env : Env} {tmps : Array Value} (I : Inv tab w F σ γ) (E : EnvOk tab w F σ γ env tmps) : ∀ {rs : List ResultVar} {as : List ARes} {xs : List AV}, chkRess P rs as = true → resVals env σ as = some xs →
    ∃ us : List Value, (rs.mapM (readRes tmps)).run P w = .ok us w ∧ ArgsOk tab w F σ γ xs us
  | [], [], xs, _, h => by simp [resVals] at h; subst h; exact ⟨[], by simp, rfl, by simp⟩
  | [], _ :: _, _, h, _ => by simp [chkRess] at h
  | .tmp _ :: _, [], _, h, _ => by simp [chkRess] at h
  | .cell .. :: _, [], _, h, _ => by simp [chkRess] at h
  | .tmp _ :: _, .cell .. :: _, _, h, _ => by simp [chkRess] at h
  | .cell .. :: _, .t _ :: _, _, h, _ => by simp [chkRess] at h
  | .tmp t :: rs, .t t' :: as, xs, hc, h => by
    simp only [chkRess, Bool.and_eq_true, beq_iff_eq] at hc
    obtain ⟨rfl, hc⟩ := hc
    simp only [resVals] at h
    obtain ⟨ys, hy, e⟩ := Option.map_eq_some_iff.1 h
    subst e
    obtain ⟨us, h1, h2, h3⟩ := res_ok I E hc hy
    refine ⟨tmps.getD t undef :: us, by simp only [List.mapM_cons, readRes, Sem.run_bind, Sem.run_pure, Result.andThen_ok, h1], by simp [h2], fun j x v hx hv => ?_⟩
    cases j with
    | zero => simp at hx hv; subst hx; subst hv; have := E t; simpa using this
    | succ j => exact h3 j x v (by simpa using hx) (by simpa using hv)
  | .cell t ty :: rs, .cell t' ag sz :: as, xs, hc, h => by
    simp only [chkRess, Bool.and_eq_true, beq_iff_eq] at hc
    obtain ⟨⟨⟨rfl, ha⟩, hz⟩, hc⟩ := hc
    simp only [resVals] at h
    split at h
    · rename_i cs tt ys hd hy
      obtain ⟨x, hx, e⟩ := Option.map_eq_some_iff.1 h
      subst e
      obtain ⟨us, h1, h2, h3⟩ := res_ok I E hc hy
      obtain ⟨b, off, hv, hcell⟩ := deref_ok I (E t) hd
      obtain ⟨u, hu, hr⟩ := run_loadVar_front ha hz hcell hx
      refine ⟨u :: us, by simp only [List.mapM_cons, readRes, Sem.run_bind, hv, asAddr, Sem.run_pure, Result.andThen_ok, hu, h1], by simp [h2], fun j x' v hx' hv' => ?_⟩
      cases j with
      | zero => simp at hx' hv'; subst hx'; subst hv'; exact hr
      | succ j => exact h3 j x' v (by simpa using hx') (by simpa using hv')
    · exact absurd h (by simp)
def chkFunc (P : Program) (tab : Nat → Nat) (f : FuncId) (F : AFunc) : Bool := match P.funcs[f]? with
  | some fn => (match fn.body with
    | some c => chkCode P tab fn.ntmps c F.body
    | none => false) && chkRess P fn.results.toList F.results && decide (F.nparams ≤ fn.ntmps) && fn.name != "runtime.NumGoroutine"
  | none => false
/-- The table holds what the program holds. -/
structure Link (P : Program) (tab : Nat → Nat) (G : Nat → Option AFunc) : Prop where
  mixed : P.follows .mixedOrders = true
  funcs : ∀ f F, G f = some F → chkFunc P tab (tab f) F = true
theorem Link.named {G : Nat → Option AFunc} (L : Link P tab G) : Named P tab G := by
  intro f F hF
  have := L.funcs f F hF
  unfold chkFunc at this
  unfold nameB
  split at this
  · rename_i fn hfn
    rw [hfn]
    simp only [Bool.and_eq_true] at this ⊢
    obtain ⟨⟨⟨h1, _⟩, _⟩, h4⟩ := this
    refine ⟨h4, ?_⟩
    cases hb : fn.body with
    | none => simp [hb] at h1
    | some c => rfl
  · exact absurd this (by simp)
theorem initEnv_get : ∀ (args : List AV) (k t : Nat), (initEnv k args).get t = if k ≤ t then (args[t - k]?).getD .dead else .dead
  | [], k, t => by simp [initEnv, Env.get]
  | x :: r, k, t => by
    simp only [initEnv, Env.get]
    by_cases e : k = t
    · subst e; simp
    · rw [if_neg e, initEnv_get r (k + 1) t]
      by_cases h : k ≤ t
      · rw [if_pos (by omega), if_pos h]
        have : t - k = (t - (k + 1)) + 1 := by omega
        rw [this]; simp
      · rw [if_neg (by omega), if_neg h]
theorem alike_eq : ∀ {x y : AV}, x.alike y = true → x = y := by
  intro x y h
  unfold AV.alike at h
  split at h
  · simp only [Bool.and_eq_true, beq_iff_eq] at h
    obtain ⟨⟨⟨⟨rfl, rfl⟩, rfl⟩, rfl⟩, rfl⟩ := h
    rfl
  · rfl
  · rfl
  · exact absurd h (by simp)
theorem alikes_eq : ∀ {x y : St}, alikes x y = true → x = y
  | [], [], _ => rfl
  | .arr v sz [] :: r, .arr v' sz' [] :: r', h => by
    simp only [alikes, Bool.and_eq_true, beq_iff_eq] at h
    obtain ⟨⟨rfl, rfl⟩, h⟩ := h
    rw [alikes_eq h]
  | [], _ :: _, h => by simp [alikes] at h
  | .cells _ :: _, _, h | .map _ :: _, _, h | .dead :: _, _, h | .res :: _, _, h | .arr _ _ (_ :: _) :: _, _, h => by simp [alikes] at h
  | .arr _ _ [] :: _, [], h | .arr _ _ [] :: _, .cells _ :: _, h | .arr _ _ [] :: _, .map _ :: _, h | .arr _ _ [] :: _, .dead :: _, h | .arr _ _ [] :: _, .res :: _, h | .arr _ _ [] :: _, .arr _ _ (_ :: _) :: _, h => by simp [alikes] at h
theorem denN_ok {G : Nat → Option AFunc} (L : Link P tab G) : ∀ n, CallOk P tab (denN G n) := by
  intro n
  induction n with
  | zero => intro f args σ r σ' h; simp [denN] at h
  | succ n ih =>
    intro f args σ r σ' h w F γ vals I A
    have hG : ∀ f args σ r, denN G n f args σ = some r → ∃ F, G f = some F := by
      intro f args σ r h
      cases n with
      | zero => simp [denN] at h
      | succ n =>
        simp only [denN] at h
        cases hg : G f with
        | none => simp [hg] at h
        | some F => exact ⟨F, rfl⟩
    simp only [denN] at h
    cases hg : G f with
    | none => simp [hg] at h
    | some FF =>
      simp only [hg] at h
      split at h
      · rename_i hlen
        have one : ∀ (args : List AV) (r : AV) (σ' : St), args.length = FF.nparams → ArgsOk tab w F σ γ args vals → leave FF σ.length (exec (denN G n) n σ.length FF.body (initEnv 0 args) σ) = some (r, σ') → Calls P (tab f) vals.toArray w (CallPost tab F w σ γ r σ') := by
         intro args r σ' hlen A h
         have hcf := L.funcs f FF hg
         unfold chkFunc at hcf
         split at hcf
         · rename_i fn hfn
           simp only [Bool.and_eq_true, decide_eq_true_eq] at hcf
           obtain ⟨⟨⟨hbody, hres⟩, hnp⟩, _⟩ := hcf
           cases hb : fn.body with
           | none => simp [hb] at hbody
           | some c =>
             simp only [hb] at hbody
             refine calls_of_wp hfn hb ?_
             have hal : vals.toArray.size = FF.nparams := by simp [A.1, hlen]
             have hsz : (vals.toArray ++ Array.replicate (fn.ntmps - vals.toArray.size) undef).size = fn.ntmps := by simp only [Array.size_append, Array.size_replicate]; omega
             have hframe : FrameOk σ.length σ := by
               intro o x ho hx
               have hgl : o < γ.length := by rw [I.len]; exact ho
               exact (I.ok o x γ[o] hx (List.getElem?_eq_getElem hgl)).under
             have hinit : EnvOk tab w F σ γ (initEnv 0 args) (vals.toArray ++ Array.replicate (fn.ntmps - vals.toArray.size) undef) := by
               intro t
               rw [initEnv_get]
               simp only [Nat.zero_le, if_true, Nat.sub_zero]
               cases hx : args[t]? with
               | none => exact .dead _
               | some x =>
                 obtain ⟨v, hv⟩ := get_of_len A.1 hx
                 have hlt := lt_of_get hv
                 have : (vals.toArray ++ Array.replicate (fn.ntmps - vals.toArray.size) undef).getD t undef = v := by
                   rw [Array.getD_eq_getD_getElem?, Array.getElem?_append_left (by simpa using hlt)]
                   simp [hv]
                 rw [this]
                 exact A.2 t x v hx hv
             cases hx : exec (denN G n) n σ.length FF.body (initEnv 0 args) σ with
             | none => simp [hx, leave] at h
             | some q =>
               obtain ⟨e, env', σ1⟩ := q
               refine exec_ok ih hG L.named L.mixed c FF.body hbody hx (a := { tmps := _, defers := [] }) ⟨I, hinit, Nat.le_refl _, hframe⟩ hsz fun a' w' γ' g S' hs' hd' => ?_
               rw [hx] at h
               have key : ∀ (env' : Env) (σ1 : St), (match resVals env' σ1 FF.results with
                   | some vs => fin FF.own σ.length (oneOf vs) σ1
                   | none => none) = some (r, σ') → Goes σ.length w σ γ w' σ1 γ' → Fst tab F σ.length w' σ1 γ' env' a'.tmps → a'.defers = [] ∧ ∃ v, (results fn a'.tmps).run P w' = .ok v w' ∧ CallPost tab F w σ γ r σ' (.returned v) w' := by
                 intro env' σ1 h g S'
                 cases hr : resVals env' σ1 FF.results with
                 | none => simp [hr] at h
                 | some xs =>
                   simp only [hr] at h
                   obtain ⟨us, hus, hA⟩ := res_ok S'.inv S'.env hres hr
                   have hrun : (results fn a'.tmps).run P w' = .ok (if hh : us.toArray.size = 1 then us.toArray[0] else .tuple us.toArray) w' := by
                     rw [results_eq, Array.mapM_eq_mapM_toList]
                     simp only [Sem.run_bind, Sem.run_map, hus, Result.andThen_ok, Sem.run_pure]
                   have hval : RS tab w' F σ1 γ' (oneOf xs) (if hh : us.toArray.size = 1 then us.toArray[0] else .tuple us.toArray) := by
                     by_cases h1 : us.length = 1
                     · obtain ⟨u, rfl⟩ := List.length_eq_one_iff.1 h1
                       obtain ⟨x, rfl⟩ := List.length_eq_one_iff.1 (hA.1.symm.trans h1)
                       simpa [oneOf] using hA.2 0 x u rfl rfl
                     · have e1 : ¬ us.toArray.size = 1 := by simpa using h1
                       rw [dif_neg e1]
                       have e2 : oneOf xs = .tup xs := by
                         cases xs with
                         | nil => rfl
                         | cons x r =>
                           cases r with
                           | nil => exact absurd hA.1 (by simpa using h1)
                           | cons => rfl
                       rw [e2]
                       exact .tup xs us hA.1 hA.2
                   obtain ⟨γr, q1, q2, q3, q4⟩ := fin_ok S'.inv S'.hb S'.frame hval h
                   exact ⟨hd', _, hrun, _, γr, rfl, g.step.trans q1, q2, q3, g.fr.trans q4⟩
               cases e with
               | normal => exact key env' σ1 h g S'
               | ret => exact key env' σ1 h g S'
               | exit i => simp [leave] at h
         · exact absurd hcf (by simp)
        have two : ∀ (x : AV) (ys : List AV), (x = .sl [] ∨ x = .nils) → args = x :: ys → both (leave FF σ.length (exec (denN G n) n σ.length FF.body (initEnv 0 (.nil0 :: ys)) σ)) (leave FF σ.length (exec (denN G n) n σ.length FF.body (initEnv 0 (.nne :: ys)) σ)) = some (r, σ') → Calls P (tab f) vals.toArray w (CallPost tab F w σ γ r σ') := by
          intro x ys hx ha hb
          subst ha
          obtain ⟨h1, ⟨q, qσ⟩, h2, h3, h4⟩ := both_some hb
          have e1 := alike_eq h3
          have e2 := alikes_eq h4
          simp only [] at e1 e2
          subst e1; subst e2
          obtain ⟨v, hv⟩ : ∃ v, vals[0]? = some v := get_of_len A.1 (j := 0) rfl
          obtain ⟨a, c, rfl⟩ : ∃ a c, v = .slice a 0 c := by
            have h0 := A.2 0 x v rfl hv
            rcases hx with rfl | rfl
            · cases h0.frozen rfl with
              | sl0 a c => exact ⟨a, c, rfl⟩
              | sl b off sz cap _ vs => exact ⟨_, _, rfl⟩
            · cases h0.frozen rfl; exact ⟨_, _, rfl⟩
          have go : ∀ x', RF tab w (Stab w F σ γ) x' (.slice a 0 c) → ArgsOk tab w F σ γ (x' :: ys) vals := by
            intro x' hr
            refine ⟨by simpa using A.1, fun j y u hy hu => ?_⟩
            cases j with
            | zero =>
              rw [hv] at hu
              simp at hy hu; subst hy; subst hu
              exact .fz _ _ hr
            | succ j => exact A.2 (j + 1) y u (by simpa using hy) hu
          cases a with
          | none => exact one _ _ _ (by simpa using hlen) (go .nil0 (.nil0 c)) h1
          | some a => exact one _ _ _ (by simpa using hlen) (go .nne (.nne a c)) h2
        unfold twice at h
        split at h
        · exact two _ _ (.inl rfl) rfl h
        · exact two _ _ (.inr rfl) rfl h
        · exact one _ _ _ hlen A h
      · exact absurd h (by simp)
/-- WHAT A CALL COMES TO BY THE ABSTRACT EVALUATOR IT COMES TO BY THE MACHINE. -/
theorem Den_calls {G : Nat → Option AFunc} (L : Link P tab G) {f : Nat} {args : List AV} {r : AV} (h : Den G f args [] = some (r, [])) (hn0 : r.noref = true) {w : World} {vals : List Value} (hl : vals.length = args.length)
    (hA : ∀ (j : Nat) (x : AV) (v : Value), args[j]? = some x → vals[j]? = some v → RF tab w (fun b => b < w.heap.size) x v) :
    Calls P (tab f) vals.toArray w fun e w' => ∃ v, e = .returned v ∧ RF tab w' (fun b => b < w'.heap.size) r v ∧ RowKit.Below w.heap.size w w' := by
  obtain ⟨n, hn⟩ := (Den_iff G).1 h
  have hS : ∀ {w : World} {b : Nat}, Stab w (fun _ => False) [] [] b ↔ b < w.heap.size := by
    intro w b
    exact ⟨fun h => h.1, fun h => ⟨h, id, by rintro ⟨o, x, g, hx, _⟩; simp at hx⟩⟩
  refine Calls.mono (denN_ok L n f args [] r [] hn w (fun _ => False) [] vals (inv_empty fun _ h => h.elim) ⟨hl, fun j x v hx hv => .fz _ _ ((hA j x v hx hv).iffS fun b hb => hS.2 hb)⟩) ?_
  rintro e w' ⟨v, γ', rfl, st, J, hr, _⟩
  have hγ : γ' = [] := List.eq_nil_of_length_eq_zero (by simpa using J.len)
  subst hγ
  refine ⟨v, rfl, (hr.frozen hn0).iffS fun b hb => hb.1, st.os, st.tape, st.output, st.size, fun b hb => (st.keep b hb (by rintro ⟨o, x, g, hx, _⟩; simp at hx)).1⟩
#print axioms Den_calls
end
end Go.Den
