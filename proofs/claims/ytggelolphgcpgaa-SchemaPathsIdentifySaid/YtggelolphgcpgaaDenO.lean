/- Freezing, dropping, moving objects: what a call and a return do to them. -/
import Derived.Test.YtggelolphgcpgaaDenN
namespace Go.Den
open Go

section
variable {P : Program} {tab : Nat → Nat}
def killL (σ : St) (l : List Nat) : St := l.foldl (fun τ o => τ.set o .dead) σ
theorem killL_append (σ : St) (l m : List Nat) : killL σ (l ++ m) = killL (killL σ l) m := by simp [killL, List.foldl_append]
theorem kill_eq : ∀ (x : AV) (σ : St), kill σ x = killL σ (oslIn x)
  | .osl o ver n off len, σ => rfl
  | .agg cs, σ => kills_eq cs σ
  | .tup cs, σ => kills_eq cs σ
  | .int .., _ | .bool _, _ | .str _, _ | .nilp, _ | .rptr _, _ | .ref .., _ | .eref .., _ | .nils, _ | .sl _, _ | .fn .., _ | .nilfn, _ | .mapr _, _ | .nilmap, _ | .fmap _, _ | .iface .., _ | .nilif, _ | .nil0, _ | .nne, _ | .dead, _ => rfl
where kills_eq : ∀ (l : List AV) (σ : St), kills σ l = killL σ (oslIns l)
  | [], σ => rfl
  | x :: r, σ => by
    show kills (kill σ x) r = killL σ (oslIn x ++ oslIns r)
    rw [killL_append, ← kill_eq x σ]
    exact kills_eq r _
theorem killL_length (l : List Nat) : ∀ σ : St, (killL σ l).length = σ.length := by
  induction l with
  | nil => intro σ; rfl
  | cons o l ih => intro σ; show (killL (σ.set o .dead) l).length = _; rw [ih]; simp
theorem killL_get (l : List Nat) : ∀ (σ : St) (o : Nat), (killL σ l)[o]? = if o ∈ l then (σ[o]?).map (fun _ => Ob.dead) else σ[o]? := by
  induction l with
  | nil => intro σ o; simp [killL]
  | cons a l ih =>
    intro σ o
    show (killL (σ.set a .dead) l)[o]? = _
    rw [ih, List.getElem?_set]
    by_cases e : a = o
    · subst e
      by_cases hl : a < σ.length
      · simp [hl]
      · simp [hl]
    · have : ¬ o = a := fun h => e h.symm
      simp [e, this]
theorem elems_arr {σ : St} {o ver n off len : Nat} {r} (h : elems σ (.osl o ver n off len) = some r) : ∃ sz es, σ[o]? = some (.arr ver sz es) ∧ es.length = n ∧ off + len ≤ n ∧ r.1 = (es.drop off).take len := by
  simp only [elems] at h
  split at h
  · rename_i v sz es ho
    split at h
    · rename_i hc
      obtain ⟨rfl, hn, hl⟩ := hc
      simp at h; subst h
      exact ⟨sz, es, ho, hn, hl, rfl⟩
    · exact absurd h (by simp)
  · exact absurd h (by simp)
theorem frzs_get {σ : St} : ∀ {cs ds : List AV}, frzs σ cs = some ds → ds.length = cs.length ∧ ∀ (j : Nat) (y : AV), ds[j]? = some y → ∃ x, cs[j]? = some x ∧ frz σ x = some y
  | [], ds, h => by simp [frzs, frz.frzs] at h; subst h; exact ⟨rfl, by simp⟩
  | x :: r, ds, h => by
    simp only [frzs, frz.frzs] at h
    split at h
    · rename_i a b h1 h2
      simp at h; subst h
      obtain ⟨q1, q2⟩ := frzs_get (cs := r) h2
      refine ⟨by simp [q1], fun j y hy => ?_⟩
      cases j with
      | zero => simp at hy; subst hy; exact ⟨x, rfl, h1⟩
      | succ j => simpa using q2 j y (by simpa using hy)
    · exact absurd h (by simp)
theorem mem_oslIns {o : Nat} : ∀ {cs : List AV}, o ∈ oslIns cs ↔ ∃ x ∈ cs, o ∈ oslIn x
  | [] => by simp [oslIns, oslIn.oslIns]
  | x :: r => by
    simp only [oslIns, oslIn.oslIns, List.mem_append, List.mem_cons]
    rw [mem_oslIns (cs := r)]
    constructor
    · rintro (h | ⟨y, hy, h⟩)
      · exact ⟨x, .inl rfl, h⟩
      · exact ⟨y, .inr hy, h⟩
    · rintro ⟨y, rfl | hy, h⟩
      · exact .inl h
      · exact .inr ⟨y, hy, h⟩
theorem frz_arr {σ : St} {o : Nat} : ∀ {x y : AV}, frz σ x = some y → o ∈ oslIn x → ∃ v sz es, σ[o]? = some (.arr v sz es)
  | .osl o' ver n off len, y, h, ho => by
    simp [oslIn] at ho; subst ho
    simp only [frz] at h
    cases he : elems σ (.osl o ver n off len) with
    | none => simp [he] at h
    | some r => obtain ⟨sz, es, h1, _⟩ := elems_arr he; exact ⟨_, sz, es, h1⟩
  | .agg cs, y, h, ho => by
    simp only [frz] at h
    cases he : frz.frzs σ cs with
    | none => simp [he] at h
    | some ds => exact go cs he ho
  | .tup cs, y, h, ho => by
    simp only [frz] at h
    cases he : frz.frzs σ cs with
    | none => simp [he] at h
    | some ds => exact go cs he ho
  | .int .., _, _, h | .bool _, _, _, h | .str _, _, _, h | .nilp, _, _, h | .rptr _, _, _, h | .ref .., _, _, h | .eref .., _, _, h | .nils, _, _, h | .sl _, _, _, h | .fn .., _, _, h | .nilfn, _, _, h | .mapr _, _, _, h | .nilmap, _, _, h | .fmap _, _, _, h | .iface .., _, _, h | .nilif, _, _, h | .nil0, _, _, h | .nne, _, _, h | .dead, _, _, h => by simp [oslIn] at h
where go : ∀ (cs : List AV) {ds : List AV}, frz.frzs σ cs = some ds → o ∈ oslIns cs → ∃ v sz es, σ[o]? = some (.arr v sz es)
  | [], _, _, h => by simp [oslIns, oslIn.oslIns] at h
  | x :: r, ds, h, ho => by
    simp only [frz.frzs] at h
    split at h
    · rename_i a b h1 h2
      simp only [oslIns, oslIn.oslIns, List.mem_append] at ho
      rcases ho with ho | ho
      · exact frz_arr h1 ho
      · exact go r h2 ho
    · exact absurd h (by simp)
/-- Rows that are frozen: the objects are struck. -/
theorem killL_ok {w : World} {F : Nat → Prop} {σ : St} {γ : List Gh} (I : Inv tab w F σ γ) {l : List Nat} (h : ∀ o ∈ l, ∃ v sz es, σ[o]? = some (.arr v sz es)) :
    Step σ.length w σ γ w (killL σ l) γ ∧ Inv tab w F (killL σ l) γ ∧ ∀ b, Fr b σ (killL σ l) := by
  have hown : ∀ b, Owned (killL σ l) γ b → Owned σ γ b := by
    rintro b ⟨o, x, g, h1, h2, h3, h4⟩
    rw [killL_get] at h1
    split at h1
    · cases hx : σ[o]? with
      | none => simp [hx] at h1
      | some y => simp [hx] at h1; subst h1; simp [owns] at h3
    · exact ⟨o, x, g, h1, h2, h3, h4⟩
  have st : Step σ.length w σ γ w (killL σ l) γ := by
    refine ⟨rfl, rfl, rfl, Nat.le_refl _, fun b _ hn => ⟨rfl, fun ho => hn (hown b ho)⟩, Nat.le_refl _, by rw [killL_length]; exact Nat.le_refl _, fun o x g ho hx hg => ?_⟩
    by_cases hm : o ∈ l
    · obtain ⟨v, sz, es, ha⟩ := h o hm
      rw [ha] at hx; simp at hx; subst hx
      exact ⟨.dead, g, by rw [killL_get, if_pos hm, ha]; rfl, hg, .kill _ _ _ _ _⟩
    · exact ⟨x, g, by rw [killL_get, if_neg hm]; exact hx, hg, ObStep.refl x g⟩
  refine ⟨st, ⟨by rw [killL_length]; exact I.len, I.fsz, fun o x g hx hg => ?_, fun o x g hx hg ho => ?_, fun o o' x x' g g' h1 h2 h3 h4 h5 h6 h7 => ?_⟩, fun b k _ hf o x hb hx => ?_⟩
  · rw [killL_get] at hx
    split at hx
    · cases hy : σ[o]? with
      | none => simp [hy] at hx
      | some y => simp [hy] at hx; subst hx; trivial
    · have h0 := I.ok o x g hx hg
      exact h0.step st h0.under fun _ => rfl
  · rw [killL_get] at hx
    split at hx
    · cases hy : σ[o]? with
      | none => simp [hy] at hx
      | some y => simp [hy] at hx; subst hx; simp [owns] at ho
    · exact I.own o x g hx hg ho
  · have up : ∀ (o : Nat) (x : Ob) (g : Gh), (killL σ l)[o]? = some x → owns x g = true → σ[o]? = some x := by
      intro o x g hx ho
      rw [killL_get] at hx
      split at hx
      · cases hy : σ[o]? with
        | none => simp [hy] at hx
        | some y => simp [hy] at hx; subst hx; simp [owns] at ho
      · exact hx
    exact I.inj o o' x x' g g' (up o x g h1 h3) h2 h3 (up o' x' g' h4 h6) h5 h6 h7
  · rw [killL_get] at hx
    split at hx
    · cases hy : σ[o]? with
      | none => simp [hy] at hx
      | some y => simp [hy] at hx; subst hx; rfl
    · exact hf o x hb hx
theorem unowned {w : World} {F : Nat → Prop} {σ : St} {γ : List Gh} (I : Inv tab w F σ γ) {l : List Nat} {o : Nat} {x : Ob} {g : Gh} (hx : σ[o]? = some x) (hg : γ[o]? = some g) (ho : owns x g = true) (hm : o ∈ l) : Stab w F (killL σ l) γ g.b := by
  obtain ⟨h1, h2⟩ := I.own o x g hx hg ho
  refine ⟨h1, h2, ?_⟩
  rintro ⟨o', x', g', q1, q2, q3, q4⟩
  rw [killL_get] at q1
  split at q1
  · cases hy : σ[o']? with
    | none => simp [hy] at q1
    | some y => simp [hy] at q1; subst q1; simp [owns] at q3
  · rename_i hn
    have := I.inj o o' x x' g g' hx hg ho q1 q2 q3 q4.symm
    subst this
    exact hn hm
theorem frz_scalar {σ : St} {x y : AV} (hs : x.scalar = true) (h : frz σ x = some y) : y.scalar = true := by
  cases x with
  | osl o ver n off len =>
    simp only [frz] at h
    obtain ⟨r, _, e⟩ := Option.map_eq_some_iff.1 h
    subst e; rfl
  | agg | tup | dead => simp [AV.scalar] at hs
  | _ => simp [frz] at h; subst h; rfl
theorem frz_read {w : World} {F : Nat → Prop} {σ : St} {γ : List Gh} (I : Inv tab w F σ γ) {l : List Nat} (hl : ∀ o ∈ l, ∃ v sz es, σ[o]? = some (.arr v sz es)) {x y : AV} {v : Value} (h : RS tab w F σ γ x v) (hf : frz σ x = some y) (hs : ∀ o ∈ oslIn x, o ∈ l) :
    RS tab w F (killL σ l) γ y v := by
  obtain ⟨st, _, _⟩ := killL_ok I hl
  unfold RS at h
  induction h generalizing y with
  | fz x v h =>
    have key : RF tab w (Stab w F (killL σ l) γ) x v := h.mono fun b hb => st.stab hb
    clear hs
    have : RF tab w (Stab w F (killL σ l) γ) y v := by
      clear h
      induction key generalizing y with
      | nils a => simp [frz] at hf; subst hf; exact .sl0 a 0
      | agg cs vs hl hs hr ih =>
        simp only [frz] at hf
        cases he : frz.frzs σ cs with
        | none => simp [he] at hf
        | some ds =>
          simp [he] at hf; subst hf
          obtain ⟨q1, q2⟩ := frzs_get he
          refine .agg ds vs (by omega) (fun j x hx => ?_) (fun j x v hx hv => ?_)
          · obtain ⟨z, hz, hfz⟩ := q2 j x hx
            exact frz_scalar (hs j z hz) hfz
          · obtain ⟨z, hz, hfz⟩ := q2 j x hx
            exact ih j z v hz hv hfz
      | tup cs vs hl hr ih =>
        simp only [frz] at hf
        cases he : frz.frzs σ cs with
        | none => simp [he] at hf
        | some ds =>
          simp [he] at hf; subst hf
          obtain ⟨q1, q2⟩ := frzs_get he
          refine .tup ds vs (by omega) (fun j x v hx hv => ?_)
          obtain ⟨z, hz, hfz⟩ := q2 j x hx
          exact ih j z v hz hv hfz
      | int k n => simp [frz] at hf; subst hf; exact .int k n
      | bool b => simp [frz] at hf; subst hf; exact .bool b
      | str s => simp [frz] at hf; subst hf; exact .str s
      | nilp => simp [frz] at hf; subst hf; exact .nilp
      | rptr b off cs vs hb hc hs hr _ => simp [frz] at hf; subst hf; exact .rptr b off cs vs hb hc hs hr
      | sl0 a c => simp [frz] at hf; subst hf; exact .sl0 a c
      | sl b off sz cap es vs hb hz hl hc hs hr _ => simp [frz] at hf; subst hf; exact .sl b off sz cap es vs hb hz hl hc hs hr
      | fn f caps vs hl hs hr _ => simp [frz] at hf; subst hf; exact .fn f caps vs hl hs hr
      | nilfn => simp [frz] at hf; subst hf; exact .nilfn
      | nilmap => simp [frz] at hf; subst hf; exact .nilmap
      | fmap b es ms clock hb hh hl hk hr _ _ => simp [frz] at hf; subst hf; exact .fmap b es ms clock hb hh hl hk hr
      | iface t x v hr _ => simp [frz] at hf; subst hf; exact .iface t x v hr
      | nilif => simp [frz] at hf; subst hf; exact .nilif
      | nil0 c => simp [frz] at hf; subst hf; exact .nil0 c
      | nne a c => simp [frz] at hf; subst hf; exact .nne a c
    exact .fz _ _ this
  | osl o ver n off len v hv h =>
    simp only [frz] at hf
    cases he : elems σ (.osl o ver n off len) with
    | none => simp [he] at hf
    | some r =>
      simp [he] at hf; subst hf
      obtain ⟨sz, es, ho, hn, hle, hr⟩ := elems_arr he
      obtain ⟨x, g, h1, hg, h3⟩ := h
      rw [ho] at h1; simp at h1; subst h1
      obtain ⟨a, rfl, ha⟩ := h3.2 rfl hn.symm hle
      obtain ⟨k1, k2, k3, k4⟩ := I.ok o _ g ho hg
      have hrl : r.1.length = len := by rw [hr]; simp; omega
      by_cases h0 : len = 0
      · have : r.1 = [] := List.eq_nil_of_length_eq_zero (by omega)
        rw [this]; subst h0
        exact .fz _ _ (.sl0 a _)
      · have hcap : 0 < g.cap := by omega
        obtain ⟨vs, ty, e1, e2, e3⟩ := k4 hcap
        have hst := unowned I (l := l) ho hg (by simp [owns, hcap]) (hs o (by simp [oslIn]))
        rw [ha (by omega)]
        have hget : ∀ (i : Nat) (e : List AV), r.1[i]? = some e → es[off + i]? = some e := by
          intro i e hi
          rw [hr] at hi
          have hil : i < len := by have := lt_of_get hi; simp at this; omega
          rw [List.getElem?_take_of_lt hil, List.getElem?_drop] at hi
          exact hi
        have hcell : ∀ (i : Nat) (e : List AV), r.1[i]? = some e → ∀ (j : Nat) (x : AV), e[j]? = some x → ∃ u, w.cell? ⟨g.b, g.base + off * sz + i * sz + j, none⟩ = some u ∧ x.scalar = true ∧ RF tab w (Stab w F σ γ) x u := by
          intro i e hi j x hx
          obtain ⟨u, u1, u2, u3⟩ := e3 _ e (hget i e hi) j x hx
          refine ⟨u, ?_, u2, u3⟩
          simp only [World.cell?, e1]
          simp
          rw [← u1]; congr 1; rw [Nat.add_mul]; omega
        have := RF.sl (tab := tab) (w := w) (S := Stab w F (killL σ l) γ) g.b (g.base + off * sz) sz (g.cap - off) r.1 (fun i j => (w.cell? ⟨g.b, g.base + off * sz + i * sz + j, none⟩).getD undef) hst
          (fun e he' => k3 e (by rw [hr] at he'; exact List.mem_of_mem_drop (List.mem_of_mem_take he'))) (by omega)
          (fun i e hi j x hx => by obtain ⟨u, u1, _⟩ := hcell i e hi j x hx; rw [u1]; rfl)
          (fun i e hi j x hx => by obtain ⟨u, _, u2, _⟩ := hcell i e hi j x hx; exact u2)
          (fun i e hi j x hx => by obtain ⟨u, u1, _, u3⟩ := hcell i e hi j x hx; rw [u1]; exact u3.mono fun b hb => st.stab hb)
        rw [hrl] at this
        exact .fz _ _ this
  | agg cs vs hl hsc hr ih =>
    simp only [frz] at hf
    cases he : frz.frzs σ cs with
    | none => simp [he] at hf
    | some ds =>
      simp [he] at hf; subst hf
      obtain ⟨q1, q2⟩ := frzs_get he
      refine .agg ds vs (by omega) (fun j x hx => ?_) (fun j x v hx hv => ?_)
      · obtain ⟨z, hz, hfz⟩ := q2 j x hx
        exact frz_scalar (hsc j z hz) hfz
      · obtain ⟨z, hz, hfz⟩ := q2 j x hx
        exact ih j z v hz hv hfz (fun o ho => hs o (by simp only [oslIn]; exact mem_oslIns.2 ⟨z, List.mem_of_getElem? hz, ho⟩))
  | tup cs vs hl hr ih =>
    simp only [frz] at hf
    cases he : frz.frzs σ cs with
    | none => simp [he] at hf
    | some ds =>
      simp [he] at hf; subst hf
      obtain ⟨q1, q2⟩ := frzs_get he
      refine .tup ds vs (by omega) (fun j x v hx hv => ?_)
      obtain ⟨z, hz, hfz⟩ := q2 j x hx
      exact ih j z v hz hv hfz (fun o ho => hs o (by simp only [oslIn]; exact mem_oslIns.2 ⟨z, List.mem_of_getElem? hz, ho⟩))
  | dead v => simp [frz] at hf; subst hf; exact .dead v
  | ref o off g cs hs' hg =>
    have e : y = .ref o off := by simpa [frz] using hf.symm
    subst e
    exact RV.step st (RV.ref o off g cs hs' hg) (by simp [AV.under, lt_of_get hs'])
  | mapr o g es hs' hg =>
    have e : y = .mapr o := by simpa [frz] using hf.symm
    subst e
    exact RV.step st (RV.mapr o g es hs' hg) (by simp [AV.under, lt_of_get hs'])
  | eref o ver n i off v hv h =>
    have e : y = .eref o ver n i off := by simpa [frz] using hf.symm
    subst e
    have h0 : RS tab w F σ γ (.eref o ver n i off) v := .eref _ _ _ _ _ _ hv h
    exact RV.step st h0 h0.under
  | fn f caps vs hl hsc hr _ =>
    have e : y = .fn f caps := by simpa [frz] using hf.symm
    subst e
    have h0 : RS tab w F σ γ (.fn f caps) _ := .fn f caps vs hl hsc hr
    exact RV.step st h0 h0.under
  | iface t x v hr _ =>
    have e : y = .iface t x := by simpa [frz] using hf.symm
    subst e
    have h0 : RS tab w F σ γ (.iface t x) _ := .iface t x v hr
    exact RV.step st h0 h0.under

/-- The first k objects are kept. -/
theorem take_ok {w : World} {F : Nat → Prop} {σ : St} {γ : List Gh} (I : Inv tab w F σ γ) {k : Nat} (hk : k ≤ σ.length) (hf : FrameOk k σ) : Step k w σ γ w (σ.take k) (γ.take k) ∧ Inv tab w F (σ.take k) (γ.take k) ∧ ∀ b, b ≤ k → Fr b σ (σ.take k) := by
  have get : ∀ (o : Nat) (x : Ob), (σ.take k)[o]? = some x → o < k ∧ σ[o]? = some x := by
    intro o x hx
    have ho : o < k := by have := lt_of_get hx; simp at this; omega
    rw [List.getElem?_take_of_lt ho] at hx
    exact ⟨ho, hx⟩
  have getg : ∀ (o : Nat) (g : Gh), o < k → (γ.take k)[o]? = some g → γ[o]? = some g := by
    intro o g ho hg
    rwa [List.getElem?_take_of_lt ho] at hg
  have hown : ∀ b, Owned (σ.take k) (γ.take k) b → Owned σ γ b := by
    rintro b ⟨o, x, g, h1, h2, h3, h4⟩
    obtain ⟨ho, hx⟩ := get o x h1
    exact ⟨o, x, g, hx, getg o g ho h2, h3, h4⟩
  have hl := I.len
  have st : Step k w σ γ w (σ.take k) (γ.take k) :=
    ⟨rfl, rfl, rfl, Nat.le_refl _, fun b _ hn => ⟨rfl, fun ho => hn (hown b ho)⟩, hk, by simp; omega, fun o x g ho hx hg => ⟨x, g, by rw [List.getElem?_take_of_lt ho]; exact hx, by rw [List.getElem?_take_of_lt ho]; exact hg, ObStep.refl x g⟩⟩
  refine ⟨st, ⟨by simp [hl], I.fsz, fun o x g hx hg => ?_, fun o x g hx hg ho => ?_, fun o o' x x' g g' h1 h2 h3 h4 h5 h6 h7 => ?_⟩, fun b hb k' hk' hf' o x ho hx => ?_⟩
  · obtain ⟨ho, hx⟩ := get o x hx
    exact (I.ok o x g hx (getg o g ho hg)).step st (hf o x ho hx) fun _ => rfl
  · obtain ⟨ho', hx⟩ := get o x hx
    exact I.own o x g hx (getg o g ho' hg) ho
  · obtain ⟨ho, hx⟩ := get o x h1
    obtain ⟨ho', hx'⟩ := get o' x' h4
    exact I.inj o o' x x' g g' hx (getg o g ho h2) h3 hx' (getg o' g' ho' h5) h6 h7
  · obtain ⟨_, hx⟩ := get o x hx
    exact hf' o x ho hx
end
end Go.Den
