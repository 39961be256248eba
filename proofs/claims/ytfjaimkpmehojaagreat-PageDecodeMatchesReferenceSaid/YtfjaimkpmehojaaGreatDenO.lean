import Derived.Test.YtfjaimkpmehojaaGreatDenJ
import Derived.Orders
import Derived.Deep.LoopGhost
import Derived.Scope
import GoSem.Dispatch
import Derived.Calls
namespace Go.Den
open Go

section
variable {P : Program} {tab : Nat → Nat}
def killL (σ : St) (l : List Nat) : St := l.foldl (fun τ o => τ.set o .dead) σ
theorem killL_append (σ : St) (l m : List Nat) : killL σ (l ++ m) = killL (killL σ l) m := by simp [killL, List.foldl_append]
theorem kill_eq : ∀ (x : AV) (σ : St), kill σ x = killL σ (oslIn x)
 | .osl o ver n off len, σ => rfl
 | .agg cs, σ => kills_eq cs σ
 | .tup cs, σ => kills_eq cs σ
 | .int .., _ | .bool _, _ | .str _, _ | .nilp, _ | .rptr _, _ | .ref .., _ | .eref .., _ | .nils, _ | .sl _, _ | .fn .., _ | .nilfn, _ | .mapr _, _ | .nilmap, _ | .fmap _, _ | .iface .., _ | .nilif, _ | .nil0, _ | .nne, _ | .zp _, _ | .dead, _ => rfl
where kills_eq : ∀ (l : List AV) (σ : St), kills σ l = killL σ (oslIns l)
 | [], σ => rfl
 | x :: r, σ => by
  show kills (kill σ x) r = killL σ (oslIn x ++ oslIns r)
  rw [killL_append, ← kill_eq x σ]
  exact kills_eq r _
theorem killL_length (l : List Nat) : ∀ σ : St, (killL σ l).length = σ.length := by
 induction l with
 | nil => intro σ; rfl
 | cons o l ih => intro σ; show (killL (σ.set o .dead) l).length = _; rw [ih]; simp
theorem killL_get (l : List Nat) : ∀ (σ : St) (o : Nat), (killL σ l)[o]? = if o ∈ l then (σ[o]?).map (fun _ => Ob.dead) else σ[o]? := by
 induction l with
 | nil => intro σ o; simp [killL]
 | cons a l ih =>
  intro σ o
  show (killL (σ.set a .dead) l)[o]? = _
  rw [ih, List.getElem?_set]
  by_cases e : a = o
  ·subst e
   by_cases hl : a < σ.length
   ·simp [hl]
   ·simp [hl]
  ·have : ¬ o = a := fun h => e h.symm
   simp [e, this]
theorem elems_arr {σ : St} {o ver n off len : Nat} {r} (h : elems σ (.osl o ver n off len) = some r) : ∃ sz es, σ[o]? = some (.arr ver sz es) ∧ es.length = n ∧ off + len ≤ n ∧ r.1 = (es.drop off).take len := by
 simp only [elems] at h
 split at h
 ·rename_i v sz es ho
  split at h
  ·rename_i hc
   obtain ⟨rfl, hn, hl⟩ := hc
   simp at h; subst h
   exact ⟨sz, es, ho, hn, hl, rfl⟩
  ·exact absurd h (by simp)
 ·exact absurd h (by simp)
theorem frzs_get {σ : St} : ∀ {cs ds : List AV}, frzs σ cs = some ds → ds.length = cs.length ∧ ∀ (j : Nat) (y : AV), ds[j]? = some y → ∃ x, cs[j]? = some x ∧ frz σ x = some y
 | [], ds, h => by simp [frzs, frz.frzs] at h; subst h; exact ⟨rfl, by simp⟩
 | x :: r, ds, h => by
  simp only [frzs, frz.frzs] at h
  split at h
  ·rename_i a b h1 h2
   simp at h; subst h
   obtain ⟨q1, q2⟩ := frzs_get (cs := r) h2
   refine ⟨by simp [q1], fun j y hy => ?_⟩
   cases j with
   | zero => simp at hy; subst hy; exact ⟨x, rfl, h1⟩
   | succ j => simpa using q2 j y (by simpa using hy)
  ·exact absurd h (by simp)
theorem mem_oslIns {o : Nat} : ∀ {cs : List AV}, o ∈ oslIns cs ↔ ∃ x ∈ cs, o ∈ oslIn x
 | [] => by simp [oslIns, oslIn.oslIns]
 | x :: r => by
  simp only [oslIns, oslIn.oslIns, List.mem_append, List.mem_cons]
  rw [mem_oslIns (cs := r)]
  constructor
  ·rintro (h | ⟨y, hy, h⟩)
   ·exact ⟨x, .inl rfl, h⟩
   ·exact ⟨y, .inr hy, h⟩
  ·rintro ⟨y, rfl | hy, h⟩
   ·exact .inl h
   ·exact .inr ⟨y, hy, h⟩
theorem frz_arr {σ : St} {o : Nat} : ∀ {x y : AV}, frz σ x = some y → o ∈ oslIn x → ∃ v sz es, σ[o]? = some (.arr v sz es)
 | .osl o' ver n off len, y, h, ho => by
  simp [oslIn] at ho; subst ho
  simp only [frz] at h
  cases he : elems σ (.osl o ver n off len) with
  | none => simp [he] at h
  | some r => obtain ⟨sz, es, h1, _⟩ := elems_arr he; exact ⟨_, sz, es, h1⟩
 | .agg cs, y, h, ho => by
  simp only [frz] at h
  cases he : frz.frzs σ cs with
  | none => simp [he] at h
  | some ds => exact go cs he ho
 | .tup cs, y, h, ho => by
  simp only [frz] at h
  cases he : frz.frzs σ cs with
  | none => simp [he] at h
  | some ds => exact go cs he ho
 | .int .., _, _, h | .bool _, _, _, h | .str _, _, _, h | .nilp, _, _, h | .rptr _, _, _, h | .ref .., _, _, h | .eref .., _, _, h | .nils, _, _, h | .sl _, _, _, h | .fn .., _, _, h | .nilfn, _, _, h | .mapr _, _, _, h | .nilmap, _, _, h | .fmap _, _, _, h | .iface .., _, _, h | .nilif, _, _, h | .nil0, _, _, h | .nne, _, _, h | .zp _, _, _, h | .dead, _, _, h => by simp [oslIn] at h
where go : ∀ (cs : List AV) {ds : List AV}, frz.frzs σ cs = some ds → o ∈ oslIns cs → ∃ v sz es, σ[o]? = some (.arr v sz es)
 | [], _, _, h => by simp [oslIns, oslIn.oslIns] at h
 | x :: r, ds, h, ho => by
  simp only [frz.frzs] at h
  split at h
  ·rename_i a b h1 h2
   simp only [oslIns, oslIn.oslIns, List.mem_append] at ho
   rcases ho with ho | ho
   ·exact frz_arr h1 ho
   ·exact go r h2 ho
  ·exact absurd h (by simp)
theorem killL_ok {w : World} {F : Nat → Prop} {σ : St} {γ : List Gh} (I : Inv tab w F σ γ) {l : List Nat} (h : ∀ o ∈ l, ∃ v sz es, σ[o]? = some (.arr v sz es)) :
  Step σ.length w σ γ w (killL σ l) γ ∧ Inv tab w F (killL σ l) γ ∧ ∀ b, Fr b σ (killL σ l) := by
 have hown : ∀ b, Owned (killL σ l) γ b → Owned σ γ b := by
  rintro b ⟨o, x, g, h1, h2, h3, h4⟩
  rw [killL_get] at h1
  split at h1
  ·cases hx : σ[o]? with
   | none => simp [hx] at h1
   | some y => simp [hx] at h1; subst h1; simp [owns] at h3
  ·exact ⟨o, x, g, h1, h2, h3, h4⟩
 have st : Step σ.length w σ γ w (killL σ l) γ := by
  refine ⟨rfl, rfl, rfl, Nat.le_refl _, Nat.le_refl _, fun b _ hn => ⟨rfl, fun ho => hn (hown b ho)⟩, Nat.le_refl _, by rw [killL_length]; exact Nat.le_refl _, fun o x g ho hx hg => ?_⟩
  by_cases hm : o ∈ l
  ·obtain ⟨v, sz, es, ha⟩ := h o hm
   rw [ha] at hx; simp at hx; subst hx
   exact ⟨.dead, g, by rw [killL_get, if_pos hm, ha]; rfl, hg, .kill _ _ _ _ _⟩
  ·exact ⟨x, g, by rw [killL_get, if_neg hm]; exact hx, hg, ObStep.refl x g⟩
 refine ⟨st, ⟨by rw [killL_length]; exact I.len, I.fsz, fun o x g hx hg => ?_, fun o x g hx hg ho => ?_, fun o o' x x' g g' h1 h2 h3 h4 h5 h6 h7 => ?_, I.gl.mono fun b hb => st.stab hb⟩, fun b k _ hf o x hb hx => ?_⟩
 ·rw [killL_get] at hx
  split at hx
  ·cases hy : σ[o]? with
   | none => simp [hy] at hx
   | some y => simp [hy] at hx; subst hx; trivial
  ·have h0 := I.ok o x g hx hg
   exact h0.step st h0.under fun _ => rfl
 ·rw [killL_get] at hx
  split at hx
  ·cases hy : σ[o]? with
   | none => simp [hy] at hx
   | some y => simp [hy] at hx; subst hx; simp [owns] at ho
  ·exact I.own o x g hx hg ho
 ·have up : ∀ (o : Nat) (x : Ob) (g : Gh), (killL σ l)[o]? = some x → owns x g = true → σ[o]? = some x := by
   intro o x g hx ho
   rw [killL_get] at hx
   split at hx
   ·cases hy : σ[o]? with
    | none => simp [hy] at hx
    | some y => simp [hy] at hx; subst hx; simp [owns] at ho
   ·exact hx
  exact I.inj o o' x x' g g' (up o x g h1 h3) h2 h3 (up o' x' g' h4 h6) h5 h6 h7
 ·rw [killL_get] at hx
  split at hx
  ·cases hy : σ[o]? with
   | none => simp [hy] at hx
   | some y => simp [hy] at hx; subst hx; rfl
  ·exact hf o x hb hx
theorem unowned {w : World} {F : Nat → Prop} {σ : St} {γ : List Gh} (I : Inv tab w F σ γ) {l : List Nat} {o : Nat} {x : Ob} {g : Gh} (hx : σ[o]? = some x) (hg : γ[o]? = some g) (ho : owns x g = true) (hm : o ∈ l) : Stab w F (killL σ l) γ g.b := by
 obtain ⟨h1, h2⟩ := I.own o x g hx hg ho
 refine ⟨h1, h2, ?_⟩
 rintro ⟨o', x', g', q1, q2, q3, q4⟩
 rw [killL_get] at q1
 split at q1
 ·cases hy : σ[o']? with
  | none => simp [hy] at q1
  | some y => simp [hy] at q1; subst q1; simp [owns] at q3
 ·rename_i hn
  have := I.inj o o' x x' g g' hx hg ho q1 q2 q3 q4.symm
  subst this
  exact hn hm
theorem frz_scalar {σ : St} {x y : AV} (hs : x.scalar = true) (h : frz σ x = some y) : y.scalar = true := by
 cases x with
 | osl o ver n off len =>
  simp only [frz] at h
  obtain ⟨r, _, e⟩ := Option.map_eq_some_iff.1 h
  subst e; rfl
 | agg | tup | dead => simp [AV.scalar] at hs
 | _ => simp [frz] at h; subst h; rfl
theorem frz_read {w : World} {F : Nat → Prop} {σ : St} {γ : List Gh} (I : Inv tab w F σ γ) {l : List Nat} (hl : ∀ o ∈ l, ∃ v sz es, σ[o]? = some (.arr v sz es)) {x y : AV} {v : Value} (h : RS tab w F σ γ x v) (hf : frz σ x = some y) (hs : ∀ o ∈ oslIn x, o ∈ l) :
  RS tab w F (killL σ l) γ y v := by
 obtain ⟨st, _, _⟩ := killL_ok I hl
 unfold RS at h
 induction h generalizing y with
 | fz x v h =>
  have key : RF tab w (Stab w F (killL σ l) γ) x v := h.mono fun b hb => st.stab hb
  clear hs
  have : RF tab w (Stab w F (killL σ l) γ) y v := by
   clear h
   induction key generalizing y with
   | nils a => simp [frz] at hf; subst hf; exact .sl0 a 0
   | agg cs vs hl hs hr ih =>
    simp only [frz] at hf
    cases he : frz.frzs σ cs with
    | none => simp [he] at hf
    | some ds =>
     simp [he] at hf; subst hf
     obtain ⟨q1, q2⟩ := frzs_get he
     refine .agg ds vs (by omega) (fun j x hx => ?_) (fun j x v hx hv => ?_)
     ·obtain ⟨z, hz, hfz⟩ := q2 j x hx
      exact frz_scalar (hs j z hz) hfz
     ·obtain ⟨z, hz, hfz⟩ := q2 j x hx
      exact ih j z v hz hv hfz
   | tup cs vs hl hr ih =>
    simp only [frz] at hf
    cases he : frz.frzs σ cs with
    | none => simp [he] at hf
    | some ds =>
     simp [he] at hf; subst hf
     obtain ⟨q1, q2⟩ := frzs_get he
     refine .tup ds vs (by omega) (fun j x v hx hv => ?_)
     obtain ⟨z, hz, hfz⟩ := q2 j x hx
     exact ih j z v hz hv hfz
   | int k n => simp [frz] at hf; subst hf; exact .int k n
   | bool b => simp [frz] at hf; subst hf; exact .bool b
   | str s => simp [frz] at hf; subst hf; exact .str s
   | nilp => simp [frz] at hf; subst hf; exact .nilp
   | rptr b off cs vs hb hc hs hr _ => simp [frz] at hf; subst hf; exact .rptr b off cs vs hb hc hs hr
   | sl0 a c => simp [frz] at hf; subst hf; exact .sl0 a c
   | sl b off sz cap es vs hb hz hl hc hs hr _ => simp [frz] at hf; subst hf; exact .sl b off sz cap es vs hb hz hl hc hs hr
   | fn f caps vs hl hs hr _ => simp [frz] at hf; subst hf; exact .fn f caps vs hl hs hr
   | nilfn => simp [frz] at hf; subst hf; exact .nilfn
   | nilmap => simp [frz] at hf; subst hf; exact .nilmap
   | fmap b es ms clock hb hh hl hk hr _ _ => simp [frz] at hf; subst hf; exact .fmap b es ms clock hb hh hl hk hr
   | iface t x v hr _ => simp [frz] at hf; subst hf; exact .iface t x v hr
   | nilif => simp [frz] at hf; subst hf; exact .nilif
   | zp b t hb hc => simp [frz] at hf; subst hf; exact .zp b t hb hc
   | nil0 c => simp [frz] at hf; subst hf; exact .nil0 c
   | nne a c => simp [frz] at hf; subst hf; exact .nne a c
  exact .fz _ _ this
 | osl o ver n off len v hv h =>
  simp only [frz] at hf
  cases he : elems σ (.osl o ver n off len) with
  | none => simp [he] at hf
  | some r =>
   simp [he] at hf; subst hf
   obtain ⟨sz, es, ho, hn, hle, hr⟩ := elems_arr he
   obtain ⟨x, g, h1, hg, h3⟩ := h
   rw [ho] at h1; simp at h1; subst h1
   obtain ⟨a, rfl, ha⟩ := h3.2 rfl hn.symm hle
   obtain ⟨k1, k2, k3, k4⟩ := I.ok o _ g ho hg
   have hrl : r.1.length = len := by rw [hr]; simp; omega
   by_cases h0 : len = 0
   ·have : r.1 = [] := List.eq_nil_of_length_eq_zero (by omega)
    rw [this]; subst h0
    exact .fz _ _ (.sl0 a _)
   ·have hcap : 0 < g.cap := by omega
    obtain ⟨vs, ty, e1, e2, e3⟩ := k4 hcap
    have hst := unowned I (l := l) ho hg (by simp [owns, hcap]) (hs o (by simp [oslIn]))
    rw [ha (by omega)]
    have hget : ∀ (i : Nat) (e : List AV), r.1[i]? = some e → es[off + i]? = some e := by
     intro i e hi
     rw [hr] at hi
     have hil : i < len := by have := lt_of_get hi; simp at this; omega
     rw [List.getElem?_take_of_lt hil, List.getElem?_drop] at hi
     exact hi
    have hcell : ∀ (i : Nat) (e : List AV), r.1[i]? = some e → ∀ (j : Nat) (x : AV), e[j]? = some x → ∃ u, w.cell? ⟨g.b, g.base + off * sz + i * sz + j, none⟩ = some u ∧ x.scalar = true ∧ RF tab w (Stab w F σ γ) x u := by
     intro i e hi j x hx
     obtain ⟨u, u1, u2, u3⟩ := e3 _ e (hget i e hi) j x hx
     refine ⟨u, ?_, u2, u3⟩
     simp only [World.cell?, e1]
     simp
     rw [← u1]; congr 1; rw [Nat.add_mul]; omega
    have := RF.sl (tab := tab) (w := w) (S := Stab w F (killL σ l) γ) g.b (g.base + off * sz) sz (g.cap - off) r.1 (fun i j => (w.cell? ⟨g.b, g.base + off * sz + i * sz + j, none⟩).getD undef) hst
     (fun e he' => k3 e (by rw [hr] at he'; exact List.mem_of_mem_drop (List.mem_of_mem_take he'))) (by omega)
     (fun i e hi j x hx => by obtain ⟨u, u1, _⟩ := hcell i e hi j x hx; rw [u1]; rfl)
     (fun i e hi j x hx => by obtain ⟨u, _, u2, _⟩ := hcell i e hi j x hx; exact u2)
     (fun i e hi j x hx => by obtain ⟨u, u1, _, u3⟩ := hcell i e hi j x hx; rw [u1]; exact u3.mono fun b hb => st.stab hb)
    rw [hrl] at this
    exact .fz _ _ this
 | agg cs vs hl hsc hr ih =>
  simp only [frz] at hf
  cases he : frz.frzs σ cs with
  | none => simp [he] at hf
  | some ds =>
   simp [he] at hf; subst hf
   obtain ⟨q1, q2⟩ := frzs_get he
   refine .agg ds vs (by omega) (fun j x hx => ?_) (fun j x v hx hv => ?_)
   ·obtain ⟨z, hz, hfz⟩ := q2 j x hx
    exact frz_scalar (hsc j z hz) hfz
   ·obtain ⟨z, hz, hfz⟩ := q2 j x hx
    exact ih j z v hz hv hfz (fun o ho => hs o (by simp only [oslIn]; exact mem_oslIns.2 ⟨z, List.mem_of_getElem? hz, ho⟩))
 | tup cs vs hl hr ih =>
  simp only [frz] at hf
  cases he : frz.frzs σ cs with
  | none => simp [he] at hf
  | some ds =>
   simp [he] at hf; subst hf
   obtain ⟨q1, q2⟩ := frzs_get he
   refine .tup ds vs (by omega) (fun j x v hx hv => ?_)
   obtain ⟨z, hz, hfz⟩ := q2 j x hx
   exact ih j z v hz hv hfz (fun o ho => hs o (by simp only [oslIn]; exact mem_oslIns.2 ⟨z, List.mem_of_getElem? hz, ho⟩))
 | dead v => simp [frz] at hf; subst hf; exact .dead v
 | ref o off g cs hs' hg =>
  have e : y = .ref o off := by simpa [frz] using hf.symm
  subst e
  exact RV.step st (RV.ref o off g cs hs' hg) (by simp [AV.under, lt_of_get hs'])
 | mapr o g es hs' hg =>
  have e : y = .mapr o := by simpa [frz] using hf.symm
  subst e
  exact RV.step st (RV.mapr o g es hs' hg) (by simp [AV.under, lt_of_get hs'])
 | eref o ver n i off v hv h =>
  have e : y = .eref o ver n i off := by simpa [frz] using hf.symm
  subst e
  have h0 : RS tab w F σ γ (.eref o ver n i off) v := .eref _ _ _ _ _ _ hv h
  exact RV.step st h0 h0.under
 | fn f caps vs hl hsc hr _ =>
  have e : y = .fn f caps := by simpa [frz] using hf.symm
  subst e
  have h0 : RS tab w F σ γ (.fn f caps) _ := .fn f caps vs hl hsc hr
  exact RV.step st h0 h0.under
 | iface t x v hr _ =>
  have e : y = .iface t x := by simpa [frz] using hf.symm
  subst e
  have h0 : RS tab w F σ γ (.iface t x) _ := .iface t x v hr
  exact RV.step st h0 h0.under

theorem take_ok {w : World} {F : Nat → Prop} {σ : St} {γ : List Gh} (I : Inv tab w F σ γ) {k : Nat} (hk : k ≤ σ.length) (hf : FrameOk k σ) : Step k w σ γ w (σ.take k) (γ.take k) ∧ Inv tab w F (σ.take k) (γ.take k) ∧ ∀ b, b ≤ k → Fr b σ (σ.take k) := by
 have get : ∀ (o : Nat) (x : Ob), (σ.take k)[o]? = some x → o < k ∧ σ[o]? = some x := by
  intro o x hx
  have ho : o < k := by have := lt_of_get hx; simp at this; omega
  rw [List.getElem?_take_of_lt ho] at hx
  exact ⟨ho, hx⟩
 have getg : ∀ (o : Nat) (g : Gh), o < k → (γ.take k)[o]? = some g → γ[o]? = some g := by
  intro o g ho hg
  rwa [List.getElem?_take_of_lt ho] at hg
 have hown : ∀ b, Owned (σ.take k) (γ.take k) b → Owned σ γ b := by
  rintro b ⟨o, x, g, h1, h2, h3, h4⟩
  obtain ⟨ho, hx⟩ := get o x h1
  exact ⟨o, x, g, hx, getg o g ho h2, h3, h4⟩
 have hl := I.len
 have st : Step k w σ γ w (σ.take k) (γ.take k) :=
  ⟨rfl, rfl, rfl, Nat.le_refl _, Nat.le_refl _, fun b _ hn => ⟨rfl, fun ho => hn (hown b ho)⟩, hk, by simp; omega, fun o x g ho hx hg => ⟨x, g, by rw [List.getElem?_take_of_lt ho]; exact hx, by rw [List.getElem?_take_of_lt ho]; exact hg, ObStep.refl x g⟩⟩
 refine ⟨st, ⟨by simp [hl], I.fsz, fun o x g hx hg => ?_, fun o x g hx hg ho => ?_, fun o o' x x' g g' h1 h2 h3 h4 h5 h6 h7 => ?_, I.gl.mono fun b hb => st.stab hb⟩, fun b hb k' hk' hf' o x ho hx => ?_⟩
 ·obtain ⟨ho, hx⟩ := get o x hx
  exact (I.ok o x g hx (getg o g ho hg)).step st (hf o x ho hx) fun _ => rfl
 ·obtain ⟨ho', hx⟩ := get o x hx
  exact I.own o x g hx (getg o g ho' hg) ho
 ·obtain ⟨ho, hx⟩ := get o x h1
  obtain ⟨ho', hx'⟩ := get o' x' h4
  exact I.inj o o' x x' g g' hx (getg o g ho h2) h3 hx' (getg o' g' ho' h5) h6 h7
 ·obtain ⟨_, hx⟩ := get o x hx
  exact hf' o x ho hx
end
end Go.Den

namespace Go.Den
open Go

section
variable {P : Program} {tab : Nat → Nat}
def ArgsOk (tab : Nat → Nat) (w : World) (F : Nat → Prop) (σ : St) (γ : List Gh) (xs : List AV) (vs : List Value) : Prop := vs.length = xs.length ∧ ∀ (j : Nat) (x : AV) (v : Value), xs[j]? = some x → vs[j]? = some v → RS tab w F σ γ x v
def CallPost (tab : Nat → Nat) (F : Nat → Prop) (w : World) (σ : St) (γ : List Gh) (r : AV) (σ' : St) (e : Ending) (w' : World) : Prop :=
 ∃ v γ', e = .returned v ∧ Step σ.length w σ γ w' σ' γ' ∧ Inv tab w' F σ' γ' ∧ RS tab w' F σ' γ' r v ∧ Fr σ.length σ σ'
def CallOk (P : Program) (tab : Nat → Nat) (call : CallF) : Prop := ∀ f args σ r σ', call f args σ = some (r, σ') → ∀ (w : World) (F : Nat → Prop) (γ : List Gh) (vals : List Value), Inv tab w F σ γ → ArgsOk tab w F σ γ args vals →
  Calls P (tab f) vals.toArray w (CallPost tab F w σ γ r σ')

theorem RF.iffS {w : World} {S S' : Nat → Prop} (h : ∀ b, S b → S' b) {x : AV} {v : Value} (hr : RF tab w S x v) : RF tab w S' x v := hr.mono fun b hb => ⟨h b hb, rfl⟩
theorem shiftSt_get (k : Nat) : ∀ (σ : St) (o : Nat), (shiftSt k σ)[o]? = (σ[o]?).map (Ob.shift k)
 | [], o => by simp [shiftSt]
 | x :: r, o => by
  cases o with
  | zero => simp [shiftSt]
  | succ o => simpa [shiftSt] using shiftSt_get k r o
theorem shiftSt_length (k : Nat) (σ : St) : (shiftSt k σ).length = σ.length := by
 induction σ with
 | nil => rfl
 | cons x r ih => simp [shiftSt, ih]
theorem shifts_get (k : Nat) (l : List AV) (j : Nat) : (shifts k l)[j]? = (l[j]?).map (AV.shift k) := by
 induction l generalizing j with
 | nil => simp [shifts, AV.shift.shifts]
 | cons x r ih =>
  cases j with
  | zero => simp [shifts, AV.shift.shifts]
  | succ j => simpa [shifts, AV.shift.shifts] using ih j
theorem shifts_length (k : Nat) (l : List AV) : (shifts k l).length = l.length := by
 induction l with
 | nil => rfl
 | cons x r ih => simpa [shifts, AV.shift.shifts] using ih
theorem shift_scalar (k : Nat) {x : AV} (h : x.scalar = true) : (x.shift k).scalar = true := by cases x <;> first | rfl | exact absurd h (by simp [AV.scalar])
theorem shiftPs_get (k : Nat) : ∀ (l : List (AV × AV)) (j : Nat), (shiftPs k l)[j]? = (l[j]?).map fun p => (p.1.shift k, p.2.shift k)
 | [], j => by simp [shiftPs]
 | (a, b) :: r, j => by
  cases j with
  | zero => simp [shiftPs]
  | succ j => simpa [shiftPs] using shiftPs_get k r j
theorem shiftPs_length (k : Nat) (l : List (AV × AV)) : (shiftPs k l).length = l.length := by
 induction l with
 | nil => rfl
 | cons x r ih => obtain ⟨a, b⟩ := x; simp [shiftPs, ih]
theorem RF.shift {w : World} {S : Nat → Prop} {x : AV} {v : Value} (k : Nat) (h : RF tab w S x v) : RF tab w S (x.shift k) v := by
 induction h with
 | fn f caps vs hl hs hr ih =>
  refine .fn f _ vs (by rw [shifts_length]; exact hl) (fun j x hx => ?_) (fun j x v hx hv => ?_)
  all_goals
   rw [shifts_get] at hx
   cases hc : caps[j]? with
   | none => simp [hc] at hx
   | some y => simp [hc] at hx; subst hx; first | exact shift_scalar k (hs j y hc) | exact ih j y v hc hv
 | agg cs vs hl hs hr ih =>
  refine .agg _ vs (by rw [shifts_length]; exact hl) (fun j x hx => ?_) (fun j x v hx hv => ?_)
  all_goals
   rw [shifts_get] at hx
   cases hc : cs[j]? with
   | none => simp [hc] at hx
   | some y => simp [hc] at hx; subst hx; first | exact shift_scalar k (hs j y hc) | exact ih j y v hc hv
 | tup cs vs hl hr ih =>
  refine .tup _ vs (by rw [shifts_length]; exact hl) (fun j x v hx hv => ?_)
  rw [shifts_get] at hx
  cases hc : cs[j]? with
  | none => simp [hc] at hx
  | some y => simp [hc] at hx; subst hx; exact ih j y v hc hv
 | iface t x v hr ih => exact .iface t _ v ih
 | int k n => exact .int k n
 | bool b => exact .bool b
 | str s => exact .str s
 | nilp => exact .nilp
 | rptr b off cs vs hb hc hs hr _ => exact .rptr b off cs vs hb hc hs hr
 | nils a => exact .nils a
 | sl0 a c => exact .sl0 a c
 | sl b off sz cap es vs hb hz hl hc hs hr _ => exact .sl b off sz cap es vs hb hz hl hc hs hr
 | nilfn => exact .nilfn
 | nilmap => exact .nilmap
 | fmap b es ms clock hb hh hl hk hr _ _ => exact .fmap b es ms clock hb hh hl hk hr
 | nilif => exact .nilif
 | zp b t hb hc => exact .zp b t hb hc
 | nil0 c => exact .nil0 c
 | nne a c => exact .nne a c
theorem RV.shift {w : World} {S : Nat → Prop} {σ σr : St} {γ γr : List Gh} (hl : γ.length = σ.length) {x : AV} {v : Value} (h : RV tab w S σr γr x v) : RV tab w S (σ ++ shiftSt σ.length σr) (γ ++ γr) (x.shift σ.length) v := by
 have gs : ∀ (o : Nat) (x : Ob), σr[o]? = some x → (σ ++ shiftSt σ.length σr)[σ.length + o]? = some (x.shift σ.length) := by
  intro o x hx
  rw [List.getElem?_append_right (by omega), Nat.add_sub_cancel_left, shiftSt_get, hx]; rfl
 have gg : ∀ (o : Nat) (g : Gh), γr[o]? = some g → (γ ++ γr)[σ.length + o]? = some g := by
  intro o g hg
  rw [List.getElem?_append_right (by omega), hl, Nat.add_sub_cancel_left, hg]
 induction h with
 | fz x v h => exact .fz _ _ (h.shift _)
 | dead v => exact .dead v
 | ref o off g cs hs hg => exact .ref _ off g _ (gs o _ hs) (gg o g hg)
 | mapr o g es hs hg => exact .mapr _ g _ (gs o _ hs) (gg o g hg)
 | osl o ver n off len v hv h =>
  obtain ⟨x, g, hx, hg, h⟩ := h
  refine .osl _ _ _ _ _ _ hv ⟨_, g, gs o x hx, gg o g hg, ?_⟩
  cases x <;> exact h
 | eref o ver n i off v hv h =>
  obtain ⟨x, g, hx, hg, h⟩ := h
  refine .eref _ _ _ _ _ _ hv ⟨_, g, gs o x hx, gg o g hg, ?_⟩
  cases x <;> exact h
 | fn f caps vs hl hs hr ih =>
  refine .fn f _ vs (by rw [shifts_length]; exact hl) (fun j x hx => ?_) (fun j x v hx hv => ?_)
  all_goals
   rw [shifts_get] at hx
   cases hc : caps[j]? with
   | none => simp [hc] at hx
   | some y => simp [hc] at hx; subst hx; first | exact shift_scalar _ (hs j y hc) | exact ih j y v hc hv
 | agg cs vs hl hs hr ih =>
  refine .agg _ vs (by rw [shifts_length]; exact hl) (fun j x hx => ?_) (fun j x v hx hv => ?_)
  all_goals
   rw [shifts_get] at hx
   cases hc : cs[j]? with
   | none => simp [hc] at hx
   | some y => simp [hc] at hx; subst hx; first | exact shift_scalar _ (hs j y hc) | exact ih j y v hc hv
 | tup cs vs hl hr ih =>
  refine .tup _ vs (by rw [shifts_length]; exact hl) (fun j x v hx hv => ?_)
  rw [shifts_get] at hx
  cases hc : cs[j]? with
  | none => simp [hc] at hx
  | some y => simp [hc] at hx; subst hx; exact ih j y v hc hv
 | iface t x v hr ih => exact .iface t _ v ih
theorem RV.iffS {w : World} {S S' : Nat → Prop} {σ : St} {γ : List Gh} (h : ∀ b, S b → S' b) {x : AV} {v : Value} (hr : RV tab w S σ γ x v) : RV tab w S' σ γ x v := by
 induction hr with
 | fz x v hx => exact .fz x v (hx.iffS h)
 | dead v => exact .dead v
 | ref o off g cs hs hg => exact .ref o off g cs hs hg
 | mapr o g es hs hg => exact .mapr o g es hs hg
 | osl o ver n off len v hv h => exact .osl _ _ _ _ _ _ hv h
 | eref o ver n i off v hv h => exact .eref _ _ _ _ _ _ hv h
 | fn f caps vs hl hs _ ih => exact .fn f caps vs hl hs ih
 | agg cs vs hl hs _ ih => exact .agg cs vs hl hs ih
 | tup cs vs hl _ ih => exact .tup cs vs hl ih
 | iface t x v _ ih => exact .iface t x v ih
theorem ObOk.shift {w : World} {S S' : Nat → Prop} {σ σr : St} {γ γr : List Gh} (hS : ∀ b, S b → S' b) (hl : γ.length = σ.length) {x : Ob} {g : Gh} (h : ObOk tab w S σr γr x g) : ObOk tab w S' (σ ++ shiftSt σ.length σr) (γ ++ γr) (x.shift σ.length) g := by
 cases x with
 | dead => trivial
 | res => trivial
 | arr v sz es =>
  obtain ⟨h1, h2, h3, h4⟩ := h
  refine ⟨h1, h2, h3, fun hc => ?_⟩
  obtain ⟨vs, ty, e1, e2, e3⟩ := h4 hc
  exact ⟨vs, ty, e1, e2, fun i e he j x hx => by
   obtain ⟨u, u1, u2, u3⟩ := e3 i e he j x hx
   exact ⟨u, u1, u2, u3.iffS hS⟩⟩
 | cells cs =>
  obtain ⟨vs, ty, e1, e2, e3, e4⟩ := h
  refine ⟨vs, ty, e1, by rw [shifts_length]; exact e2, fun j x hx => ?_, fun j x v hx hv => ?_⟩
  all_goals
   rw [shifts_get] at hx
   cases hc : cs[j]? with
   | none => simp [hc] at hx
   | some y => simp [hc] at hx; subst hx; first | exact shift_scalar _ (e3 j y hc) | exact ((e4 j y v hc hv).iffS hS).shift hl
 | map es =>
  obtain ⟨ms, clock, e1, e2, e3⟩ := h
  refine ⟨ms, clock, e1, by rw [shiftPs_length]; exact e2, fun j p m hp hm => ?_⟩
  rw [shiftPs_get] at hp
  cases hc : es[j]? with
  | none => simp [hc] at hp
  | some y =>
   simp [hc] at hp; subst hp
   obtain ⟨q1, q2⟩ := e3 j y m hc hm
   exact ⟨(q1.iffS hS).shift _, (q2.iffS hS).shift hl⟩
theorem owns_shift (k : Nat) (x : Ob) (g : Gh) : owns (x.shift k) g = owns x g := by cases x <;> rfl

theorem join_ok {w w' : World} {F : Nat → Prop} {σ σr : St} {γ γr : List Gh} (I : Inv tab w F σ γ) (st : Step 0 w [] [] w' σr γr) (J : Inv tab w' (fun b => F b ∨ Owned σ γ b) σr γr) :
  Step σ.length w σ γ w' (σ ++ shiftSt σ.length σr) (γ ++ γr) ∧ Inv tab w' F (σ ++ shiftSt σ.length σr) (γ ++ γr) ∧ Fr σ.length σ (σ ++ shiftSt σ.length σr) ∧
   ∀ {x : AV} {v : Value}, RS tab w' (fun b => F b ∨ Owned σ γ b) σr γr x v → RS tab w' F (σ ++ shiftSt σ.length σr) (γ ++ γr) (x.shift σ.length) v := by
 have hl := I.len
 have get : ∀ (o : Nat) (x : Ob) (g : Gh), (σ ++ shiftSt σ.length σr)[o]? = some x → (γ ++ γr)[o]? = some g → (o < σ.length ∧ σ[o]? = some x ∧ γ[o]? = some g) ∨
   (σ.length ≤ o ∧ ∃ y, x = y.shift σ.length ∧ σr[o - σ.length]? = some y ∧ γr[o - σ.length]? = some g) := by
  intro o x g hx hg
  rcases Nat.lt_or_ge o σ.length with h | h
  ·rw [List.getElem?_append_left h] at hx
   rw [List.getElem?_append_left (by omega)] at hg
   exact .inl ⟨h, hx, hg⟩
  ·rw [List.getElem?_append_right h, shiftSt_get] at hx
   rw [List.getElem?_append_right (by omega), hl] at hg
   cases hy : σr[o - σ.length]? with
   | none => simp [hy] at hx
   | some y => simp [hy] at hx; exact .inr ⟨h, y, hx.symm, rfl, hg⟩
 have noOwn : ∀ b, ¬ Owned [] [] b := by rintro b ⟨o, x, g, h, _⟩; simp at h
 have own1 : ∀ b, Owned (σ ++ shiftSt σ.length σr) (γ ++ γr) b → Owned σ γ b ∨ Owned σr γr b := by
  rintro b ⟨o, x, g, h1, h2, h3, h4⟩
  rcases get o x g h1 h2 with ⟨_, q1, q2⟩ | ⟨_, y, rfl, q1, q2⟩
  ·exact .inl ⟨o, x, g, q1, q2, h3, h4⟩
  ·exact .inr ⟨_, y, g, q1, q2, by rw [owns_shift] at h3; exact h3, h4⟩
 have own2 : ∀ b, Owned σ γ b ∨ Owned σr γr b → Owned (σ ++ shiftSt σ.length σr) (γ ++ γr) b := by
  rintro b (⟨o, x, g, h1, h2, h3, h4⟩ | ⟨o, x, g, h1, h2, h3, h4⟩)
  ·have ho := lt_of_get h1
   exact ⟨o, x, g, by rw [List.getElem?_append_left ho]; exact h1, by rw [List.getElem?_append_left (by omega)]; exact h2, h3, h4⟩
  ·exact ⟨σ.length + o, x.shift σ.length, g, by rw [List.getElem?_append_right (by omega), Nat.add_sub_cancel_left, shiftSt_get, h1]; rfl, by rw [List.getElem?_append_right (by omega), hl, Nat.add_sub_cancel_left, h2], by rw [owns_shift]; exact h3, h4⟩
 have st2 : Step σ.length w σ γ w' (σ ++ shiftSt σ.length σr) (γ ++ γr) := by
  refine ⟨st.os, st.tape, st.output, st.drawn, st.size, fun b hb hn => ?_, Nat.le_refl _, by simp, fun o x g ho hx hg => ?_⟩
  ·obtain ⟨q1, q2⟩ := st.keep b hb (noOwn b)
   exact ⟨q1, fun h => (own1 b h).elim hn q2⟩
  ·exact ⟨x, g, by rw [List.getElem?_append_left ho]; exact hx, by rw [List.getElem?_append_left (by omega)]; exact hg, ObStep.refl x g⟩
 have hS : ∀ b, Stab w' (fun b => F b ∨ Owned σ γ b) σr γr b → Stab w' F (σ ++ shiftSt σ.length σr) (γ ++ γr) b := by
  rintro b ⟨h1, h2, h3⟩
  exact ⟨h1, fun hF => h2 (.inl hF), fun ho => (own1 b ho).elim (fun h => h2 (.inr h)) h3⟩
 refine ⟨st2, ⟨by simp [hl, J.len, shiftSt_length], fun b hb => Nat.lt_of_lt_of_le (I.fsz b hb) st.size, fun o x g hx hg => ?_, fun o x g hx hg ho => ?_, fun o o' x x' g g' h1 h2 h3 h4 h5 h6 h7 => ?_, I.gl.mono fun b hb => st2.stab hb⟩, Fr.push (Nat.le_refl _) _, fun {x v} hr => (RV.iffS hS hr).shift hl⟩
 ·rcases get o x g hx hg with ⟨ho, q1, q2⟩ | ⟨ho, y, rfl, q1, q2⟩
  ·have h0 := I.ok o x g q1 q2
   exact h0.step st2 h0.under fun hw => (st.keep g.b (I.own o x g q1 q2 hw).1 (noOwn _)).1
  ·exact (J.ok _ y g q1 q2).shift hS hl
 ·rcases get o x g hx hg with ⟨ho', q1, q2⟩ | ⟨ho', y, rfl, q1, q2⟩
  ·obtain ⟨k1, k2⟩ := I.own o x g q1 q2 ho
   exact ⟨Nat.lt_of_lt_of_le k1 st.size, k2⟩
  ·rw [owns_shift] at ho
   obtain ⟨k1, k2⟩ := J.own _ y g q1 q2 ho
   exact ⟨k1, fun hF => k2 (.inl hF)⟩
 ·rcases get o x g h1 h2 with ⟨ho, q1, q2⟩ | ⟨ho, y, rfl, q1, q2⟩ <;> rcases get o' x' g' h4 h5 with ⟨ho', q1', q2'⟩ | ⟨ho', y', rfl, q1', q2'⟩
  ·exact I.inj o o' x x' g g' q1 q2 h3 q1' q2' h6 h7
  ·rw [owns_shift] at h6
   exact ((J.own _ y' g' q1' q2' h6).2 (.inr ⟨o, x, g, q1, q2, h3, h7⟩)).elim
  ·rw [owns_shift] at h3
   exact ((J.own _ y g q1 q2 h3).2 (.inr ⟨o', x', g', q1', q2', h6, h7.symm⟩)).elim
  ·rw [owns_shift] at h3 h6
   have := J.inj _ _ y y' g g' q1 q2 h3 q1' q2' h6 h7
   omega
theorem inv_empty {w : World} {F : Nat → Prop} (h : ∀ b, F b → b < w.heap.size) (hg : GOk tab w (Stab w F [] [])) : Inv tab w F [] [] :=
 ⟨rfl, h, fun o x g hx => by simp at hx, fun o x g hx => by simp at hx, fun o o' x x' g g' hx => by simp at hx, hg⟩
theorem GOk.call {w : World} {F : Nat → Prop} {σ : St} {γ : List Gh} (h : GOk tab w (Stab w F σ γ)) : GOk tab w (Stab w (fun b => F b ∨ Owned σ γ b) [] []) :=
 h.mono fun b hb => ⟨⟨hb.1, fun o => o.elim hb.2.1 hb.2.2, fun ⟨o, x, g, hx, _⟩ => by simp at hx⟩, rfl⟩
theorem norms_args {w : World} {F : Nat → Prop} {σ : St} {γ : List Gh} {xs : List AV} {vs : List Value} (h : ArgsOk tab w F σ γ xs vs) : ArgsOk tab w F σ γ (norms xs) vs :=
 ⟨by rw [norms_length]; exact h.1, fun j x v hx hv => by
  rw [norms_get] at hx
  cases hc : xs[j]? with
  | none => simp [hc] at hx
  | some y => simp [hc] at hx; subst hx; exact (h.2 j y v hc hv).norm⟩
theorem callOp_ok {call : CallF} (C : CallOk P tab call) {mode f : Nat} {args : List AV} {σ : St} {r : AV} {σ' : St} {t : Bool} (h : callOp call mode f args σ = some (r, σ', t)) {w : World} {F : Nat → Prop} {γ : List Gh} {vals : List Value} (I : Inv tab w F σ γ) (A : ArgsOk tab w F σ γ args vals) :
  Calls P (tab f) vals.toArray w (CallPost tab F w σ γ r σ') := by
 -- what is handed on
 have key : ∀ (as : List AV) (σ1 : St) (γ1 : List Gh), Step σ.length w σ γ w σ1 γ1 → Inv tab w F σ1 γ1 → Fr σ.length σ σ1 → σ1.length = σ.length → ArgsOk tab w F σ1 γ1 as vals →
   (if norefs as = true then
    match call f as [] with
    | none => none
    | some (r, σr) => if r.noref && σr.isEmpty then some (r, σ1, mode == 2) else some (r.shift σ1.length, σ1 ++ shiftSt σ1.length σr, true)
   else match call f as σ1 with
    | none => none
    | some (r, σ') => some (r, σ', true)) = some (r, σ', t) → Calls P (tab f) vals.toArray w (CallPost tab F w σ γ r σ') := by
  intro as σ1 γ1 st1 I1 fr1 hlen1 A1 h
  split at h
  ·rename_i hn
   cases hc : call f as [] with
   | none => simp [hc] at h
   | some q =>
    obtain ⟨r0, σr⟩ := q
    simp only [hc] at h
    have hF : ∀ b, (F b ∨ Owned σ1 γ1 b) → b < w.heap.size := by
     rintro b (hb | ⟨o, x, g, h1, h2, h3, h4⟩)
     ·exact I1.fsz b hb
     ·rw [← h4]; exact (I1.own o x g h1 h2 h3).1
    have hS : ∀ b, Stab w F σ1 γ1 b → Stab w (fun b => F b ∨ Owned σ1 γ1 b) [] [] b := by
     rintro b ⟨h1, h2, h3⟩
     exact ⟨h1, fun hh => hh.elim h2 h3, by rintro ⟨o, x, g, h, _⟩; simp at h⟩
    have hA : ArgsOk tab w (fun b => F b ∨ Owned σ1 γ1 b) [] [] as vals := ⟨A1.1, fun j x v hx hv => .fz _ _ (((A1.2 j x v hx hv).frozen ((norefs_iff as).1 hn j x hx)).iffS hS)⟩
    refine Calls.mono (C f as [] r0 σr hc w _ [] vals (inv_empty hF I1.gl.call) hA) ?_
    rintro e w' ⟨v, γr, rfl, st, J, hr, _⟩
    obtain ⟨j1, j2, j3, j4⟩ := join_ok I1 st J
    split at h
    ·rename_i hne
     simp only [Bool.and_eq_true, List.isEmpty_iff] at hne
     obtain ⟨hn0, rfl⟩ := hne
     simp at h; obtain ⟨rfl, rfl, _⟩ := h
     have hγ : γr = [] := List.eq_nil_of_length_eq_zero (by simpa using J.len)
     subst hγ
     simp only [shiftSt, List.append_nil] at j1 j2 j3 j4
     have hrf := hr.frozen hn0
     refine ⟨v, γ1, rfl, st1.trans (j1.mono (by omega)), j2, .fz _ _ (hrf.iffS ?_), fr1⟩
     rintro b ⟨h1, h2, h3⟩
     exact ⟨h1, fun hF => h2 (.inl hF), fun ho => h2 (.inr ho)⟩
    ·simp at h; obtain ⟨rfl, rfl, _⟩ := h
     exact ⟨v, _, rfl, st1.trans (j1.mono (by omega)), j2, j4 hr, fr1.trans (by rw [← hlen1]; exact j3)⟩
  ·cases hc : call f as σ1 with
   | none => simp [hc] at h
   | some q =>
    obtain ⟨r0, σ2⟩ := q
    simp [hc] at h; obtain ⟨rfl, rfl, _⟩ := h
    refine Calls.mono (C f as σ1 _ _ hc w F γ1 vals I1 A1) ?_
    rintro e w' ⟨v, γ', rfl, st, J, hr, fr⟩
    exact ⟨v, γ', rfl, st1.trans (st.mono (by omega)), J, hr, fr1.trans (by rw [← hlen1]; exact fr)⟩
 unfold callOp at h
 split at h
 ·exact absurd h (by simp)
 ·rename_i as σ1 hsel
  split at hsel
  ·simp at hsel; obtain ⟨rfl, rfl⟩ := hsel
   exact key args σ γ (Step.refl w γ (Nat.le_refl _)) I (Fr.refl _ _) rfl A h
  ·split at hsel
   ·obtain ⟨ds, hd, e⟩ := Option.map_eq_some_iff.1 hsel
    simp at e; obtain ⟨rfl, rfl⟩ := e
    obtain ⟨g1, g2⟩ := frzs_get hd
    have hl : ∀ o ∈ oslIns args, ∃ v sz es, σ[o]? = some (.arr v sz es) := fun o ho => frz_arr.go args hd ho
    obtain ⟨k1, k2, k3⟩ := killL_ok I hl
    rw [kill_eq.kills_eq] at h
    refine key ds _ γ k1 k2 (k3 _) (killL_length _ _) ⟨by rw [g1]; exact A.1, fun j y v hy hv => ?_⟩ h
    obtain ⟨x, hx, hf⟩ := g2 j y hy
    exact frz_read I hl (A.2 j x v hx hv) hf (fun o ho => mem_oslIns.2 ⟨x, List.mem_of_getElem? hx, ho⟩)
   ·simp at hsel; obtain ⟨rfl, rfl⟩ := hsel
    exact key _ σ γ (Step.refl w γ (Nat.le_refl _)) I (Fr.refl _ _) rfl (norms_args A) h
theorem bare_open {w w' : World} {S S' : Nat → Prop} {x : AV} {v : Value} (h : RF tab w S x v) : x.bare = true → RF tab w' S' x v := by
 induction h with
 | int k n => exact fun _ => .int k n
 | bool b => exact fun _ => .bool b
 | str s => exact fun _ => .str s
 | agg cs vs hl hs hr ih => exact fun hb => .agg cs vs hl hs fun j x v hx hv => ih j x v hx hv (bares_get hb hx)
 | tup cs vs hl hr ih => exact fun hb => .tup cs vs hl fun j x v hx hv => ih j x v hx hv (bares_get hb hx)
 | _ => exact fun hb => absurd hb (by simp [AV.bare])
where bares_get : ∀ {cs : List AV}, bares cs = true → ∀ {j : Nat} {x : AV}, cs[j]? = some x → x.bare = true
 | [], _, j, x, hx => by simp at hx
 | y :: r, hb, j, x, hx => by
  simp only [bares, AV.bare.bares, Bool.and_eq_true] at hb
  cases j with
  | zero => simp at hx; exact hx ▸ hb.1
  | succ j => exact bares_get hb.2 (by simpa using hx)
theorem bare_noref : ∀ {x : AV}, x.bare = true → x.noref = true
 | .int _ _, _ | .bool _, _ | .str _, _ => rfl
 | .agg cs, h => go cs h
 | .tup cs, h => go cs h
where go : ∀ cs : List AV, bares cs = true → norefs cs = true
 | [], _ => rfl
 | x :: r, h => by
  simp only [bares, AV.bare.bares, Bool.and_eq_true] at h
  simp only [norefs, AV.noref.norefs, Bool.and_eq_true]
  exact ⟨bare_noref h.1, go r h.2⟩
theorem viewOp_ok {call : CallF} (C : CallOk P tab call) {f : Nat} {args : List AV} {σ : St} {r : AV} {σ' : St} {t : Bool} (h : viewOp call f args σ = some (r, σ', t)) {w : World} {F : Nat → Prop} {γ : List Gh} {vals : List Value} (I : Inv tab w F σ γ) (A : ArgsOk tab w F σ γ args vals) :
  Calls P (tab f) vals.toArray w (CallPost tab F w σ γ r σ') := by
 unfold viewOp at h
 split at h
 case isFalse => exact absurd h (by simp)
 cases hd : frzs σ args with
 | none => simp [hd] at h
 | some as =>
  rw [hd] at h
  simp only [Option.bind_some] at h
  split at h
  ·rename_i hn
   cases hc : call f as [] with
   | none => simp [hc] at h
   | some q =>
    obtain ⟨r0, σr⟩ := q
    simp only [hc, Option.bind_some] at h
    split at h
    ·rename_i hb
     simp only [Bool.and_eq_true, List.isEmpty_iff] at hb
     obtain ⟨hb0, rfl⟩ := hb
     simp at h; obtain ⟨rfl, rfl, _⟩ := h
     obtain ⟨g1, g2⟩ := frzs_get hd
     have hl : ∀ o ∈ oslIns args, ∃ v sz es, σ[o]? = some (.arr v sz es) := fun o ho => frz_arr.go args hd ho
     obtain ⟨k1, k2, k3⟩ := killL_ok I hl
     have A1 : ArgsOk tab w F (killL σ (oslIns args)) γ as vals := ⟨by rw [g1]; exact A.1, fun j y v hy hv => by
      obtain ⟨x, hx, hf⟩ := g2 j y hy
      exact frz_read I hl (A.2 j x v hx hv) hf (fun o ho => mem_oslIns.2 ⟨x, List.mem_of_getElem? hx, ho⟩)⟩
     have hF : ∀ b, (F b ∨ Owned (killL σ (oslIns args)) γ b) → b < w.heap.size := by
      rintro b (hb | ⟨o, x, g, h1, h2, h3, h4⟩)
      ·exact k2.fsz b hb
      ·rw [← h4]; exact (k2.own o x g h1 h2 h3).1
     have hS : ∀ b, Stab w F (killL σ (oslIns args)) γ b → Stab w (fun b => F b ∨ Owned (killL σ (oslIns args)) γ b) [] [] b := by
      rintro b ⟨h1, h2, h3⟩
      exact ⟨h1, fun hh => hh.elim h2 h3, by rintro ⟨o, x, g, h, _⟩; simp at h⟩
     have hA : ArgsOk tab w (fun b => F b ∨ Owned (killL σ (oslIns args)) γ b) [] [] as vals := ⟨A1.1, fun j x v hx hv => .fz _ _ (((A1.2 j x v hx hv).frozen ((norefs_iff as).1 hn j x hx)).iffS hS)⟩
     refine Calls.mono (C f as [] r0 [] hc w _ [] vals (inv_empty hF k2.gl.call) hA) ?_
     rintro e w' ⟨v, γr, rfl, st, J, hr, _⟩
     have hγ : γr = [] := List.eq_nil_of_length_eq_zero (by simpa using J.len)
     subst hγ
     have hF0 : ∀ b, (F b ∨ Owned σ γ b) → b < w.heap.size := by
      rintro b (hb | ⟨o, x, g, h1, h2, h3, h4⟩)
      ·exact I.fsz b hb
      ·rw [← h4]; exact (I.own o x g h1 h2 h3).1
     have st0 : Step ([] : St).length w [] [] w' [] [] := st
     have J0 : Inv tab w' (fun b => F b ∨ Owned σ γ b) [] [] := inv_empty (fun b hb => Nat.lt_of_lt_of_le (hF0 b hb) st.size) (I.gl.call.mono fun b hb => st.stab hb)
     obtain ⟨j1, j2, j3, j4⟩ := join_ok I st0 J0
     simp only [shiftSt, List.append_nil] at j1 j2 j3 j4
     exact ⟨v, γ, rfl, j1, j2, .fz _ _ (bare_open (hr.frozen (bare_noref hb0)) hb0), Fr.refl _ _⟩
    ·exact absurd h (by simp)
  ·exact absurd h (by simp)
theorem callX_ok {call : CallF} (C : CallOk P tab call) {mode f : Nat} {args : List AV} {σ : St} {r : AV} {σ' : St} {t : Bool} (h : callX call mode f args σ = some (r, σ', t)) {w : World} {F : Nat → Prop} {γ : List Gh} {vals : List Value} (I : Inv tab w F σ γ) (A : ArgsOk tab w F σ γ args vals) :
  Calls P (tab f) vals.toArray w (CallPost tab F w σ γ r σ') := by
 unfold callX at h
 split at h
 ·exact viewOp_ok C h I A
 ·split at h
  ·exact absurd h (by simp)
  ·exact callOp_ok C h I A
end
end Go.Den

namespace Go.Den
open Go
def methB (P : Program) (t : TypeId) (name : String) (f : FuncId) : Bool := match P.info? t with
 | some i => (match i.methods.find? (fun m => m.name == name) with
  | some m => m.path.isEmpty && (match m.func with
   | some (g, false) => g == f
   | _ => false)
  | none => false) && (match P.underlying t with
  | some (.pointer _) => false
  | some _ => true
  | none => false)
 | none => false
theorem run_method {P : Program} {t : TypeId} {name : String} {f : FuncId} (h : methB P t name f = true) (n : Nat) (v : Value) (w : World) : (method (n + 1) t v name).run P w = .ok (f, v) w := by
 unfold methB at h
 split at h
 ·rename_i i hi
  simp only [Bool.and_eq_true] at h
  obtain ⟨h1, h2⟩ := h
  split at h1
  ·rename_i m hm
   simp only [Bool.and_eq_true] at h1
   obtain ⟨hp, hf⟩ := h1
   split at hf
   ·rename_i g hg
    have e : g = f := by simpa using hf
    subst e
    have hp2 : m.path = #[] := by simpa using hp
    unfold method
    cases hu : P.underlying t with
    | none => rw [hu] at h2; exact absurd h2 (by simp)
    | some d =>
     rw [hu] at h2
     have hun := run_underlying hu w
     have hty := run_typeInfo w hi
     cases d <;> first
      | (simp at h2; done)
      | (simp [hty, hm, hp2, hg, follow, receiverAt, hun, Place.get])
   ·exact absurd hf (by simp)
  ·exact absurd h1 (by simp)
 ·exact absurd h (by simp)
theorem run_inv {P : Program} {t : TypeId} {name : String} {f : FuncId} (h : methB P t name f = true) (v : Value) (args : Array Value) (w : World) (hf : (callFunc f (#[v] ++ args)).run P w = .ok (.enter f (#[v] ++ args)) w) :
  (invoke (.fn (.method name) #[]) (#[.iface t v] ++ args)).run P w = .ok (.enter f (#[v] ++ args)) w := by
 have hm := run_method h (P.types.size + 99) v w
 have e : (#[Value.iface t v] ++ args).extract 1 (#[Value.iface t v] ++ args).size = args := by
  apply Array.ext'
  simp
 have hd : Made.depth = 100 := rfl
 unfold invoke
 have e0 : (#[Value.iface t v] ++ args)[0]? = some (Value.iface t v) := by
  rw [Array.getElem?_append_left (Nat.zero_lt_one)]; rfl
 simp only [callMethod, e, e0]
 simp [hd, hm, hf]
end Go.Den

namespace Go.Den
open Go

section
variable {P : Program} {tab : Nat → Nat}
structure Fst (tab : Nat → Nat) (F : Nat → Prop) (base : Nat) (w : World) (σ : St) (γ : List Gh) (env : Env) (tmps : Array Value) : Prop where
 inv : Inv tab w F σ γ
 env : EnvOk tab w F σ γ env tmps
 hb : base ≤ σ.length
 frame : FrameOk base σ
structure Goes (base : Nat) (w : World) (σ : St) (γ : List Gh) (w' : World) (σ' : St) (γ' : List Gh) : Prop where
 step : Step base w σ γ w' σ' γ'
 fr : Fr base σ σ'
theorem Goes.refl {base : Nat} (w : World) {σ : St} (γ : List Gh) (h : base ≤ σ.length) : Goes base w σ γ w σ γ := ⟨Step.refl w γ h, Fr.refl _ _⟩
theorem Goes.trans {base : Nat} {w w1 w2 : World} {σ σ1 σ2 : St} {γ γ1 γ2 : List Gh} (a : Goes base w σ γ w1 σ1 γ1) (b : Goes base w1 σ1 γ1 w2 σ2 γ2) : Goes base w σ γ w2 σ2 γ2 := ⟨a.step.trans b.step, a.fr.trans b.fr⟩

theorem env_put {w : World} {F : Nat → Prop} {σ : St} {γ : List Gh} {env : Env} {tmps : Array Value} (E : EnvOk tab w F σ γ env tmps) {N : Nat} (hN : tmps.size = N) {dst : Option Nat} (hd : ∀ d, dst = some d → d < N) {x : AV} {v : Value} (hx : RS tab w F σ γ x v) {defers : List Deferred} :
  EnvOk tab w F σ γ (env.put dst x) (({ tmps, defers } : Act).put dst v).tmps := by
 cases dst with
 | none => exact E
 | some d =>
  intro t
  have := hd d rfl
  simp only [Env.put, Env.get, Act.put]
  by_cases e : d = t
  ·subst e
   simp only [if_true]
   have : (tmps.setIfInBounds d v).getD d undef = v := by simp [Array.getD, show d < tmps.size by omega]
   rw [this]; exact hx
  ·rw [if_neg e]
   have : (tmps.setIfInBounds d v).getD t undef = tmps.getD t undef := by
    simp only [Array.getD_eq_getD_getElem?, Array.getElem?_setIfInBounds_ne e]
   rw [this]; exact E t
theorem env_step {w w1 : World} {F : Nat → Prop} {σ σ1 : St} {γ γ1 : List Gh} (st : Step σ.length w σ γ w1 σ1 γ1) {env : Env} {tmps : Array Value} (E : EnvOk tab w F σ γ env tmps) : EnvOk tab w1 F σ1 γ1 env tmps := fun t => (E t).step st (E t).under

def nameB (P : Program) (f : FuncId) : Bool := match P.funcs[f]? with
 | some fn => fn.name != "runtime.NumGoroutine" && fn.body.isSome
 | none => false
def tblB (P : Program) (tab : Nat → Nat) (nm : String) : List (Nat × Nat) → Bool
 | [] => true
 | (t, f) :: r => methB P t nm (tab f) && nameB P (tab f) && tblB P tab nm r
theorem tblB_ok {P : Program} {tab : Nat → Nat} {nm : String} : ∀ {tbl : List (Nat × Nat)}, tblB P tab nm tbl = true → ∀ {t f : Nat}, tlook tbl t = some f → methB P t nm (tab f) = true ∧ nameB P (tab f) = true
 | [], _, _, _, h => by simp [tlook] at h
 | (u, g) :: r, hb, t, f, h => by
  simp only [tblB, Bool.and_eq_true] at hb
  simp only [tlook] at h
  split at h
  ·rename_i e; subst e; simp at h; subst h; exact hb.1
  ·exact tblB_ok hb.2 h
theorem iface_open2 {w : World} {F : Nat → Prop} {σ : St} {γ : List Gh} {t : Nat} {x : AV} {u : Value} (h : RS tab w F σ γ (.iface t x) u) : ∃ v, u = .iface t v ∧ RS tab w F σ γ x v := by
 cases h with
 | fz _ _ h0 => cases h0 with
  | iface _ _ v hr => exact ⟨v, rfl, .fz _ _ hr⟩
 | iface _ _ v hr => exact ⟨v, rfl, hr⟩
def chkOper (P : Program) (tab : Nat → Nat) (N : Nat) (o : Oper) (ao : AOper) : Bool :=
 (match o.dst, ao.dst with
  | some d, some d' => d == d' && decide (d < N)
  | none, none => true
  | _, _ => false) &&
 (match o.op, ao.op with
  | .call c, .call _ f args => (match c.callee with
   | .value (.func g) => tab f == g && nameB P g && chkOpds tab c.args.toList args
   | _ => false)
  | .call c, .callv x args => (match c.callee with
   | .value y => chkOpd tab y x && chkOpds tab c.args.toList args
   | _ => false)
  | .call c, .inv tbl x args => (match c.callee with
   | .invoke y nm => chkOpd tab y x && chkOpds tab c.args.toList args && tblB P tab nm tbl
   | _ => false)
  | op, .slot _ aop => slotable aop && chkOp P tab op aop
  | .move x, .movf y => chkOpd tab x y
  | .assign x, .movf y => chkOpd tab x y
  | op, aop => chkOp P tab op aop)
def chkGuard (ops : Array Oper) (o : Oper) (ao : AOper) : Bool := match o.guard, ao.guard with
 | none, none => true
 | some (j, b), some (t, b') => b == b' && ((ops[j]?).bind (·.dst)) == some t
 | _, _ => false
def chkOpers (P : Program) (tab : Nat → Nat) (N : Nat) (ops : Array Oper) : List Oper → List AOper → Bool
 | [], [] => true
 | o :: os, ao :: aos => chkOper P tab N o ao && chkGuard ops o ao && chkOpers P tab N ops os aos
 | _, _ => false
theorem args_ok {w : World} {F : Nat → Prop} {σ : St} {γ : List Gh} {env : Env} {a : Act} (E : EnvOk tab w F σ γ env a.tmps) : ∀ {xs : List Operand} {ys : List Opd}, chkOpds tab xs ys = true → ArgsOk tab w F σ γ (evs env ys) (xs.map a.eval)
 | [], [], _ => ⟨rfl, by simp [evs]⟩
 | [], _ :: _, h => by simp [chkOpds] at h
 | _ :: _, [], h => by simp [chkOpds] at h
 | x :: xs, y :: ys, h => by
  simp only [chkOpds, Bool.and_eq_true] at h
  obtain ⟨q1, q2⟩ := args_ok E h.2
  refine ⟨by simp [evs, q1], fun j z v hz hv => ?_⟩
  cases j with
  | zero => simp [evs] at hz hv; subst hz; subst hv; exact opd_ok E h.1
  | succ j => exact q2 j z v (by simpa [evs] using hz) (by simpa using hv)
def Named (P : Program) (tab : Nat → Nat) (G : Nat → Option AFunc) : Prop := ∀ f F, G f = some F → nameB P (tab f) = true
theorem run_callFunc {f : FuncId} (h : nameB P f = true) (args : Array Value) (w : World) : (callFunc f args).run P w = .ok (.enter f args) w := by
 unfold nameB at h
 split at h
 ·rename_i fn hf
  simp only [Bool.and_eq_true, bne_iff_ne, ne_eq] at h
  obtain ⟨h1, h2⟩ := h
  cases hb : fn.body with
  | none => simp [hb] at h2
  | some b => simp [callFunc, hf, h1, hb]
 ·exact absurd h (by simp)

theorem fn_open2 {w : World} {F : Nat → Prop} {σ : St} {γ : List Gh} {f : Nat} {caps : List AV} {u : Value} (h : RS tab w F σ γ (.fn f caps) u) : ∃ us : List Value, u = .func (.func (tab f)) #[] us.toArray ∧ us.length = caps.length ∧ ∀ (j : Nat) (x : AV) (v : Value), caps[j]? = some x → us[j]? = some v → RS tab w F σ γ x v := by
 cases h with
 | fz _ _ h0 => cases h0 with
  | fn _ _ us hl hs hr => exact ⟨us, rfl, hl, fun j x v hx hv => .fz _ _ (hr j x v hx hv)⟩
 | fn _ _ us hl hs hr => exact ⟨us, rfl, hl, hr⟩
theorem stepC_ok {call : CallF} {G : Nat → Option AFunc} (C : CallOk P tab call) (hG : ∀ f args σ r, call f args σ = some r → ∃ F, G f = some F) (hN : Named P tab G) {o : Oper} {ao : AOper} {N : Nat} (hc : chkOper P tab N o ao = true) {F : Nat → Prop} {base : Nat} {env : Env} {σ σ' : St} {x : AV} {t : Bool}
  (h : stepC call base ao.op env σ = some (x, σ', t)) {a : Act} {w : World} {γ : List Gh} (S : Fst tab F base w σ γ env a.tmps) (hsz : a.tmps.size = N) {K : Act → World → Prop} {Q : Exit → Act → World → Prop}
  (hK : ∀ v w' γ', Goes base w σ γ w' σ' γ' → Fst tab F base w' σ' γ' (env.put ao.dst x) (a.put o.dst v).tmps → K (a.put o.dst v) w') : o.wp P a w K Q := by
 have hdst : o.dst = ao.dst ∧ ∀ d, o.dst = some d → d < N := by
  simp only [chkOper, Bool.and_eq_true] at hc
  have h1 := hc.1
  split at h1
  ·rename_i d d' e1 e2
   simp at h1
   rw [e1, e2, h1.1]
   exact ⟨rfl, fun k hk => by simp at hk; subst hk; rw [← h1.1]; exact h1.2⟩
  ·rename_i e1 e2
   rw [e1, e2]
   exact ⟨rfl, fun k hk => by simp at hk⟩
  ·exact absurd h1 (by simp)
 obtain ⟨hd1, hd2⟩ := hdst
 have fin : ∀ v w' γ', Step σ.length w σ γ w' σ' γ' → Inv tab w' F σ' γ' → RS tab w' F σ' γ' x v → Fr base σ σ' → K (a.put o.dst v) w' := by
  intro v w' γ' st J hr fr
  refine hK v w' γ' ⟨st.mono S.hb, fr⟩ ⟨J, ?_, Nat.le_trans S.hb st.l2, fr base (Nat.le_refl _) S.frame⟩
  rw [← hd1]
  exact env_put (env_step st S.env) hsz hd2 hr
 have hcall : ∀ (mode f : Nat) (args : List AV) (vals : List Value), callX call mode f args σ = some (x, σ', t) → ArgsOk tab w F σ γ args vals → (execOp a.eval o).run P w = .ok (.enter (tab f) vals.toArray) w → o.wp P a w K Q := by
  intro mode f args vals hco A hrun
  unfold Oper.wp
  rw [hrun, Oper.upon_enter]
  refine Calls.mono (callX_ok C hco S.inv A) ?_
  rintro e w' ⟨v, γ', rfl, st, J, hr, fr⟩
  exact fin v w' γ' st J hr fun b hb => fr b (Nat.le_trans hb S.hb)
 have hGf : ∀ (mode f : Nat) (args : List AV), callOp call mode f args σ = some (x, σ', t) → nameB P (tab f) = true := by
  intro mode f args hco
  unfold callOp at hco
  split at hco
  ·exact absurd hco (by simp)
  ·split at hco
   ·split at hco
    ·exact absurd hco (by simp)
    ·rename_i hq
     obtain ⟨F', hF⟩ := hG _ _ _ _ hq
     exact hN f F' hF
   ·split at hco
    ·exact absurd hco (by simp)
    ·rename_i hq
     obtain ⟨F', hF⟩ := hG _ _ _ _ hq
     exact hN f F' hF
 simp only [chkOper, Bool.and_eq_true] at hc
 have h2 := hc.2
 obtain ⟨adst, aop, aguard⟩ := ao
 obtain ⟨dst, op, ty, pos, after, guard⟩ := o
 simp only [] at h2 h
 split at h2
 ·rename_i c mode f args
  split at h2
  ·rename_i g hcal
   simp only [Bool.and_eq_true, beq_iff_eq] at h2
   obtain ⟨⟨rfl, hnm⟩, hargs⟩ := h2
   have A := args_ok S.env hargs
   refine hcall mode f _ _ h A ?_
   simp only [execOp, Sem.run_bind, resolve, hcal, Act.eval, Deferred.ofValue, Sem.run_pure, Result.andThen_ok, invoke]
   rw [mapArr]
   simpa using run_callFunc hnm _ w
  ·exact absurd h2 (by simp)
 ·rename_i c y args
  split at h2
  ·rename_i yo hcal
   simp only [Bool.and_eq_true] at h2
   obtain ⟨hy, hargs⟩ := h2
   have A := args_ok S.env hargs
   have hyv := opd_ok S.env hy
   simp only [stepC] at h
   split at h
   ·rename_i f caps hev
    rw [hev] at hyv
    have hnm := hGf _ _ _ h
    have hopen : ∃ us : List Value, a.eval yo = .func (.func (tab f)) #[] us.toArray ∧ us.length = caps.length ∧ ∀ (j : Nat) (x : AV) (v : Value), caps[j]? = some x → us[j]? = some v → RS tab w F σ γ x v := by
     exact fn_open2 hyv
    obtain ⟨us, hus, hl, hr⟩ := hopen
    refine hcall 0 f _ (c.args.toList.map a.eval ++ us) h ⟨by simp [A.1, hl], fun j x v hx hv => ?_⟩ ?_
    ·rcases Nat.lt_or_ge j (evs env args).length with hj | hj
     ·rw [List.getElem?_append_left hj] at hx
      rw [List.getElem?_append_left (by rw [A.1]; exact hj)] at hv
      exact A.2 j x v hx hv
     ·rw [List.getElem?_append_right hj] at hx
      rw [List.getElem?_append_right (by rw [A.1]; exact hj), A.1] at hv
      exact hr _ x v hx hv
    ·simp only [execOp, Sem.run_bind, resolve, hcal, hus, Deferred.ofValue, Sem.run_pure, Result.andThen_ok, invoke]
     have e : (c.args.toList.map a.eval ++ us).toArray = c.args.map a.eval ++ us.toArray := by
      rw [← mapArr]; simp
     rw [e]
     simpa using run_callFunc hnm _ w
   ·exact absurd h (by simp)
  ·exact absurd h2 (by simp)
 ·rename_i c tbl y args
  split at h2
  ·rename_i yo nm hcal
   simp only [Bool.and_eq_true] at h2
   obtain ⟨⟨hy, hargs⟩, htb⟩ := h2
   have A := args_ok S.env hargs
   have hyv := opd_ok S.env hy
   simp only [stepC] at h
   split at h
   ·rename_i f as hev
    unfold invOf at hev
    split at hev
    ·rename_i t v e1
     rw [e1] at hyv
     obtain ⟨f', hf', e3⟩ := Option.map_eq_some_iff.1 hev
     simp at e3; obtain ⟨rfl, rfl⟩ := e3
     obtain ⟨hm, hnm⟩ := tblB_ok htb hf'
     obtain ⟨u, hu, hur⟩ := iface_open2 hyv
     refine hcall 0 f' _ (u :: c.args.toList.map a.eval) h ⟨by simp [A.1], fun j x v hx hv => ?_⟩ ?_
     ·cases j with
      | zero => simp at hx hv; subst hx; subst hv; exact hur
      | succ j => exact A.2 j x v (by simpa using hx) (by simpa using hv)
     ·have e : (u :: c.args.toList.map a.eval).toArray = #[u] ++ c.args.map a.eval := by
       rw [← mapArr]; simp
      rw [e]
      have := run_inv hm u (c.args.map a.eval) w (run_callFunc hnm _ w)
      simp only [execOp, Sem.run_bind, resolve, hcal, hu, Sem.run_pure, Result.andThen_ok]
      exact this
    ·exact absurd hev (by simp)
   ·exact absurd h (by simp)
  ·exact absurd h2 (by simp)
 ·rename_i d aop
  simp only [Bool.and_eq_true] at h2
  obtain ⟨hsl, h2⟩ := h2
  simp only [stepC] at h
  cases hst : step base aop env σ with
  | none => rw [hst] at h; simp [fillAt] at h
  | some q =>
   obtain ⟨v1, σ1, t1⟩ := q
   rw [hst] at h
   have D := op_sound (o := ⟨dst, op, ty, pos, after, guard⟩) h2 hst S.inv S.env S.hb
   obtain ⟨v, w', γ', hr, st, J, hx, fr⟩ := slot_done S.inv hsl hst D h
   unfold Oper.wp
   rcases hr with hr | ⟨hr, rfl⟩
   ·rw [hr]; exact fin v w' γ' st J hx fr
   ·rw [hr]; exact fin undef w' γ' st J hx fr
 ·rename_i xo yo
  have hy := opd_ok S.env h2
  simp only [stepC] at h
  split at h
  ·rename_i fv hf
   simp at h; obtain ⟨rfl, rfl, _⟩ := h
   have hl : ∀ o ∈ oslIn (ev env yo), ∃ v sz es, σ[o]? = some (.arr v sz es) := fun o ho => frz_arr hf ho
   obtain ⟨k1, k2, k3⟩ := killL_ok S.inv hl
   rw [kill_eq] at fin
   unfold Oper.wp
   have hr : (execOp a.eval ⟨dst, .move xo, ty, pos, after, guard⟩).run P w = .ok (.value (a.eval xo)) w := by simp [execOp]
   rw [hr]
   exact fin _ w γ k1 k2 (frz_read S.inv hl hy hf (fun o ho => ho)) (k3 _)
  ·exact absurd h (by simp)
 ·rename_i xo yo
  have hy := opd_ok S.env h2
  simp only [stepC] at h
  split at h
  ·rename_i fv hf
   simp at h; obtain ⟨rfl, rfl, _⟩ := h
   have hl : ∀ o ∈ oslIn (ev env yo), ∃ v sz es, σ[o]? = some (.arr v sz es) := fun o ho => frz_arr hf ho
   obtain ⟨k1, k2, k3⟩ := killL_ok S.inv hl
   rw [kill_eq] at fin
   unfold Oper.wp
   have hr : (execOp a.eval ⟨dst, .assign xo, ty, pos, after, guard⟩).run P w = .ok (.value (a.eval xo)) w := by simp [execOp]
   rw [hr]
   exact fin _ w γ k1 k2 (frz_read S.inv hl hy hf (fun o ho => ho)) (k3 _)
  ·exact absurd h (by simp)
 ·rename_i hn1 hn2 hn3 hn4 hn5
  have h' : step base aop env σ = some (x, σ', t) := by
   cases aop <;> first | exact h | (exfalso; cases op <;> simp [chkOp, chkZ] at h2)
  obtain ⟨v, w', γ', hr, st, J, hx, fr⟩ := op_sound (o := ⟨dst, op, ty, pos, after, guard⟩) h2 h' S.inv S.env S.hb
  unfold Oper.wp
  rcases hr with hr | ⟨hr, rfl⟩
  ·rw [hr]; exact fin v w' γ' st J hx fr
  ·rw [hr]; exact fin undef w' γ' st J hx fr
end
end Go.Den

namespace Go.Den
open Go

section
variable {P : Program} {tab : Nat → Nat}
theorem undef_ok {w : World} {S : Nat → Prop} {σ : St} {γ : List Gh} : RV tab w S σ γ (.tup []) undef := .fz _ _ (RF.tup [] [] rfl (by simp))
theorem undef_eq {w : World} {S : Nat → Prop} {σ : St} {γ : List Gh} {v : Value} (h : RV tab w S σ γ (.tup []) v) : v = undef := by
 have h' := h.frozen rfl
 cases h' with
 | tup cs vs hl hr =>
  cases vs with
  | nil => rfl
  | cons a r => simp at hl
theorem wanted_ok {w : World} {F : Nat → Prop} {σ : St} {γ : List Gh} {env : Env} {tmps : Array Value} (E : EnvOk tab w F σ γ env tmps) {ops : Array Oper} {o : Oper} {ao : AOper} (hg : chkGuard ops o ao = true) {b : Bool} (h : wanted env ao.guard = some b) :
  Region.wanted o (yielded ops tmps) = b := by
 unfold chkGuard at hg
 split at hg
 ·rename_i e1 e2
  rw [e2] at h
  simp [wanted] at h; subst h
  simp [Region.wanted, e1]
 ·rename_i j w1 t w2 e1 e2
  simp only [Bool.and_eq_true, beq_iff_eq] at hg
  obtain ⟨rfl, hj⟩ := hg
  rw [e2] at h
  simp only [wanted] at h
  split at h
  ·rename_i b0 hb0
   simp at h; subst h
   have := E t
   rw [hb0] at this
   have hv := bool_eq this
   have ht : tmps[t]? = some (.bool b0) := by
    rw [Array.getD_eq_getD_getElem?] at hv
    cases hh : tmps[t]? with
    | none => rw [hh] at hv; simp [undef] at hv
    | some v => rw [hh] at hv; simp at hv; rw [hv]
   simp only [Region.wanted, e1, yielded, hj, Option.bind_some, ht]
   cases b0 <;> cases w1 <;> rfl
  ·rename_i hb0
   simp at h; subst h
   have := E t
   rw [hb0] at this
   have hv := undef_eq this
   rw [Array.getD_eq_getD_getElem?] at hv
   simp only [Region.wanted, e1, yielded, hj, Option.bind_some]
   cases hh : tmps[t]? with
   | none => cases w1 <;> rfl
   | some v => rw [hh] at hv; simp at hv; rw [hv]; cases w1 <;> rfl
  ·exact absurd h (by simp)
 ·exact absurd hg (by simp)
theorem put_size (a : Act) (dst : Option Tmp) (v : Value) : (a.put dst v).tmps.size = a.tmps.size := by cases dst <;> simp [Act.put]
theorem put_defers (a : Act) (dst : Option Tmp) (v : Value) : (a.put dst v).defers = a.defers := by cases dst <;> rfl
theorem chkOper_dst {N : Nat} {o : Oper} {ao : AOper} (hc : chkOper P tab N o ao = true) : o.dst = ao.dst ∧ ∀ d, ao.dst = some d → d < N := by
 simp only [chkOper, Bool.and_eq_true] at hc
 have h1 := hc.1
 split at h1
 ·rename_i d d' e1 e2
  simp at h1
  rw [e1, e2, h1.1]
  exact ⟨rfl, fun k hk => by simp at hk; subst hk; rw [← h1.1]; exact h1.2⟩
 ·rename_i e1 e2
  rw [e1, e2]
  exact ⟨rfl, fun k hk => by simp at hk⟩
 ·exact absurd h1 (by simp)
theorem oper_ok {call : CallF} {G : Nat → Option AFunc} (C : CallOk P tab call) (hG : ∀ f args σ r, call f args σ = some r → ∃ F, G f = some F) (hN : Named P tab G) {ops : Array Oper} {o : Oper} {ao : AOper} {N : Nat} (hc : chkOper P tab N o ao = true) (hg : chkGuard ops o ao = true)
  {F : Nat → Prop} {base : Nat} {env env' : Env} {σ σ' : St} {a : Act} {w : World} {γ : List Gh} (S : Fst tab F base w σ γ env a.tmps) (hsz : a.tmps.size = N) {Q : Exit → Act → World → Prop} {K : Act → World → Prop}
  (h : (∃ x t, wanted env ao.guard = some true ∧ stepC call base ao.op env σ = some (x, σ', t) ∧ env' = env.put ao.dst x) ∨ (wanted env ao.guard = some false ∧ env' = env.put ao.dst (.tup []) ∧ σ' = σ))
  (hK : ∀ a' w' γ', Goes base w σ γ w' σ' γ' → Fst tab F base w' σ' γ' env' a'.tmps → a'.tmps.size = N → a'.defers = a.defers → K a' w') :
  (if Region.wanted o (yielded ops a.tmps) then o.wp P a w K Q ∨ (o.asks P a w ∧ LetsOut Q) else K (a.put o.dst undef) w) := by
 rcases h with ⟨x, t, hw, hs, rfl⟩ | ⟨hw, rfl, rfl⟩
 ·rw [wanted_ok S.env hg hw, if_pos rfl]
  left
  exact stepC_ok C hG hN hc hs S hsz fun v w' γ' g f => hK _ w' γ' g f (by rw [put_size]; exact hsz) (put_defers _ _ _)
 ·rw [wanted_ok S.env hg hw, if_neg (by simp)]
  obtain ⟨hd1, hd2⟩ := chkOper_dst hc
  refine hK _ w γ (Goes.refl w γ S.hb) ⟨S.inv, ?_, S.hb, S.frame⟩ (by rw [put_size]; exact hsz) (put_defers _ _ _)
  rw [hd1]
  exact env_put (defers := a.defers) S.env hsz hd2 undef_ok
theorem runOps_ok {call : CallF} {G : Nat → Option AFunc} (C : CallOk P tab call) (hG : ∀ f args σ r, call f args σ = some r → ∃ F, G f = some F) (hN : Named P tab G) {ops : Array Oper} {N : Nat} {F : Nat → Prop} {base : Nat} {Q : Exit → Act → World → Prop} :
  ∀ (os : List Oper) (aos : List AOper) (i : Nat), ops.toList.drop i = os → chkOpers P tab N ops os aos = true → ∀ {env env' : Env} {σ σ' : St} {a : Act} {w : World} {γ : List Gh}, runOps call base aos env σ = some (env', σ') → Fst tab F base w σ γ env a.tmps → a.tmps.size = N →
   (∀ a' w' γ', Goes base w σ γ w' σ' γ' → Fst tab F base w' σ' γ' env' a'.tmps → a'.tmps.size = N → a'.defers = a.defers → Q .normal a' w') → wpOps P ops Q (List.range' i os.length) a w
 | [], [], i, _, _, env, env', σ, σ', a, w, γ, h, S, hsz, hQ => by
  simp [runOps] at h; obtain ⟨rfl, rfl⟩ := h
  exact hQ a w γ (Goes.refl w γ S.hb) S hsz rfl
 | [], _ :: _, _, _, h, _, _, _, _, _, _, _, _, _, _, _ => by simp [chkOpers] at h
 | _ :: _, [], _, _, h, _, _, _, _, _, _, _, _, _, _, _ => by simp [chkOpers] at h
 | o :: os, ao :: aos, i, hd, hc, env, env', σ, σ', a, w, γ, h, S, hsz, hQ => by
  simp only [chkOpers, Bool.and_eq_true] at hc
  obtain ⟨⟨h1, h2⟩, h3⟩ := hc
  have hoi : ops[i]? = some o := by
   have : (ops.toList.drop i)[0]? = some o := by rw [hd]; rfl
   rw [List.getElem?_drop] at this
   simpa using this
  have hd' : ops.toList.drop (i + 1) = os := by
   have := congrArg List.tail hd
   simpa [List.tail_drop] using this
  simp only [List.length_cons, List.range'_succ, wpOps, hoi]
  simp only [runOps] at h
  have key : ∀ {env1 : Env} {σ1 : St}, ((∃ x t, wanted env ao.guard = some true ∧ stepC call base ao.op env σ = some (x, σ1, t) ∧ env1 = env.put ao.dst x) ∨ (wanted env ao.guard = some false ∧ env1 = env.put ao.dst (.tup []) ∧ σ1 = σ)) → runOps call base aos env1 σ1 = some (env', σ') →
    (if Region.wanted o (yielded ops a.tmps) then o.wp P a w (wpOps P ops Q (List.range' (i + 1) os.length)) Q ∨ (o.asks P a w ∧ LetsOut Q) else wpOps P ops Q (List.range' (i + 1) os.length) (a.put o.dst undef) w) := by
   intro env1 σ1 hor hrun
   exact oper_ok C hG hN h1 h2 S hsz hor fun a' w' γ' g f hsz' hdf => runOps_ok C hG hN os aos (i + 1) hd' h3 hrun f hsz' fun a'' w'' γ'' g' f' hsz'' hdf' => hQ a'' w'' γ'' (g.trans g') f' hsz'' (hdf'.trans hdf)
  split at h
  ·rename_i hw
   split at h
   ·rename_i x σ1 t hs
    exact key (.inl ⟨x, t, hw, hs, rfl⟩) h
   ·exact absurd h (by simp)
  ·rename_i hw
   exact key (.inr ⟨hw, rfl, rfl⟩) h
  ·exact absurd h (by simp)
theorem prune_get (live : List Nat) (env : Env) (t : Nat) : (prune live env).get t = env.get t ∨ (prune live env).get t = .dead := by
 induction live with
 | nil => exact .inr rfl
 | cons l r ih =>
  simp only [prune, Env.get]
  by_cases e : l = t
  ·subst e; simp
  ·rw [if_neg e]; exact ih
theorem env_prune {w : World} {F : Nat → Prop} {σ : St} {γ : List Gh} {env : Env} {tmps : Array Value} (E : EnvOk tab w F σ γ env tmps) (live : List Nat) : EnvOk tab w F σ γ (prune live env) tmps := fun t => by
 rcases prune_get live env t with h | h
 ·rw [h]; exact E t
 ·rw [h]; exact .dead _
end
end Go.Den

namespace Go.Den
open Go

def opdT : Opd → List Nat
 | .t n => [n]
 | .c _ => []
def opdsT : List Opd → List Nat
 | [] => []
 | x :: r => opdT x ++ opdsT r
def optT : Option Opd → List Nat
 | none => []
 | some x => opdT x
def partsT : List (Nat × Nat × Opd) → List Nat
 | [] => []
 | (_, _, x) :: r => opdT x ++ partsT r
def litsT : List (Nat × Opd) → List Nat
 | [] => []
 | (_, x) :: r => opdT x ++ litsT r
def opT : AOp → List Nat
 | .mov x | .movp _ x | .box _ _ x | .load _ _ x | .nilchk x | .boxz _ x | .fldz _ x | .not x | .convi _ x | .fld _ x | .field _ _ _ x | .extract x _ | .len _ x | .clear _ _ x | .tobytes x | .tostr x | .mark x => opdT x
 | .pick c a b => opdT c ++ opdT a ++ opdT b
 | .alloc _ _ | .bad | .gload _ _ _ => []
 | .mksl _ _ _ l c => opdT l ++ opdT c
 | .mm3 _ x y z => opdT x ++ opdT y ++ opdT z
 | .isnil _ x => opdT x
 | .movo d x => d :: opdT x
 | .mkmap r => optT r
 | .build _ ps => partsT ps
 | .buildp _ ps _ => partsT ps
 | .lit _ _ _ _ ps => litsT ps
 | .storep _ x y _ => opdT x ++ opdT y
 | .store _ x y | .bin _ _ x y | .idxa _ x y | .idxarr _ _ x y | .index x y | .append _ _ _ x y | .copy _ x y | .min x y | .max x y | .lookup _ _ _ _ x y => opdT x ++ opdT y
 | .slice _ x lo hi mx => opdT x ++ optT lo ++ optT hi ++ optT mx
 | .sstr x lo hi => opdT x ++ optT lo ++ optT hi
 | .mkfn _ cs => opdsT cs
 | .mapupd _ _ m k v => opdT m ++ opdT k ++ opdT v
 | .call _ _ args => opdsT args
 | .callv x args => opdT x ++ opdsT args
 | .inv _ x args => opdT x ++ opdsT args
 | .mkif _ x => opdT x
 | .slot _ op => opT op
 | .movf x => opdT x
theorem ev_congr {e e' : Env} {x : Opd} (h : ∀ t ∈ opdT x, e.get t = e'.get t) : ev e x = ev e' x := by
 cases x with
 | t n => exact h n (by simp [opdT])
 | c v => rfl
theorem evs_congr {e e' : Env} : ∀ {xs : List Opd}, (∀ t ∈ opdsT xs, e.get t = e'.get t) → evs e xs = evs e' xs
 | [], _ => rfl
 | x :: r, h => by
  simp only [evs]
  rw [ev_congr fun t ht => h t (by simp [opdsT, ht]), evs_congr fun t ht => h t (by simp [opdsT, ht])]
theorem bound_congr {e e' : Env} {x : Option Opd} (h : ∀ t ∈ optT x, e.get t = e'.get t) (d : Nat) : bound e d x = bound e' d x := by
 cases x with
 | none => rfl
 | some x => simp only [bound]; rw [ev_congr h]
theorem fill_parts_congr {e e' : Env} : ∀ {ps : List (Nat × Nat × Opd)} {zs : List AV}, (∀ t ∈ partsT ps, e.get t = e'.get t) → fillParts e ps zs = fillParts e' ps zs
 | [], _, _ => rfl
 | (off, size, x) :: r, zs, h => by
  simp only [fillParts]
  rw [ev_congr fun t ht => h t (by simp [partsT, ht])]
  split
  ·exact fill_parts_congr fun t ht => h t (by simp [partsT, ht])
  ·rfl
theorem litT_parts (sz : Nat) : ∀ ps : List (Nat × Opd), partsT (litParts sz ps) = litsT ps
 | [] => rfl
 | (i, x) :: r => by simp [litParts, partsT, litsT, litT_parts sz r]
theorem stepC_congr {call : CallF} {base : Nat} : ∀ {op : AOp} {e e' : Env} (_ : ∀ t ∈ opT op, e.get t = e'.get t) (σ : St), stepC call base op e σ = stepC call base op e' σ := by
 intro op e e' h σ
 cases op <;> simp only [opT, List.mem_append] at h <;> simp only [stepC, step]
 case slot d op =>
  have : step base op e σ = step base op e' σ := by
   cases op <;> first | rfl | exact stepC_congr (call := call) (base := base) h σ
  show fillAt base d σ (step base op e σ) = fillAt base d σ (step base op e' σ)
  rw [this]
 case movf x => rw [ev_congr h]
 case clear sz zs x => rw [ev_congr h]
 case tobytes x => rw [ev_congr h]
 case tostr x => rw [ev_congr h]
 case copy sz x y => rw [ev_congr fun t ht => h t (.inl ht), ev_congr fun t ht => h t (.inr ht)]
 case isnil ng x => rw [ev_congr fun t ht => h t ht]
 case mark x => rw [ev_congr fun t ht => h t ht]
 case movo d x => rw [ev_congr fun t ht => h t (List.mem_cons_of_mem _ ht), h d (List.mem_cons_self ..)]
 case mm3 mx x y z => rw [ev_congr fun t ht => h t (.inl (.inl ht)), ev_congr fun t ht => h t (.inl (.inr ht)), ev_congr fun t ht => h t (.inr ht)]
 case mksl sz bytes zs l c => rw [ev_congr fun t ht => h t (.inl ht), ev_congr fun t ht => h t (.inr ht)]
 case mov x => rw [ev_congr h]
 case movp sz x => rw [ev_congr h]
 case pick c a b => rw [ev_congr fun t ht => h t (.inl (.inl ht)), ev_congr fun t ht => h t (.inl (.inr ht)), ev_congr fun t ht => h t (.inr ht)]
 case box ro sz x => rw [ev_congr h]
 case build zs ps => rw [fill_parts_congr h]
 case buildp zs ps prs => rw [fill_parts_congr h]
 case lit pr sz zs len ps => rw [fill_parts_congr (by rw [litT_parts]; exact h)]
 case load ag sz x => rw [ev_congr h]
 case storep sz x y prs => rw [ev_congr fun t ht => h t (.inl ht), ev_congr fun t ht => h t (.inr ht)]
 case store sz x y => rw [ev_congr fun t ht => h t (.inl ht), ev_congr fun t ht => h t (.inr ht)]
 case nilchk x => rw [ev_congr h]
 case boxz t x => rw [ev_congr h]
 case fldz t x => rw [ev_congr h]
 case bin op kd x y => rw [ev_congr fun t ht => h t (.inl ht), ev_congr fun t ht => h t (.inr ht)]
 case not x => rw [ev_congr h]
 case convi k x => rw [ev_congr h]
 case fld off x => rw [ev_congr h]
 case field ag off sz x => rw [ev_congr h]
 case idxa sz x y => rw [ev_congr fun t ht => h t (.inl ht), ev_congr fun t ht => h t (.inr ht)]
 case idxarr len sz x y => rw [ev_congr fun t ht => h t (.inl ht), ev_congr fun t ht => h t (.inr ht)]
 case index x y => rw [ev_congr fun t ht => h t (.inl ht), ev_congr fun t ht => h t (.inr ht)]
 case extract x i => rw [ev_congr h]
 case len str x => rw [ev_congr h]
 case append pr sz bytes x y => rw [ev_congr fun t ht => h t (.inl ht), ev_congr fun t ht => h t (.inr ht)]
 case slice sz x lo hi mx =>
  have hmx : ∀ t ∈ optT mx, e.get t = e'.get t := fun t ht => h t (.inr ht)
  rw [ev_congr fun t ht => h t (.inl (.inl (.inl ht)))]
  have h1 := fun d => bound_congr (e := e) (e' := e') (x := lo) (fun t ht => h t (.inl (.inl (.inr ht)))) d
  have h2 := fun d => bound_congr (e := e) (e' := e') (x := hi) (fun t ht => h t (.inl (.inr ht))) d
  have h3 := fun d => bound_congr (e := e) (e' := e') (x := mx) hmx d
  cases mx with
  | none => simp only [h1, h2, h3]
  | some m => simp only [h1, h2, h3]
 case sstr x lo hi =>
  rw [ev_congr fun t ht => h t (.inl (.inl ht))]
  have h1 := fun d => bound_congr (e := e) (e' := e') (x := lo) (fun t ht => h t (.inl (.inr ht))) d
  have h2 := fun d => bound_congr (e := e) (e' := e') (x := hi) (fun t ht => h t (.inr ht)) d
  simp only [h1, h2]
 case min x y => rw [ev_congr fun t ht => h t (.inl ht), ev_congr fun t ht => h t (.inr ht)]
 case max x y => rw [ev_congr fun t ht => h t (.inl ht), ev_congr fun t ht => h t (.inr ht)]
 case mkfn f cs => rw [evs_congr h]
 case mkmap r => rw [bound_congr h]
 case lookup ag ks zero ok x y => rw [ev_congr fun t ht => h t (.inl ht), ev_congr fun t ht => h t (.inr ht)]
 case mapupd ag ks m k v => rw [ev_congr fun t ht => h t (.inl (.inl ht)), ev_congr fun t ht => h t (.inl (.inr ht)), ev_congr fun t ht => h t (.inr ht)]
 case call mode f args => rw [evs_congr h]
 case callv x args => rw [ev_congr fun t ht => h t (.inl ht), evs_congr fun t ht => h t (.inr ht)]
 case inv tbl x args => rw [ev_congr fun t ht => h t (.inl ht), evs_congr fun t ht => h t (.inr ht)]
 case mkif t x => rw [ev_congr h]
theorem deref_free {σ σ' : St} {x : AV} {cs : List AV} (h : deref σ x = some (cs, false)) : deref σ' x = some (cs, false) := by
 cases x with
 | rptr c => simpa [deref] using h
 | zp t => simpa [deref] using h
 | ref o off => simp only [deref] at h; split at h <;> simp at h
 | eref o ver n i off =>
  simp only [deref] at h
  split at h
  ·split at h
   ·split at h <;> simp at h
   ·exact absurd h (by simp)
  ·exact absurd h (by simp)
 | _ => simp [deref] at h
theorem elems_free {σ σ' : St} {x : AV} {es : List (List AV)} (h : elems σ x = some (es, false)) : elems σ' x = some (es, false) := by
 cases x with
 | nils => simpa [elems] using h
 | nil0 => simpa [elems] using h
 | nne => simpa [elems] using h
 | sl e => simpa [elems] using h
 | osl o ver n off len =>
  simp only [elems] at h
  split at h
  ·split at h <;> simp at h
  ·exact absurd h (by simp)
 | _ => simp [elems] at h
theorem srcOf_free {σ σ' : St} {sz : Nat} {x : AV} {es : List (List AV)} (h : srcOf σ sz x = some (es, false)) : srcOf σ' sz x = some (es, false) := by
 cases x with
 | osl o ver n off len =>
  have h' : elems σ (.osl o ver n off len) = some (es, false) := h
  exact elems_free h'
 | _ => exact h
theorem mapOf_free {σ σ' : St} {x : AV} {es : List (AV × AV)} (h : mapOf σ x = some (es, false)) : mapOf σ' x = some (es, false) := by
 cases x with
 | nilmap => exact h
 | fmap es => simpa [mapOf] using h
 | mapr o => simp only [mapOf] at h; split at h <;> simp at h
 | _ => simp [mapOf] at h
theorem frz_at {σ : St} : ∀ {x y : AV}, frz σ x = some y → ∀ τ : St, (∀ o ∈ oslIn x, τ[o]? = σ[o]?) → frz τ x = some y
 | .osl o ver n off len, y, h, τ, he => by
  simp only [frz, elems] at h ⊢
  rw [he o (by simp [oslIn])]; exact h
 | .agg cs, y, h, τ, he => by
  simp only [frz] at h ⊢
  cases hc : frz.frzs σ cs with
  | none => simp [hc] at h
  | some ds => rw [go cs hc τ he]; rw [hc] at h; exact h
 | .tup cs, y, h, τ, he => by
  simp only [frz] at h ⊢
  cases hc : frz.frzs σ cs with
  | none => simp [hc] at h
  | some ds => rw [go cs hc τ he]; rw [hc] at h; exact h
 | .int .., _, h, _, _ | .bool _, _, h, _, _ | .str _, _, h, _, _ | .nilp, _, h, _, _ | .rptr _, _, h, _, _ | .ref .., _, h, _, _ | .eref .., _, h, _, _ | .nils, _, h, _, _ | .sl _, _, h, _, _ | .fn .., _, h, _, _ | .nilfn, _, h, _, _ | .mapr _, _, h, _, _ | .nilmap, _, h, _, _ | .fmap _, _, h, _, _ | .iface .., _, h, _, _ | .nilif, _, h, _, _ | .nil0, _, h, _, _ | .nne, _, h, _, _ | .zp _, _, h, _, _ | .dead, _, h, _, _ => h
where go : ∀ (cs : List AV) {ds : List AV}, frz.frzs σ cs = some ds → ∀ τ : St, (∀ o ∈ oslIns cs, τ[o]? = σ[o]?) → frz.frzs τ cs = some ds
 | [], _, h, _, _ => h
 | x :: r, ds, h, τ, he => by
  simp only [frz.frzs] at h ⊢
  split at h
  ·rename_i a b h1 h2
   rw [frz_at h1 τ fun o ho => he o (by simp [oslIns, oslIn.oslIns, ho]), go r h2 τ fun o ho => he o (by simp only [oslIns, oslIn.oslIns, List.mem_append]; exact .inr ho)]
   exact h
  ·exact absurd h (by simp)
theorem frzs_at {σ : St} {xs ys : List AV} (h : frzs σ xs = some ys) (τ : St) (he : ∀ o ∈ oslIns xs, τ[o]? = σ[o]?) : frzs τ xs = some ys := frz_at.go xs h τ he
theorem stepC_free {call : CallF} {base : Nat} {op : AOp} {e : Env} {σ σ' : St} {x : AV} (h : stepC call base op e σ = some (x, σ', false)) : σ' = σ ∧ ∀ τ, stepC call base op e τ = some (x, τ, false) := by
 have co : ∀ {mode f : Nat} {args : List AV}, callOp call mode f args σ = some (x, σ', false) → σ' = σ ∧ ∀ τ, callOp call mode f args τ = some (x, τ, false) := by
  intro mode f args h
  rw [callOp_bind] at h
  simp only [callOp_bind]
  split at h
  ·rename_i hm
   simp only [Option.bind_some] at h
   split at h
   ·rename_i hn
    cases hq : call f args [] with
    | none => simp [hq] at h
    | some q =>
     rw [hq] at h
     simp only [Option.bind_some] at h
     split at h
     ·rename_i hne
      simp at h; obtain ⟨rfl, rfl, _⟩ := h
      refine ⟨rfl, fun τ => ?_⟩
      rw [if_pos hm]
      simp only [Option.bind_some, if_pos hn, hq, if_pos hne]
      simp [hm]
     ·exact absurd h (by simp)
   ·cases hq : call f args σ with
    | none => simp [hq] at h
    | some q => rw [hq] at h; exact absurd h (by simp)
  ·rename_i hm
   split at h
   ·rename_i hm2
    cases hfz : frzs σ args with
    | none => simp [hfz] at h
    | some as =>
     rw [hfz] at h
     simp only [Option.map_some, Option.bind_some] at h
     split at h
     ·cases hq : call f as [] with
      | none => simp [hq] at h
      | some q =>
       rw [hq] at h
       simp only [Option.bind_some] at h
       split at h
       ·simp [hm2] at h
       ·exact absurd h (by simp)
     ·cases hq : call f as (kills σ args) with
      | none => simp [hq] at h
      | some q => rw [hq] at h; exact absurd h (by simp)
   ·rename_i hm2
    simp only [Option.bind_some] at h
    split at h
    ·rename_i hn
     cases hq : call f (norms args) [] with
     | none => simp [hq] at h
     | some q =>
      rw [hq] at h
      simp only [Option.bind_some] at h
      split at h
      ·rename_i hne
       simp at h; obtain ⟨rfl, rfl, _⟩ := h
       refine ⟨rfl, fun τ => ?_⟩
       rw [if_neg hm, if_neg hm2]
       simp only [Option.bind_some, if_pos hn, hq, if_pos hne]
       simp [hm2]
      ·exact absurd h (by simp)
    ·cases hq : call f (norms args) σ with
     | none => simp [hq] at h
     | some q => rw [hq] at h; exact absurd h (by simp)
 cases op
 case slot d op =>
  simp only [stepC] at h
  cases hs : step base op e σ with
  | none => rw [hs] at h; simp [fillAt] at h
  | some q =>
   rw [hs] at h
   simp only [fillAt] at h
   repeat' (split at h)
   all_goals first | (simp at h; done) | skip
 case call mode f args =>
  simp only [stepC, callX] at h ⊢
  split at h
  ·rename_i hm
   unfold viewOp at h ⊢
   split at h
   case isFalse => exact absurd h (by simp)
   rename_i hlen
   simp only [if_pos hm, if_pos hlen]
   cases hd : frzs σ (evs e args) with
   | none => simp [hd] at h
   | some as =>
    rw [hd] at h
    simp only [Option.bind_some] at h
    split at h
    ·rename_i hn
     cases hc : call f as [] with
     | none => simp [hc] at h
     | some q =>
      rw [hc] at h
      simp only [Option.bind_some] at h
      split at h
      ·rename_i hb
       simp at h; obtain ⟨rfl, rfl, he⟩ := h
       refine ⟨rfl, fun τ => ?_⟩
       rw [frzs_at hd τ fun o ho => by rw [he] at ho; simp at ho]
       simp only [Option.bind_some, if_pos hn, hc, if_pos hb]
       simp [he]
      ·exact absurd h (by simp)
    ·exact absurd h (by simp)
  ·rename_i hm
   simp only [if_neg hm]
   split at h
   ·exact absurd h (by simp)
   ·rename_i h4
    simp only [if_neg h4]
    exact co h
 case callv y args =>
  simp only [stepC] at h ⊢
  split at h
  ·exact co h
  ·exact absurd h (by simp)
 case inv tbl y args =>
  simp only [stepC] at h ⊢
  split at h
  ·exact co h
  ·exact absurd h (by simp)
 case load ag sz y =>
  simp only [stepC, step] at h ⊢
  cases hd : deref σ (ev e y) with
  | none => simp [hd] at h
  | some p =>
   obtain ⟨cs, t⟩ := p
   rw [hd] at h
   simp only [] at h
   obtain ⟨v, hv, he⟩ := Option.map_eq_some_iff.1 h
   simp at he; obtain ⟨rfl, rfl, rfl⟩ := he
   refine ⟨rfl, fun τ => ?_⟩
   rw [deref_free hd]
   simp [hv]
 case tostr y =>
  simp only [stepC, step] at h ⊢
  cases hr : elems σ (ev e y) with
  | none => simp [hr] at h
  | some r =>
   obtain ⟨ys, t⟩ := r
   rw [hr] at h
   simp only [] at h
   obtain ⟨l, hl, he⟩ := Option.map_eq_some_iff.1 h
   simp at he; obtain ⟨rfl, rfl, rfl⟩ := he
   exact ⟨rfl, fun τ => by rw [elems_free hr]; simp [hl]⟩
 case len str y =>
  simp only [stepC, step] at h ⊢
  split at h
  ·rename_i hs
   split at h
   ·rename_i s hev
    simp at h; obtain ⟨rfl, rfl⟩ := h
    exact ⟨rfl, fun τ => by simp [hs]⟩
   ·exact absurd h (by simp)
  ·rename_i hs
   obtain ⟨r, hr, he⟩ := Option.map_eq_some_iff.1 h
   simp at he; obtain ⟨rfl, rfl, hr2⟩ := he
   obtain ⟨es, t⟩ := r
   simp at hr2; subst hr2
   exact ⟨rfl, fun τ => by rw [if_neg hs, elems_free hr]; rfl⟩
 case append pr sz bytes y z =>
  simp only [stepC, step] at h ⊢
  split at h
  ·exact absurd h (by simp)
  ·rename_i ys t hys
   split at h
   ·rename_i hc
    split at h
    ·rename_i hev
     split at h
     ·rename_i hb
      split at h
      ·exact absurd h (by simp)
      ·rename_i hpr
       simp at h; obtain ⟨rfl, rfl, rfl⟩ := h
       refine ⟨rfl, fun τ => ?_⟩
       rw [srcOf_free hys]
       simp [hc, hb, hpr]
     ·exact absurd h (by simp)
    ·split at h
     ·split at h
      ·split at h <;> exact absurd h (by simp)
      ·exact absurd h (by simp)
     ·exact absurd h (by simp)
    ·exact absurd h (by simp)
   ·exact absurd h (by simp)
 case min y z =>
  simp only [stepC, step] at h ⊢
  split at h
  ·rename_i h1 h2
   split at h
   ·rename_i hk
    simp at h; obtain ⟨rfl, rfl⟩ := h
    exact ⟨rfl, fun τ => by rw [if_pos hk]⟩
   ·exact absurd h (by simp)
  ·exact absurd h (by simp)
 case isnil ng x =>
  simp only [stepC, step] at h ⊢
  split at h
  ·simp at h; obtain ⟨rfl, rfl⟩ := h
   exact ⟨rfl, fun τ => rfl⟩
  ·simp at h; obtain ⟨rfl, rfl⟩ := h
   exact ⟨rfl, fun τ => rfl⟩
  ·exact absurd h (by simp)
 case mm3 mx x y z =>
  simp only [stepC, step] at h ⊢
  split at h
  ·split at h
   ·rename_i hk
    simp at h; obtain ⟨rfl, rfl⟩ := h
    exact ⟨rfl, fun τ => by rw [if_pos hk]⟩
   ·exact absurd h (by simp)
  ·exact absurd h (by simp)
 case max y z =>
  simp only [stepC, step] at h ⊢
  split at h
  ·rename_i h1 h2
   split at h
   ·rename_i hk
    simp at h; obtain ⟨rfl, rfl⟩ := h
    exact ⟨rfl, fun τ => by rw [if_pos hk]⟩
   ·exact absurd h (by simp)
  ·exact absurd h (by simp)
 case lookup ag ks zero ok y z =>
  simp only [stepC, step] at h ⊢
  split at h
  ·rename_i es t hes
   split at h
   case isFalse => exact absurd h (by simp)
   rename_i hk
   split at h <;> first | (simp at h; done) | skip
   all_goals
    rename_i hm
    simp at h; obtain ⟨rfl, rfl, rfl⟩ := h
    exact ⟨rfl, fun τ => by rw [mapOf_free hes]; simp [hm, hk]⟩
  ·exact absurd h (by simp)
 all_goals
  simp only [stepC, step] at h ⊢
  try (repeat' (split at h))
  all_goals first
   | (simp at h; done)
   | (simp at h; obtain ⟨rfl, rfl⟩ := h; exact ⟨rfl, fun τ => by simp_all⟩)
   | (obtain ⟨v, hv, he⟩ := Option.map_eq_some_iff.1 h; simp at he; obtain ⟨rfl, rfl⟩ := he; exact ⟨rfl, fun τ => by simp_all⟩)
   | skip
end Go.Den

namespace Go.Den
open Go

section
variable {P : Program} {tab : Nat → Nat}
def guardT : Option (Nat × Bool) → List Nat
 | none => []
 | some (t, _) => [t]
def namesOf (ao : AOper) : List Nat := opT ao.op ++ guardT ao.guard
def mayTouch : AOp → Bool
 | .mov _ | .pick .. | .box true .. | .build .. | .nilchk _ | .boxz .. | .fldz .. | .bin .. | .not _ | .convi .. | .fld .. | .field .. | .idxarr .. | .index .. | .extract .. | .sstr .. | .min .. | .max .. | .mkfn .. | .gload .. | .mm3 .. | .isnil .. => false
 | .lit pr .. => pr
 | .len str _ => !str
 | _ => true
theorem mayTouch_ok {call : CallF} {base : Nat} {op : AOp} {e : Env} {σ σ' : St} {x : AV} {t : Bool} (h : stepC call base op e σ = some (x, σ', t)) (hm : mayTouch op = false) : t = false := by
 cases op <;> simp only [mayTouch] at hm <;> first | (exact absurd hm (by decide)) | skip
 case box ro sz y =>
  cases ro
  ·simp at hm
  ·simp only [stepC, step] at h
   repeat' (split at h)
   all_goals first | (simp at h; done) | (simp at h; exact h.2.2) | (rename_i hh; exact (hh trivial).elim)
 case lit pr sz zs len ps =>
  subst hm
  simp only [stepC, step] at h
  repeat' (split at h)
  all_goals first | (simp at h; done) | (simp at h; exact h.2.2) | (rename_i hh _; exact absurd hh (by decide)) | skip
 case len str y =>
  have : str = true := by simpa using hm
  subst this
  simp only [stepC, step] at h
  repeat' (split at h)
  all_goals first | (simp at h; done) | (simp at h; exact h.2.2) | (rename_i hh; exact (hh trivial).elim)
 all_goals
  simp only [stepC, step] at h
  try (repeat' (split at h))
  all_goals first | (simp at h; done) | (simp at h; exact h.2.2) | (obtain ⟨v, hv, he⟩ := Option.map_eq_some_iff.1 h; simp at he; exact he.2.2) | skip

def isRd : AOp → Bool
 | .load .. | .len .. | .idxa .. | .slice .. => true
 | .call mode _ _ => mode == 3
 | _ => false
theorem view_open {call : CallF} {f : Nat} {args : List AV} {σ σ' : St} {x : AV} {t : Bool} (h : viewOp call f args σ = some (x, σ', t)) :
  σ' = σ ∧ t = (!(oslIns args).isEmpty) ∧ (oslIns args).length ≤ 1 ∧ (∃ as, frzs σ args = some as) ∧ ∀ τ : St, (∀ o ∈ oslIns args, τ[o]? = σ[o]?) → viewOp call f args τ = some (x, τ, t) := by
 unfold viewOp at h ⊢
 split at h
 case isFalse => exact absurd h (by simp)
 rename_i hlen
 cases hd : frzs σ args with
 | none => simp [hd] at h
 | some as =>
  rw [hd] at h
  simp only [Option.bind_some] at h
  split at h
  ·rename_i hn
   cases hc : call f as [] with
   | none => simp [hc] at h
   | some q =>
    rw [hc] at h
    simp only [Option.bind_some] at h
    split at h
    ·rename_i hb
     simp at h; obtain ⟨rfl, rfl, he⟩ := h
     refine ⟨rfl, by rw [he]; simp, hlen, ⟨as, rfl⟩, fun τ ht => ?_⟩
     rw [if_pos hlen, frzs_at hd τ ht]
     simp only [Option.bind_some, if_pos hn, hc, if_pos hb]
     rw [he]; simp
    ·exact absurd h (by simp)
  ·exact absurd h (by simp)
theorem isRd_same {call : CallF} {base : Nat} {op : AOp} {e : Env} {σ σ' : St} {x : AV} {t : Bool} (h : stepC call base op e σ = some (x, σ', t)) (hm : isRd op = true) : σ' = σ := by
 cases op <;> simp only [isRd] at hm <;> first | (exact absurd hm (by decide)) | skip
 case call mode f args =>
  have : mode = 3 := by simpa using hm
  subst this
  simp only [stepC, callX] at h
  exact (view_open h).1
 all_goals
  simp only [stepC, step] at h
  try (repeat' (split at h))
  all_goals first | (simp at h; done) | (simp at h; exact h.2.1.symm) | (obtain ⟨v, hv, he⟩ := Option.map_eq_some_iff.1 h; simp at he; exact he.2.1.symm) | skip

theorem get_app {σ X : St} {o : Nat} {x : Ob} (h : σ[o]? = some x) : (σ ++ X)[o]? = some x := by
 obtain ⟨hl, h2⟩ := List.getElem?_eq_some_iff.1 h
 rw [List.getElem?_append_left hl, h]
theorem deref_app {σ X : St} {v : AV} {y : List AV × Bool} (h : deref σ v = some y) : deref (σ ++ X) v = some y := by
 cases v <;> simp only [deref] at h ⊢ <;> try exact h
 all_goals
  split at h
  ·rename_i e; rw [get_app e]; exact h
  ·exact absurd h (by simp)
theorem elems_app {σ X : St} {v : AV} {y : List (List AV) × Bool} (h : elems σ v = some y) : elems (σ ++ X) v = some y := by
 cases v <;> simp only [elems] at h ⊢ <;> try exact h
 all_goals
  split at h
  ·rename_i e; rw [get_app e]; exact h
  ·exact absurd h (by simp)
theorem isRd_app {call : CallF} {base : Nat} {op : AOp} {e : Env} {σ σ' : St} {x : AV} {t : Bool} (h : stepC call base op e σ = some (x, σ', t)) (hm : isRd op = true) (X : St) : stepC call base op e (σ ++ X) = some (x, σ ++ X, t) := by
 cases op <;> simp only [isRd] at hm <;> first | (exact absurd hm (by decide)) | skip
 case call mode f args =>
  have : mode = 3 := by simpa using hm
  subst this
  simp only [stepC, callX] at h ⊢
  obtain ⟨q1, q2, q3, ⟨as, q4⟩, q5⟩ := view_open h
  refine q5 _ fun o ho => ?_
  obtain ⟨v, sz, es, hx⟩ := frz_arr.go _ q4 ho
  rw [get_app hx, hx]
 case slice sz y lo hi mx =>
  simp only [stepC, step] at h ⊢
  cases hy : ev e y <;> rw [hy] at h <;> simp only [] at h ⊢ <;> first | (simp at h; done) | skip
  case osl o ver n off len =>
   split at h
   ·rename_i he
    rw [get_app he]
    simp only []
    split at h
    ·rename_i hc
     rw [if_pos hc]
     split at h
     ·split at h
      ·rename_i hl
       simp at h; obtain ⟨rfl, rfl, rfl⟩ := h
       simp_all
      ·exact absurd h (by simp)
     ·exact absurd h (by simp)
    ·exact absurd h (by simp)
   ·exact absurd h (by simp)
  all_goals
   repeat' (split at h)
   all_goals first | (simp at h; done) | (simp at h; obtain ⟨rfl, rfl, rfl⟩ := h; simp_all)
 case load ag sz y =>
  simp only [stepC, step] at h ⊢
  cases hd : deref σ (ev e y) with
  | none => simp [hd] at h
  | some p =>
   rw [hd] at h
   rw [deref_app hd]
   simp only [] at h ⊢
   obtain ⟨v, hv, he⟩ := Option.map_eq_some_iff.1 h
   simp at he; obtain ⟨rfl, rfl, rfl⟩ := he
   simp [hv]
 case len str y =>
  simp only [stepC, step] at h ⊢
  split at h
  ·rename_i hs
   rw [if_pos hs]
   split at h
   ·simp at h; obtain ⟨rfl, rfl, rfl⟩ := h; simp_all
   ·exact absurd h (by simp)
  ·rename_i hs
   rw [if_neg hs]
   obtain ⟨r, hr, he⟩ := Option.map_eq_some_iff.1 h
   simp at he; obtain ⟨rfl, rfl, rfl⟩ := he
   rw [elems_app hr]; rfl
 case idxa sz y i =>
  simp only [stepC, step] at h ⊢
  split at h
  ·rename_i h1 h2
   split at h
   ·rename_i h0
    rw [if_pos h0]
    split at h
    ·rename_i he
     split at h
     ·rename_i hl
      simp at h; obtain ⟨rfl, rfl, rfl⟩ := h
      simp [hl]
     ·exact absurd h (by simp)
    ·exact absurd h (by simp)
   ·exact absurd h (by simp)
  ·rename_i h1 h2
   split at h
   ·rename_i he
    rw [get_app he]
    simp only []
    split at h
    ·rename_i hc
     simp at h; obtain ⟨rfl, rfl, rfl⟩ := h
     rw [if_pos hc]
    ·exact absurd h (by simp)
   ·exact absurd h (by simp)
  ·exact absurd h (by simp)
def isPush : AOp → Bool
 | .alloc .. | .box .. | .movp .. | .buildp .. | .lit .. | .mkmap .. => true
 | _ => false
theorem promos_app : ∀ {prs : List (Nat × Nat)} {cs cs' : List AV} {σ σ' : St}, promos prs cs σ = some (cs', σ') → ∃ X, σ' = σ ++ X
 | [], cs, cs', σ, σ', h => by simp [promos] at h; obtain ⟨rfl, rfl⟩ := h; exact ⟨[], by simp⟩
 | (i, sz) :: r, cs, cs', σ, σ', h => by
  simp only [promos] at h
  split at h
  ·split at h
   ·obtain ⟨X, hX⟩ := promos_app h
    exact ⟨Ob.arr 0 sz [] :: X, by rw [hX]; simp⟩
   ·exact absurd h (by simp)
  ·exact absurd h (by simp)
theorem isPush_app {call : CallF} {base : Nat} {op : AOp} {e : Env} {σ σ' : St} {x : AV} {t : Bool} (h : stepC call base op e σ = some (x, σ', t)) (hm : isPush op = true) : ∃ X, σ' = σ ++ X := by
 cases op <;> simp only [isPush] at hm <;> first | (exact absurd hm (by decide)) | skip
 case alloc zs prs =>
  simp only [stepC, step] at h
  obtain ⟨q, hq, he⟩ := Option.map_eq_some_iff.1 h
  obtain ⟨cs, s⟩ := q
  simp at he; obtain ⟨rfl, rfl, rfl⟩ := he
  obtain ⟨X, hX⟩ := promos_app hq
  exact ⟨X ++ [Ob.cells cs], by rw [hX]; simp⟩
 case buildp zs ps prs =>
  simp only [stepC, step] at h
  split at h
  ·obtain ⟨q, hq, he⟩ := Option.map_eq_some_iff.1 h
   obtain ⟨cs, s⟩ := q
   simp at he; obtain ⟨rfl, rfl, rfl⟩ := he
   exact promos_app hq
  ·exact absurd h (by simp)
 all_goals
  simp only [stepC, step] at h
  try (repeat' (split at h))
  all_goals first | (simp at h; done) | (simp at h; exact ⟨_, h.2.1.symm⟩) | (simp at h; exact ⟨[], by rw [← h.2.1]; simp⟩) | skip

def befs : List Oper → List Nat → List Nat
 | [], acc => acc
 | o :: r, acc => befs r (acc ++ [o.after.toList.foldl (fun s e => if Region.binds .any e then s ||| 2 ^ e.on ||| acc.getD e.on 0 else s) 0])
theorem befs_prefix : ∀ (l : List Oper) (acc : List Nat), ∃ m, befs l acc = acc ++ m
 | [], acc => ⟨[], by simp [befs]⟩
 | o :: r, acc => by
  obtain ⟨m, hm⟩ := befs_prefix r (acc ++ [o.after.toList.foldl (fun s e => if Region.binds .any e then s ||| 2 ^ e.on ||| acc.getD e.on 0 else s) 0])
  exact ⟨_, by rw [befs, hm, List.append_assoc]⟩
theorem fold_bits (acc : List Nat) (i : Nat) : ∀ (l : List Edge) (s : Nat), (l.foldl (fun s e => if Region.binds .any e then s ||| 2 ^ e.on ||| acc.getD e.on 0 else s) s).testBit i = true → s.testBit i = true ∨ ∃ e ∈ l, Region.binds .any e = true ∧ (i = e.on ∨ (acc.getD e.on 0).testBit i = true)
 | [], s, h => .inl h
 | e :: l, s, h => by
  simp only [List.foldl_cons] at h
  rcases fold_bits acc i l _ h with h1 | ⟨e', he', h1⟩
  ·split at h1
   ·rename_i hb
    rw [Nat.testBit_or, Nat.testBit_or, Bool.or_eq_true, Bool.or_eq_true] at h1
    rcases h1 with (h1 | h1) | h1
    ·exact .inl h1
    ·rw [Nat.testBit_two_pow] at h1
     have h1' : e.on = i := by simpa using h1
     exact .inr ⟨e, by simp, hb, .inl h1'.symm⟩
    ·exact .inr ⟨e, by simp, hb, .inr h1⟩
   ·exact .inl h1
  ·exact .inr ⟨e', by simp [he'], h1⟩
theorem befs_get : ∀ (l : List Oper) (acc : List Nat) (j i : Nat), acc.length ≤ j → ((befs l acc).getD j 0).testBit i = true → ∃ o, l[j - acc.length]? = some o ∧ ∃ e ∈ o.after.toList, Region.binds .any e = true ∧ (i = e.on ∨ e.on < j ∧ ((befs l acc).getD e.on 0).testBit i = true)
 | [], acc, j, i, hj, h => by
  simp only [befs] at h
  rw [List.getD_eq_getElem?_getD, List.getElem?_eq_none hj] at h
  simp at h
 | o :: r, acc, j, i, hj, h => by
  rw [befs] at h
  by_cases hje : j = acc.length
  ·subst hje
   obtain ⟨m, hm⟩ := befs_prefix r (acc ++ [o.after.toList.foldl (fun s e => if Region.binds .any e then s ||| 2 ^ e.on ||| acc.getD e.on 0 else s) 0])
   rw [hm] at h
   have hg : (acc ++ [o.after.toList.foldl (fun s e => if Region.binds .any e then s ||| 2 ^ e.on ||| acc.getD e.on 0 else s) 0] ++ m).getD acc.length 0 = o.after.toList.foldl (fun s e => if Region.binds .any e then s ||| 2 ^ e.on ||| acc.getD e.on 0 else s) 0 := by
    simp
   rw [hg] at h
   refine ⟨o, by simp, ?_⟩
   rcases fold_bits acc i _ _ h with h1 | ⟨e, he, hb, h1⟩
   ·simp at h1
   ·refine ⟨e, he, hb, ?_⟩
    rcases h1 with h1 | h1
    ·exact .inl h1
    ·right
     have hlt : e.on < acc.length := by
      rcases Nat.lt_or_ge e.on acc.length with h | h
      ·exact h
      ·rw [List.getD_eq_getElem?_getD, List.getElem?_eq_none h] at h1; simp at h1
     refine ⟨hlt, ?_⟩
     rw [befs, hm, List.append_assoc, List.getD_eq_getElem?_getD, List.getElem?_append_left hlt, ← List.getD_eq_getElem?_getD]
     exact h1
  ·obtain ⟨o', ho', e, he, hb, h1⟩ := befs_get r _ j i (by simp; omega) h
   refine ⟨o', ?_, e, he, hb, by rw [befs]; exact h1⟩
   simp at ho'
   have : j - acc.length = (j - (acc.length + 1)) + 1 := by omega
   rw [this]; simpa using ho'
def chkEdges (ops : List Oper) : Nat → Bool
 | 0 => true
 | i + 1 => (match ops[i]? with
  | some o => o.after.toList.all fun e => !Region.binds .any e || decide (e.on < i)
  | none => true) && chkEdges ops i
def chkPair (B : List Nat) (aos : List AOper) (unord : List (Nat × Nat)) (i j : Nat) : Bool :=
 (B.getD j 0).testBit i || (match aos[i]?, aos[j]? with
  | some x, some y => (match x.dst with
    | some d => !(namesOf y).contains d && y.dst != some d
    | none => true) && (match y.dst with
    | some d => !(namesOf x).contains d
    | none => true) && (!(mayTouch x.op && mayTouch y.op) || (isRd x.op && (isRd y.op || isPush y.op)) || unord.contains (i, j))
  | _, _ => true)
def chkPairs (B : List Nat) (aos : List AOper) (unord : List (Nat × Nat)) : Nat → Nat → Bool
 | _, 0 => true
 | n, j + 1 => (List.range j).all (fun i => chkPair B aos unord i j) && chkPairs B aos unord n j
def chkDraw (ops : List Oper) (aos : List AOper) (unord : List (Nat × Nat)) : Bool := chkEdges ops ops.length && chkPairs (befs ops []) aos unord 0 ops.length
theorem chkEdges_ok {ops : List Oper} : ∀ {n : Nat}, chkEdges ops n = true → ∀ i o, i < n → ops[i]? = some o → ∀ e ∈ o.after.toList, Region.binds .any e = true → e.on < i
 | 0, _, i, o, h, _, _, _, _ => absurd h (by omega)
 | n + 1, hc, i, o, hi, ho, e, he, hb => by
  simp only [chkEdges, Bool.and_eq_true] at hc
  by_cases hin : i = n
  ·subst hin
   have h1 := hc.1
   rw [ho] at h1
   have := List.all_eq_true.1 h1 e he
   simpa [hb] using this
  ·exact chkEdges_ok hc.2 i o (by omega) ho e he hb
theorem chkPairs_ok {B : List Nat} {aos : List AOper} {unord : List (Nat × Nat)} {m : Nat} : ∀ {n : Nat}, chkPairs B aos unord m n = true → ∀ i j, i < j → j < n → chkPair B aos unord i j = true
 | 0, _, i, j, _, h => absurd h (by omega)
 | n + 1, hc, i, j, hij, hj => by
  simp only [chkPairs, Bool.and_eq_true] at hc
  by_cases hjn : j = n
  ·subst hjn
   exact List.all_eq_true.1 hc.1 i (by simpa using hij)
  ·exact chkPairs_ok hc.2 i j hij (by omega)

structure Trace (call : CallF) (base : Nat) (aos : List AOper) (n : Nat) (E : Nat → Env) (T : Nat → St) (r : Nat → AV) (b : Nat → Bool) : Prop where
 at_ : ∀ i ao, i < n → aos[i]? = some ao → E (i + 1) = (E i).put ao.dst (r i) ∧
  ((wanted (E i) ao.guard = some true ∧ stepC call base ao.op (E i) (T i) = some (r i, T (i + 1), b i)) ∨ (wanted (E i) ao.guard = some false ∧ r i = .tup [] ∧ T (i + 1) = T i ∧ b i = false))
theorem runD_trace {call : CallF} {base : Nat} : ∀ (aos : List AOper) (k : Nat) {env env' : Env} {σ σ' : St} {S S' : List (Nat × Foot)}, runD call base aos k env σ S = some (env', σ', S') →
  ∃ E T r b, E 0 = env ∧ T 0 = σ ∧ E aos.length = env' ∧ T aos.length = σ' ∧ Trace call base aos aos.length E T r b ∧ ∀ p, p ∈ S' ↔ (p ∈ S ∨ ∃ j ao, aos[j]? = some ao ∧ p = (k + j, footOf ao.op (E j) (T j).length) ∧ b j = true)
 | [], k, env, env', σ, σ', S, S', h => by
  simp [runD] at h; obtain ⟨rfl, rfl, rfl⟩ := h
  exact ⟨fun _ => env, fun _ => σ, fun _ => .dead, fun _ => false, rfl, rfl, rfl, rfl, ⟨fun i ao hi => absurd hi (by simp)⟩, fun i => by simp⟩
 | ao :: aos, k, env, env', σ, σ', S, S', h => by
  have key : ∀ (x : AV) (σ1 : St) (t : Bool), ((wanted env ao.guard = some true ∧ stepC call base ao.op env σ = some (x, σ1, t)) ∨ (wanted env ao.guard = some false ∧ x = .tup [] ∧ σ1 = σ ∧ t = false)) →
    runD call base aos (k + 1) (env.put ao.dst x) σ1 (if t then (k, footOf ao.op env σ.length) :: S else S) = some (env', σ', S') →
    ∃ E T r b, E 0 = env ∧ T 0 = σ ∧ E (ao :: aos).length = env' ∧ T (ao :: aos).length = σ' ∧ Trace call base (ao :: aos) (ao :: aos).length E T r b ∧ ∀ p, p ∈ S' ↔ (p ∈ S ∨ ∃ j a, (ao :: aos)[j]? = some a ∧ p = (k + j, footOf a.op (E j) (T j).length) ∧ b j = true) := by
   intro x σ1 t hor hrun
   obtain ⟨E, T, r, b, h1, h2, h3, h4, h5, h6⟩ := runD_trace aos (k + 1) hrun
   refine ⟨fun i => match i with | 0 => env | i + 1 => E i, fun i => match i with | 0 => σ | i + 1 => T i, fun i => match i with | 0 => x | i + 1 => r i, fun i => match i with | 0 => t | i + 1 => b i, rfl, rfl, h3, h4, ⟨fun i a hi ha => ?_⟩, fun i => ?_⟩
   ·cases i with
    | zero =>
     simp at ha; subst ha
     refine ⟨h1, ?_⟩
     rcases hor with ⟨q1, q2⟩ | ⟨q1, q2, q3, q4⟩
     ·exact .inl ⟨q1, by rw [q2, ← h2]⟩
     ·exact .inr ⟨q1, q2, by rw [← q3, ← h2], q4⟩
    | succ i => exact h5.at_ i a (by simpa using hi) (by simpa using ha)
   ·rw [h6]
    constructor
    ·rintro (h | ⟨j, a, hj, e, hb⟩)
     ·cases t with
      | true =>
       simp at h
       rcases h with rfl | h
       ·exact .inr ⟨0, ao, by simp, by simp, rfl⟩
       ·exact .inl h
      | false => exact .inl (by simpa using h)
     ·exact .inr ⟨j + 1, a, by simpa using hj, by rw [e]; simp; omega, hb⟩
    ·rintro (h | ⟨j, a, hj, e, hb⟩)
     ·left
      cases t <;> simp [h]
     ·cases j with
      | zero =>
       left
       have : t = true := hb
       subst this
       simp at hj; subst hj
       simp [e]
      | succ j => exact .inr ⟨j, a, by simpa using hj, by rw [e]; simp; omega, hb⟩
  simp only [runD] at h
  split at h
  ·rename_i hw
   split at h
   ·rename_i x σ1 t hs
    exact key x σ1 t (.inl ⟨hw, hs⟩) h
   ·exact absurd h (by simp)
  ·rename_i hw
   exact key (.tup []) σ false (.inr ⟨hw, rfl, rfl, rfl⟩) (by simpa using h)
  ·exact absurd h (by simp)
def look (aos : List AOper) (env : Env) (r : Nat → AV) (L : Nat → Bool) (t : Nat) : Nat → AV
 | 0 => env.get t
 | k + 1 => if L k && ((aos[k]?).bind (·.dst)) == some t then r k else look aos env r L t k
theorem look_congr {aos : List AOper} {env : Env} {r : Nat → AV} {L M : Nat → Bool} {t : Nat} : ∀ {n : Nat}, (∀ k, k < n → (aos[k]?).bind (·.dst) = some t → L k = M k) → look aos env r L t n = look aos env r M t n
 | 0, _ => rfl
 | n + 1, h => by
  simp only [look]
  rw [look_congr fun k hk => h k (by omega)]
  by_cases hd : (aos[n]?).bind (·.dst) = some t
  ·rw [h n (by omega) hd]
  ·have : ((aos[n]?).bind (·.dst) == some t) = false := by simpa using hd
   simp [this]
theorem look_stop {aos : List AOper} {env : Env} {r : Nat → AV} {L : Nat → Bool} {t i : Nat} : ∀ {n : Nat}, i ≤ n → (∀ k, i ≤ k → k < n → (aos[k]?).bind (·.dst) = some t → L k = false) → look aos env r L t n = look aos env r L t i
 | 0, hi, _ => by
  have : i = 0 := by omega
  subst this; rfl
 | n + 1, hi, h => by
  by_cases e : i = n + 1
  ·subst e; rfl
  ·simp only [look]
   rw [look_stop (n := n) (i := i) (by omega) fun k h1 h2 => h k h1 (by omega)]
   by_cases hd : (aos[n]?).bind (·.dst) = some t
   ·simp [h n (by omega) (by omega) hd]
   ·have : ((aos[n]?).bind (·.dst) == some t) = false := by simpa using hd
    simp [this]
theorem trace_look {call : CallF} {base : Nat} {aos : List AOper} {E : Nat → Env} {T : Nat → St} {r : Nat → AV} {b : Nat → Bool} (tr : Trace call base aos aos.length E T r b) (t : Nat) : ∀ i, i ≤ aos.length → (E i).get t = look aos (E 0) r (fun _ => true) t i
 | 0, _ => rfl
 | i + 1, hi => by
  have hi' : i < aos.length := by omega
  obtain ⟨h1, _⟩ := tr.at_ i aos[i] hi' (List.getElem?_eq_getElem hi')
  rw [h1]
  simp only [look, List.getElem?_eq_getElem hi', Option.bind_some, Bool.true_and]
  cases hd : aos[i].dst with
  | none => simp [Env.put, trace_look tr t i (by omega)]
  | some d =>
   simp only [Env.put, Env.get]
   by_cases e : d = t
   ·subst e; simp
   ·rw [if_neg e, trace_look tr t i (by omega)]; simp [e]
theorem prune_congr {live : List Nat} {e e' : Env} (h : ∀ t, e.get t = e'.get t) : prune live e = prune live e' := by
 induction live with
 | nil => rfl
 | cons t r ih => simp only [prune, h, ih]
theorem wanted_congr {e e' : Env} {g : Option (Nat × Bool)} (h : ∀ t ∈ guardT g, e.get t = e'.get t) : wanted e g = wanted e' g := by
 cases g with
 | none => rfl
 | some p => obtain ⟨t, b⟩ := p; simp only [wanted]; rw [h t (by simp [guardT])]
theorem mem_hits {i : Nat} {f : Foot} : ∀ {T : List (Nat × Foot)}, (i, f) ∈ T → f ∈ hits i T
 | [], h => by simp at h
 | (j, g) :: r, h => by
  simp only [hits]
  simp at h
  rcases h with ⟨rfl, rfl⟩ | h
  ·simp
  ·split
   ·simp [mem_hits h]
   ·exact mem_hits h
theorem drawOk_pair {ops : List AOper} {T : List (Nat × Foot)} : ∀ {l : List (Nat × Nat)}, drawOk ops T l = true → ∀ i j, (i, j) ∈ l → ∀ f g, (i, f) ∈ T → (j, g) ∈ T → apart f g = true ∨ ∃ o n a, ops[i]? = some o ∧ isMk o.op = true ∧ f = some (false, n) ∧ g = some (true, a) ∧ a < n
 | [], _, i, j, h => by simp at h
 | (a, c) :: l, hd, i, j, h => by
  simp only [drawOk, Bool.and_eq_true, Bool.or_eq_true] at hd
  simp at h
  rcases h with ⟨rfl, rfl⟩ | h
  ·intro f g h1 h2
   rcases hd.1 with hd1 | hd1
   ·exact .inl (List.all_eq_true.1 (List.all_eq_true.1 hd1 f (mem_hits h1)) g (mem_hits h2))
   ·right
    unfold lateOk at hd1
    simp only [Bool.and_eq_true] at hd1
    obtain ⟨p1, p2⟩ := hd1
    have p3 := List.all_eq_true.1 (List.all_eq_true.1 p2 f (mem_hits h1)) g (mem_hits h2)
    cases ho : ops[i]? with
    | none => rw [ho] at p1; exact absurd p1 (by simp)
    | some o =>
     rw [ho] at p1
     unfold lateF at p3
     split at p3
     ·rename_i n b
      exact ⟨o, n, b, rfl, p1, rfl, rfl, by simpa using p3⟩
     ·exact absurd p3 (by simp)
  ·exact drawOk_pair hd.2 i j h
theorem isMk_app {call : CallF} {base : Nat} {op : AOp} {e : Env} {σ σ' : St} {x : AV} {t : Bool} (h : stepC call base op e σ = some (x, σ', t)) (hm : isMk op = true) : ∃ X, σ' = σ ++ X := by
 cases op <;> simp only [isMk] at hm <;> first | (exact absurd hm (by decide)) | skip
 rename_i mode f args
 have : mode = 4 := by simpa using hm
 subst this
 simp only [stepC, callX] at h
 rw [if_neg (by decide)] at h
 split at h
 ·exact absurd h (by simp)
 ·rename_i hn
  have hn : norefs (norms (evs e args)) = true := by simpa using hn
  unfold callOp at h
  rw [if_neg (by decide), if_neg (by decide)] at h
  simp only [hn, if_true] at h
  split at h
  ·exact absurd h (by simp)
  ·split at h
   ·simp at h; exact ⟨[], by rw [← h.2.1]; simp⟩
   ·simp at h; exact ⟨_, h.2.1.symm⟩
theorem isMk_foot {op : AOp} {e : Env} {n : Nat} (h : isMk op = true) : footOf op e n = some (false, n) := by
 cases op <;> simp only [isMk] at h <;> first | (exact absurd h (by decide)) | skip
 rename_i mode f args
 have : mode = 4 := by simpa using h
 subst this; rfl
theorem isMk_rd {op : AOp} (h : isMk op = true) : isRd op = false := by
 cases op <;> simp only [isMk] at h <;> first | (exact absurd h (by decide)) | skip
 rename_i mode f args
 have : mode = 4 := by simpa using h
 subst this; rfl
theorem apart_iff {f g : Foot} (h : apart f g = true) : ∃ a b, f = some (true, a) ∧ g = some (false, b) ∧ a ≠ b := by
 unfold apart at h
 split at h
 ·rename_i a b; exact ⟨a, b, rfl, rfl, by simpa using h⟩
 ·exact absurd h (by simp)
theorem footApp_false {n d : Nat} {x y : AV} {r : Bool} {a : Nat} (h : footApp n d x y = some (r, a)) : r = false := by
 unfold footApp at h
 split at h
 ·split at h
  ·simp at h; exact h.1
  ·rw [Option.map_eq_some_iff] at h
   obtain ⟨_, _, h⟩ := h
   simp at h; exact h.1
 ·exact absurd h (by simp)
theorem footSlot_false {n d : Nat} {env : Env} {op : AOp} {r : Bool} {a : Nat} (h : footSlot n d env op = some (r, a)) : r = false := by
 unfold footSlot at h
 split at h
 ·split at h
  ·exact footApp_false h
  ·exact absurd h (by simp)
 ·split at h
  ·simp at h; exact h.1
  ·exact absurd h (by simp)
theorem foot_isRd {op : AOp} {e : Env} {n a : Nat} (h : footOf op e n = some (true, a)) : isRd op = true := by
 cases op <;> simp only [footOf] at h <;> first | rfl | (simp at h; done) | (split at h <;> simp at h; done) | (split at h <;> first | (rename_i hm; simp [isRd, hm]; done) | exact absurd h (by simp)) | exact absurd (footSlot_false h) (by simp)
theorem rd_foot {call : CallF} {base : Nat} {op : AOp} {e : Env} {σ σ' : St} {x : AV} (h : stepC call base op e σ = some (x, σ', true)) (hm : isRd op = true) :
  ∃ a ob, footOf op e σ.length = some (true, a) ∧ σ[a]? = some ob ∧ ∀ τ : St, τ[a]? = some ob → stepC call base op e τ = some (x, τ, true) := by
 cases op <;> simp only [isRd] at hm <;> first | (exact absurd hm (by decide)) | skip
 case call mode f args =>
  have : mode = 3 := by simpa using hm
  subst this
  simp only [stepC, callX] at h ⊢
  obtain ⟨q1, q2, q3, ⟨as, q4⟩, q5⟩ := view_open h
  simp only [footOf]
  cases ho : oslIns (evs e args) with
  | nil => rw [ho] at q2; simp at q2
  | cons o r =>
   have hr : r = [] := by rw [ho] at q3; simp at q3; exact q3
   subst hr
   obtain ⟨v, sz, es, hx⟩ := frz_arr.go _ q4 (show o ∈ oslIns (evs e args) by rw [ho]; simp)
   refine ⟨o, _, rfl, hx, fun τ hτ => q5 τ fun o' ho' => ?_⟩
   rw [ho] at ho'
   simp at ho'; subst ho'
   rw [hτ, hx]
 case slice sz y lo hi mx =>
  simp only [stepC, step] at h ⊢
  simp only [footOf]
  cases hy : ev e y <;> rw [hy] at h <;> simp only [] at h ⊢ <;> first | (simp at h; done) | skip
  case osl o ver n off len =>
   split at h
   ·rename_i he
    refine ⟨o, _, rfl, he, fun τ hτ => ?_⟩
    rw [hτ]
    simp only []
    split at h
    ·rename_i hc
     rw [if_pos hc]
     split at h
     ·split at h
      ·rename_i hl
       simp at h; obtain ⟨rfl, rfl⟩ := h
       simp_all
      ·exact absurd h (by simp)
     ·exact absurd h (by simp)
    ·exact absurd h (by simp)
   ·exact absurd h (by simp)
  all_goals
   exfalso
   repeat' (split at h)
   all_goals (simp at h)
 case load ag sz y =>
  simp only [stepC, step] at h ⊢
  simp only [footOf]
  cases hd : deref σ (ev e y) with
  | none => simp [hd] at h
  | some p =>
   rw [hd] at h
   obtain ⟨cs, t⟩ := p
   simp only [] at h
   obtain ⟨v, hv, he⟩ := Option.map_eq_some_iff.1 h
   simp at he; obtain ⟨rfl, rfl, rfl⟩ := he
   cases hy : ev e y <;> rw [hy] at hd <;> simp only [deref] at hd <;> first | (simp at hd; done) | skip
   case ref o off =>
    split at hd
    ·rename_i cs0 ho
     refine ⟨o, _, rfl, ho, fun τ hτ => ?_⟩
     simp only [deref, hτ]
     simp at hd; subst hd; simp [hv]
    ·exact absurd hd (by simp)
   case eref o ver n i off =>
    split at hd
    ·rename_i ho
     refine ⟨o, _, rfl, ho, fun τ hτ => ?_⟩
     simp only [deref, hτ]
     split at hd
     ·rename_i hc
      rw [if_pos hc]
      split at hd
      ·rename_i he
       simp at hd; subst hd; simp [hv]
      ·exact absurd hd (by simp)
     ·exact absurd hd (by simp)
    ·exact absurd hd (by simp)
 case len str y =>
  simp only [stepC, step] at h ⊢
  simp only [footOf]
  split at h
  ·split at h <;> simp at h
  ·rename_i hs
   obtain ⟨r, hr, he⟩ := Option.map_eq_some_iff.1 h
   simp at he; obtain ⟨rfl, rfl, he2⟩ := he
   obtain ⟨es, t⟩ := r
   simp at he2; subst he2
   cases hy : ev e y <;> rw [hy] at hr <;> simp only [elems] at hr <;> first | (simp at hr; done) | skip
   case osl o ver n off len =>
    split at hr
    ·rename_i ho
     refine ⟨o, _, rfl, ho, fun τ hτ => ?_⟩
     rw [if_neg hs]
     simp only [elems, hτ]
     rw [hr]; rfl
    ·exact absurd hr (by simp)
 case idxa sz y i =>
  simp only [stepC, step] at h ⊢
  simp only [footOf]
  split at h
  ·split at h
   ·split at h
    ·split at h <;> simp at h
    ·exact absurd h (by simp)
   ·exact absurd h (by simp)
  ·rename_i h1 h2
   split at h
   ·rename_i ho
    refine ⟨_, _, by rw [h1]; rfl, ho, fun τ hτ => ?_⟩
    simp only [hτ]
    split at h
    ·rename_i hc
     rw [if_pos hc]
     simp at h; simp [h.1]
    ·exact absurd h (by simp)
   ·exact absurd h (by simp)
  ·exact absurd h (by simp)
theorem srcOf_plain {σ τ : St} {sz : Nat} {v : AV} (h : plainS v = true) : srcOf σ sz v = srcOf τ sz v := by
 cases v <;> simp only [plainS] at h <;> first | rfl | (exact absurd h (by decide))
theorem append_foot {base : Nat} {pr : Bool} {sz bytes : Nat} {x y : Opd} {e : Env} {σ σ' : St} {v : AV} {t : Bool} (h : step base (.append pr sz bytes x y) e σ = some (v, σ', t)) (hp : plainS (ev e y) = true) {o : Nat} (ho : objOf (ev e x) = some o) :
  σ'.length = σ.length ∧ (∀ p, p ≠ o → σ'[p]? = σ[p]?) ∧ t = true ∧ ∀ τ : St, τ.length = σ.length → τ[o]? = σ[o]? → ∃ τ', step base (.append pr sz bytes x y) e τ = some (v, τ', true) ∧ τ'.length = τ.length ∧ τ'[o]? = σ'[o]? ∧ ∀ p, p ≠ o → τ'[p]? = τ[p]? := by
 simp only [step] at h ⊢
 cases hy : srcOf σ sz (ev e y) with
 | none => rw [hy] at h; simp at h
 | some q =>
  obtain ⟨ys, t0⟩ := q
  rw [hy] at h
  have hyτ : ∀ τ : St, srcOf τ sz (ev e y) = some (ys, t0) := fun τ => by rw [← hy]; exact srcOf_plain hp
  simp only [hyτ]
  simp only [] at h
  split at h
  ·rename_i hc
   cases hx : ev e x <;> rw [hx] at ho h <;> simp only [objOf] at ho <;> first | (simp at ho; done) | (simp at h; done) | skip
   rename_i o' ver n off len
   simp at ho; subst ho
   simp only [] at h
   cases hso : σ[o']? with
   | none => rw [hso] at h; simp at h
   | some ob =>
    rw [hso] at h
    cases ob <;> simp only [] at h <;> first | (simp at h; done) | skip
    rename_i ver' sz' es
    split at h
    ·rename_i hc2
     have hlt := (List.getElem?_eq_some_iff.1 hso).1
     split at h
     ·rename_i hc3
      simp at h; obtain ⟨rfl, rfl, rfl⟩ := h
      refine ⟨by simp, fun p hp => by rw [List.getElem?_set]; simp [Ne.symm hp], rfl, fun τ hl hτ => ?_⟩
      refine ⟨τ.set o' (.arr ver sz (es ++ ys)), by rw [if_pos hc]; simp only [hτ]; rw [if_pos hc2, if_pos hc3], by simp, ?_, fun p hp => by rw [List.getElem?_set]; simp [Ne.symm hp]⟩
      rw [List.getElem?_set, List.getElem?_set]; simp [hlt, hl]
     ·rename_i hc3
      simp at h; obtain ⟨rfl, rfl, rfl⟩ := h
      refine ⟨by simp, fun p hp => by rw [List.getElem?_set]; simp [Ne.symm hp], rfl, fun τ hl hτ => ?_⟩
      refine ⟨τ.set o' (.arr (ver + 1) sz ((es.drop off).take len ++ ys)), by rw [if_pos hc]; simp only [hτ]; rw [if_pos hc2, if_neg hc3], by simp, ?_, fun p hp => by rw [List.getElem?_set]; simp [Ne.symm hp]⟩
      rw [List.getElem?_set, List.getElem?_set]; simp [hlt, hl]
    ·exact absurd h (by simp)
  ·exact absurd h (by simp)
theorem push_any {base : Nat} {op : AOp} {e : Env} {σ σ1 : St} {v : AV} {t : Bool} (hs : slotable op = true) (hp : ∀ pr sz bytes x y, op = .append pr sz bytes x y → ev e x = .nils ∧ plainS (ev e y) = true) (h : step base op e σ = some (v, σ1, t)) :
  ∃ ob, σ1 = σ ++ [ob] ∧ ∀ τ : St, τ.length = σ.length → step base op e τ = some (v, τ ++ [ob], t) := by
 cases op <;> simp only [slotable] at hs <;> first | (exact absurd hs (by decide)) | skip
 case alloc zs prs =>
  have : prs = [] := by simpa using hs
  subst this
  simp only [step, promos, Option.map_some, Option.some.injEq, Prod.mk.injEq] at h ⊢
  obtain ⟨rfl, rfl, rfl⟩ := h
  exact ⟨_, rfl, fun τ hl => ⟨by rw [hl], rfl, rfl⟩⟩
 case box ro sz x =>
  have : ro = false := by simpa using hs
  subst this
  simp only [step] at h ⊢
  split at h
  ·rename_i hc
   simp at h; obtain ⟨rfl, rfl, rfl⟩ := h
   exact ⟨_, rfl, fun τ hl => by rw [if_pos hc]; simp [hl]⟩
  ·exact absurd h (by simp)
 case lit pr sz zs len ps =>
  subst hs
  simp only [step] at h ⊢
  split at h
  ·rename_i es he
   simp only [if_true] at h ⊢
   split at h
   ·rename_i h0
    simp at h; obtain ⟨rfl, rfl, rfl⟩ := h
    exact ⟨_, rfl, fun τ hl => by simp [h0, hl]⟩
   ·exact absurd h (by simp)
  ·exact absurd h (by simp)
 case append pr sz bytes x y =>
  subst hs
  obtain ⟨hx, hy⟩ := hp _ _ _ _ _ rfl
  simp only [step, hx] at h ⊢
  cases hsr : srcOf σ sz (ev e y) with
  | none => rw [hsr] at h; simp at h
  | some q =>
   obtain ⟨ys, t0⟩ := q
   rw [hsr] at h
   simp only [] at h
   split at h
   ·rename_i hc
    split at h
    ·rename_i hb
     simp at h; obtain ⟨rfl, rfl, rfl⟩ := h
     exact ⟨_, rfl, fun τ hl => by rw [srcOf_plain (τ := σ) hy, hsr]; simp [hc, hb, hl]⟩
    ·exact absurd h (by simp)
   ·exact absurd h (by simp)
 case movp sz x =>
  simp only [step] at h ⊢
  split at h
  ·rename_i hx
   split at h
   ·rename_i h0
    simp at h; obtain ⟨rfl, rfl, rfl⟩ := h
    exact ⟨_, rfl, fun τ hl => by rw [if_pos h0, hl]⟩
   ·exact absurd h (by simp)
  ·exact absurd h (by simp)
theorem slot_foot {base d : Nat} {op : AOp} {e : Env} {σ σ' : St} {v : AV} {t : Bool} (h : fillAt base d σ (step base op e σ) = some (v, σ', t)) {r : Bool} {a : Nat} (hf : footSlot σ.length d e op = some (r, a)) :
  σ'.length = σ.length ∧ (∀ p, p ≠ a → σ'[p]? = σ[p]?) ∧ t = true ∧ ∀ τ : St, τ.length = σ.length → τ[a]? = σ[a]? → ∃ τ', fillAt base d τ (step base op e τ) = some (v, τ', true) ∧ τ'.length = τ.length ∧ τ'[a]? = σ'[a]? ∧ ∀ p, p ≠ a → τ'[p]? = τ[p]? := by
 have push : ∀ (hs : slotable op = true) (hp : ∀ pr sz bytes x y, op = .append pr sz bytes x y → ev e x = .nils ∧ plainS (ev e y) = true), a = σ.length - d →
   σ'.length = σ.length ∧ (∀ p, p ≠ a → σ'[p]? = σ[p]?) ∧ t = true ∧ ∀ τ : St, τ.length = σ.length → τ[a]? = σ[a]? → ∃ τ', fillAt base d τ (step base op e τ) = some (v, τ', true) ∧ τ'.length = τ.length ∧ τ'[a]? = σ'[a]? ∧ ∀ p, p ≠ a → τ'[p]? = τ[p]? := by
  intro hs hp ha
  cases hst : step base op e σ with
  | none => rw [hst] at h; simp [fillAt] at h
  | some q =>
   obtain ⟨v1, σ1, t1⟩ := q
   rw [hst] at h
   obtain ⟨ob, rfl, hτ⟩ := push_any hs hp hst
   simp only [fillAt] at h
   rw [if_neg (by simp)] at h
   have e1 : (σ ++ [ob])[σ.length]? = some ob := by simp
   rw [e1] at h
   rw [← ha] at h
   obtain ⟨q, hq⟩ : ∃ q, q = σ[a]? := ⟨_, rfl⟩
   rw [← hq] at h
   cases q with
   | none => simp at h
   | some ob2 =>
    have hk := hq.symm
    have hlt := (List.getElem?_eq_some_iff.1 hk).1
    cases ob2 <;> simp only [] at h <;> first | (simp at h; done) | skip
    split at h
    ·rename_i hc
     have fin : ∀ x : AV, (∀ τ : St, τ.length = σ.length → τ[a]? = σ[a]? → fillAt base d τ (some (v1, τ ++ [ob], t1)) = some (x, τ.set a ob, true)) → some (x, σ.set a ob, true) = some (v, σ', t) →
       σ'.length = σ.length ∧ (∀ p, p ≠ a → σ'[p]? = σ[p]?) ∧ t = true ∧ ∀ τ : St, τ.length = σ.length → τ[a]? = σ[a]? → ∃ τ', fillAt base d τ (step base op e τ) = some (v, τ', true) ∧ τ'.length = τ.length ∧ τ'[a]? = σ'[a]? ∧ ∀ p, p ≠ a → τ'[p]? = τ[p]? := by
      intro x hx he
      simp at he; obtain ⟨rfl, rfl, rfl⟩ := he
      refine ⟨by simp, fun p hp => by rw [List.getElem?_set]; simp [Ne.symm hp], rfl, fun τ hl hτa => ⟨τ.set a ob, ?_, by simp, ?_, fun p hp => by rw [List.getElem?_set]; simp [Ne.symm hp]⟩⟩
      ·rw [hτ τ hl]; exact hx τ hl hτa
      ·rw [List.getElem?_set, List.getElem?_set]; simp [hlt, hl]
     have fa : ∀ τ : St, τ.length = σ.length → τ[a]? = σ[a]? → τ.length - d = a ∧ (τ ++ [ob])[τ.length]? = some ob ∧ τ[a]? = some .res := fun τ hl hτa => ⟨by omega, by simp, by rw [hτa, hk]⟩
     cases v1 <;> simp only [] at h <;> first | (simp at h; done) | skip
     ·refine fin _ (fun τ hl hτa => ?_) h
      obtain ⟨f1, f2, f3⟩ := fa τ hl hτa
      simp only [fillAt]
      rw [if_neg (by simp), f2, f1, f3]
      simp only []
      rw [if_pos (by rw [hl]; exact hc)]
     ·refine fin _ (fun τ hl hτa => ?_) h
      obtain ⟨f1, f2, f3⟩ := fa τ hl hτa
      simp only [fillAt]
      rw [if_neg (by simp), f2, f1, f3]
      simp only []
      rw [if_pos (by rw [hl]; exact hc)]
    ·exact absurd h (by simp)
 unfold footSlot at hf
 split at hf
 ·rename_i pr sz bytes x y
  split at hf
  ·rename_i hpr
   have hpr' : pr = true := hpr
   unfold footApp at hf
   split at hf
   ·rename_i hy
    split at hf
    ·rename_i hx
     simp at hf
     exact push hpr' (fun _ _ _ _ _ he => by cases he; exact ⟨hx, hy⟩) hf.2.symm
    ·rw [Option.map_eq_some_iff] at hf
     obtain ⟨o, ho, he⟩ := hf
     simp at he; obtain ⟨_, rfl⟩ := he
     cases hst : step base (.append pr sz bytes x y) e σ with
     | none => rw [hst] at h; simp [fillAt] at h
     | some q =>
      obtain ⟨v1, σ1, t1⟩ := q
      rw [hst] at h
      obtain ⟨r1, r2, r3, r4⟩ := append_foot hst hy ho
      simp only [fillAt] at h
      rw [if_pos r1] at h
      simp at h; obtain ⟨rfl, rfl, rfl⟩ := h
      refine ⟨r1, r2, rfl, fun τ hl hτ => ?_⟩
      obtain ⟨τ', s1, s2, s3, s4⟩ := r4 τ hl hτ
      exact ⟨τ', by rw [s1]; simp only [fillAt]; rw [if_pos s2], s2, s3, s4⟩
   ·exact absurd hf (by simp)
  ·exact absurd hf (by simp)
 ·rename_i hna
  split at hf
  ·rename_i hs
   simp at hf
   exact push hs (fun _ _ _ _ _ he => (hna _ _ _ _ _ he).elim) hf.2.symm
  ·exact absurd hf (by simp)
theorem store_one {base : Nat} {sz : Nat} {x y : Opd} {e : Env} {σ σ' : St} {v : AV} {t : Bool} (h : step base (.store sz x y) e σ = some (v, σ', t)) {o : Nat} (ho : objOf (ev e x) = some o) :
  σ'.length = σ.length ∧ (∀ p, p ≠ o → σ'[p]? = σ[p]?) ∧ t = true ∧ ∀ τ : St, τ.length = σ.length → τ[o]? = σ[o]? → ∃ τ', step base (.store sz x y) e τ = some (v, τ', true) ∧ τ'.length = τ.length ∧ τ'[o]? = σ'[o]? ∧ ∀ p, p ≠ o → τ'[p]? = τ[p]? := by
 simp only [step] at h ⊢
 split at h
 ·rename_i hc
  cases hx : ev e x <;> rw [hx] at ho h <;> simp only [objOf] at ho <;> first | (simp at ho; done) | (simp at h; done) | skip
  ·rename_i o' off
   simp at ho; subst ho
   simp only [] at h
   cases hso : σ[o']? with
   | none => rw [hso] at h; simp at h
   | some ob =>
    have hlt := (List.getElem?_eq_some_iff.1 hso).1
    rw [hso] at h
    cases ob <;> simp only [] at h <;> first | (simp at h; done) | skip
    rename_i cs
    split at h
    ·rename_i hc2
     simp at h; obtain ⟨rfl, rfl, rfl⟩ := h
     refine ⟨by simp, fun p hp => by rw [List.getElem?_set]; simp [Ne.symm hp], rfl, fun τ hl hτ => ?_⟩
     refine ⟨τ.set o' (.cells (over cs off (ev e y).cellsOf)), by rw [if_pos hc]; simp only [hτ]; rw [if_pos hc2], by simp, ?_, fun p hp => by rw [List.getElem?_set]; simp [Ne.symm hp]⟩
     rw [List.getElem?_set, List.getElem?_set]; simp [hlt, hl]
    ·exact absurd h (by simp)
  ·rename_i o' ver n i off
   simp at ho; subst ho
   simp only [] at h
   cases hso : σ[o']? with
   | none => rw [hso] at h; simp at h
   | some ob =>
    have hlt := (List.getElem?_eq_some_iff.1 hso).1
    rw [hso] at h
    cases ob <;> simp only [] at h <;> first | (simp at h; done) | skip
    rename_i ver' sz' es
    split at h
    ·rename_i hc2
     cases hei : es[i]? with
     | none => rw [hei] at h; simp at h
     | some el =>
      rw [hei] at h
      simp only [] at h
      split at h
      ·rename_i hc3
       cases hz : frzCells (ev e y).cellsOf with
       | none => rw [hz] at h; simp at h
       | some zs =>
        rw [hz] at h
        simp at h; obtain ⟨rfl, rfl, rfl⟩ := h
        refine ⟨by simp, fun p hp => by rw [List.getElem?_set]; simp [Ne.symm hp], rfl, fun τ hl hτ => ?_⟩
        refine ⟨τ.set o' (.arr ver' sz' (es.set i (over el off zs))), by rw [if_pos hc]; simp only [hτ, hei]; rw [if_pos hc2, if_pos hc3], by simp, ?_, fun p hp => by rw [List.getElem?_set]; simp [Ne.symm hp]⟩
        rw [List.getElem?_set, List.getElem?_set]; simp [hlt, hl]
      ·exact absurd h (by simp)
    ·exact absurd h (by simp)
 ·exact absurd h (by simp)
theorem one_foot {call : CallF} {base : Nat} {op : AOp} {e : Env} {σ σ' : St} {x : AV} {t : Bool} (h : stepC call base op e σ = some (x, σ', t)) (hmk : isMk op = false) {r : Bool} {a : Nat} (hf : footOf op e σ.length = some (r, a)) (ht : r = true → t = true) :
  σ'.length = σ.length ∧ (∀ p, p ≠ a → σ'[p]? = σ[p]?) ∧ (r = true → σ' = σ) ∧ ∀ τ : St, τ.length = σ.length → τ[a]? = σ[a]? → ∃ τ', stepC call base op e τ = some (x, τ', t) ∧ τ'.length = τ.length ∧ τ'[a]? = σ'[a]? ∧ ∀ p, p ≠ a → τ'[p]? = τ[p]? := by
 cases r with
 | true =>
  have hrd := foot_isRd hf
  have := ht rfl; subst this
  obtain ⟨a', ob, q1, q2, q3⟩ := rd_foot h hrd
  rw [hf] at q1; simp at q1; subst q1
  have hσ := isRd_same h hrd
  subst hσ
  exact ⟨rfl, fun _ _ => rfl, fun _ => rfl, fun τ hl hτ => ⟨τ, q3 τ (by rw [hτ, q2]), rfl, hτ, fun _ _ => rfl⟩⟩
 | false =>
  cases op <;> simp only [footOf] at hf <;> first | (simp at hf; done) | skip
  case call mode f args =>
   exfalso
   split at hf
   ·split at hf <;> simp at hf
   ·split at hf
    ·rename_i h4
     simp [isMk, h4] at hmk
    ·exact absurd hf (by simp)
  case store sz y z =>
   rw [Option.map_eq_some_iff] at hf
   obtain ⟨o, ho, hf⟩ := hf
   simp at hf; subst hf
   obtain ⟨s1, s2, s3, s4⟩ := store_one (base := base) h ho
   subst s3
   exact ⟨s1, s2, fun h => by simp at h, s4⟩
  case append pr sz bytes y z =>
   split at hf
   ·rename_i hp
    rw [Option.map_eq_some_iff] at hf
    obtain ⟨o, ho, hf⟩ := hf
    simp at hf; subst hf
    obtain ⟨s1, s2, s3, s4⟩ := append_foot (base := base) h hp ho
    subst s3
    exact ⟨s1, s2, fun h => by simp at h, s4⟩
   ·exact absurd hf (by simp)
  case slot d op =>
   obtain ⟨s1, s2, s3, s4⟩ := slot_foot (base := base) h hf
   subst s3
   exact ⟨s1, s2, fun h => by simp at h, s4⟩
theorem store_foot {call : CallF} {base : Nat} {op : AOp} {e : Env} {σ σ' : St} {x : AV} {t : Bool} (h : stepC call base op e σ = some (x, σ', t)) (hmk : isMk op = false) {b : Nat} (hf : footOf op e σ.length = some (false, b)) : ∀ a, a ≠ b → σ'[a]? = σ[a]? :=
 (one_foot h hmk hf (fun h => by simp at h)).2.1
def chkPairX (B : List Nat) (aos : List AOper) (unord : List (Nat × Nat)) (i j : Nat) : Bool :=
 (B.getD j 0).testBit i || (match aos[i]?, aos[j]? with
  | some x, some y => (match x.dst with
    | some d => !(namesOf y).contains d && y.dst != some d
    | none => true) && (match y.dst with
    | some d => !(namesOf x).contains d
    | none => true) && (!(mayTouch x.op && mayTouch y.op) || (isRd x.op && isRd y.op) || unord.contains (i, j))
  | _, _ => true)
def chkPairsX (B : List Nat) (aos : List AOper) (unord : List (Nat × Nat)) : Nat → Bool
 | 0 => true
 | j + 1 => (List.range j).all (fun i => chkPairX B aos unord i j) && chkPairsX B aos unord j
def chkDrawX (ops : List Oper) (aos : List AOper) (unord : List (Nat × Nat)) : Bool := chkEdges ops ops.length && aos.all (fun x => !isMk x.op) && chkPairsX (befs ops []) aos unord ops.length
theorem chkPairsX_ok {B : List Nat} {aos : List AOper} {unord : List (Nat × Nat)} : ∀ {n : Nat}, chkPairsX B aos unord n = true → ∀ i j, i < j → j < n → chkPairX B aos unord i j = true
 | 0, _, i, j, _, h => absurd h (by omega)
 | n + 1, hc, i, j, hij, hj => by
  simp only [chkPairsX, Bool.and_eq_true] at hc
  by_cases hjn : j = n
  ·subst hjn
   exact List.all_eq_true.1 hc.1 i (by simpa using hij)
  ·exact chkPairsX_ok hc.2 i j hij (by omega)
theorem xOk_pair {T : List (Nat × Foot)} : ∀ {l : List (Nat × Nat)}, xOk T l = true → ∀ i j, (i, j) ∈ l → ∀ f g, (i, f) ∈ T → (j, g) ∈ T → freeOf f g = true
 | [], _, i, j, h => by simp at h
 | (a, c) :: l, hd, i, j, h => by
  simp only [xOk, Bool.and_eq_true] at hd
  simp at h
  rcases h with ⟨rfl, rfl⟩ | h
  ·intro f g h1 h2
   exact List.all_eq_true.1 (List.all_eq_true.1 hd.1 f (mem_hits h1)) g (mem_hits h2)
  ·exact xOk_pair hd.2 i j h
theorem allFeet_mem : ∀ {T : List (Nat × Foot)}, allFeet T = true → ∀ p ∈ T, p.2.isSome = true
 | [], _, p, h => by simp at h
 | (i, f) :: r, h, p, hp => by
  simp only [allFeet, Bool.and_eq_true] at h
  simp at hp
  rcases hp with rfl | hp
  ·exact h.1
  ·exact allFeet_mem h.2 p hp
end
end Go.Den

namespace Go.Den
open Go

section
variable {P : Program} {tab : Nat → Nat}
theorem chkOpers_len {N : Nat} {ops : Array Oper} : ∀ {os : List Oper} {aos : List AOper}, chkOpers P tab N ops os aos = true → aos.length = os.length
 | [], [], _ => rfl
 | [], _ :: _, h => by simp [chkOpers] at h
 | _ :: _, [], h => by simp [chkOpers] at h
 | o :: os, ao :: aos, h => by
  simp only [chkOpers, Bool.and_eq_true] at h
  simp [chkOpers_len h.2]
theorem chkOpers_get {N : Nat} {ops : Array Oper} : ∀ {os : List Oper} {aos : List AOper}, chkOpers P tab N ops os aos = true → ∀ (i : Nat) (o : Oper) (ao : AOper), os[i]? = some o → aos[i]? = some ao → chkOper P tab N o ao = true ∧ chkGuard ops o ao = true
 | [], [], _, i, o, ao, h, _ => by simp at h
 | [], _ :: _, h, _, _, _, _, _ => by simp [chkOpers] at h
 | _ :: _, [], h, _, _, _, _, _ => by simp [chkOpers] at h
 | o' :: os, ao' :: aos, hc, i, o, ao, h1, h2 => by
  simp only [chkOpers, Bool.and_eq_true] at hc
  cases i with
  | zero => simp at h1 h2; subst h1; subst h2; exact hc.1
  | succ i => exact chkOpers_get hc.2 i o ao (by simpa using h1) (by simpa using h2)
def cnt (L : Nat → Bool) : Nat → Nat
 | 0 => 0
 | n + 1 => (if L n then 0 else 1) + cnt L n
theorem cnt_congr {L M : Nat → Bool} : ∀ {n : Nat}, (∀ k, k < n → L k = M k) → cnt L n = cnt M n
 | 0, _ => rfl
 | n + 1, h => by simp only [cnt]; rw [h n (by omega), cnt_congr fun k hk => h k (by omega)]
theorem cnt_set {L M : Nat → Bool} {i : Nat} (hL : L i = false) (hM : M i = true) (ho : ∀ k, k ≠ i → M k = L k) : ∀ {n : Nat}, i < n → cnt M n + 1 = cnt L n
 | 0, h => absurd h (by omega)
 | n + 1, h => by
  simp only [cnt]
  by_cases e : i = n
  ·subst e
   rw [hL, hM, cnt_congr (L := M) (M := L) fun k hk => ho k (by omega)]
   simp; omega
  ·rw [ho n (fun h => e h.symm)]
   have := cnt_set hL hM ho (n := n) (by omega)
   omega
theorem cnt_zero {L : Nat → Bool} : ∀ {n : Nat}, cnt L n = 0 → ∀ k, k < n → L k = true
 | 0, _, k, h => absurd h (by omega)
 | n + 1, hc, k, h => by
  simp only [cnt] at hc
  by_cases e : k = n
  ·subst e
   cases hl : L k with
   | true => rfl
   | false => simp [hl] at hc
  ·exact cnt_zero (n := n) (by omega) k (by omega)
theorem least_not {L : Nat → Bool} : ∀ {n : Nat}, ¬ (∀ k, k < n → L k = true) → ∃ i, i < n ∧ L i = false ∧ ∀ k, k < i → L k = true
 | 0, h => absurd (fun k hk => absurd hk (by omega)) h
 | n + 1, h => by
  by_cases hn : ∀ k, k < n → L k = true
  ·refine ⟨n, by omega, ?_, hn⟩
   cases hl : L n with
   | false => rfl
   | true =>
    refine absurd (fun k hk => ?_) h
    by_cases e : k = n
    ·subst e; exact hl
    ·exact hn k (by omega)
  ·obtain ⟨i, hi, h1, h2⟩ := least_not hn
   exact ⟨i, by omega, h1, h2⟩
theorem ready_iff {ops : Array Oper} {listed : Array Bool} {i : Nat} : i ∈ Region.ready .any ops listed ↔ i < ops.size ∧ listed.getD i true = false ∧ ∃ o, ops[i]? = some o ∧ ∀ e ∈ o.after.toList, Region.binds .any e = true → listed.getD e.on false = true := by
 unfold Region.ready
 rw [List.mem_filter]
 simp only [List.mem_range, Bool.and_eq_true, Bool.not_eq_true']
 constructor
 ·rintro ⟨h1, h2, h3⟩
  refine ⟨h1, h2, ops[i], Array.getElem?_eq_getElem h1, ?_⟩
  rw [Array.getElem?_eq_getElem h1] at h3
  simp only [Option.map_some, Option.getD_some] at h3
  intro e he hb
  rw [Array.all_eq_true'] at h3
  have := h3 e (by simpa using he)
  simpa [hb] using this
 ·rintro ⟨h1, h2, o, ho, h3⟩
  refine ⟨h1, h2, ?_⟩
  rw [ho]
  simp only [Option.map_some, Option.getD_some]
  rw [Array.all_eq_true']
  intro e he
  have := h3 e (by simpa using he)
  cases hb : Region.binds .any e with
  | false => rfl
  | true => simp [this hb]
theorem any_ok {call : CallF} {G : Nat → Option AFunc} (C : CallOk P tab call) (hG : ∀ f args σ r, call f args σ = some r → ∃ F, G f = some F) (hN : Named P tab G) {ops : Array Oper} {N : Nat} {aos : List AOper} {unord : List (Nat × Nat)}
  (hc : chkOpers P tab N ops ops.toList aos = true) (hd : chkDraw ops.toList aos unord = true) {F : Nat → Prop} {base : Nat} {env env' : Env} {σ σ' : St} {S' : List (Nat × Foot)} (hrun : runD call base aos 0 env σ [] = some (env', σ', S')) (hok : drawOk aos S' unord = true)
  {a : Act} {w : World} {γ : List Gh} (S : Fst tab F base w σ γ env a.tmps) (hsz : a.tmps.size = N) {Q : Exit → Act → World → Prop}
  (hQ : ∀ a' w' γ' e', (∀ t, e'.get t = env'.get t) → Goes base w σ γ w' σ' γ' → Fst tab F base w' σ' γ' e' a'.tmps → a'.tmps.size = N → a'.defers = a.defers → Q .normal a' w') :
  wpAny P .any ops Q ops.size (Array.replicate ops.size false) a w := by
 obtain ⟨E, T, r, b, hE0, hT0, hEn, hTn, tr, hS'⟩ := runD_trace aos 0 hrun
 have hlen : aos.length = ops.size := by rw [chkOpers_len hc]; simp
 simp only [chkDraw, Bool.and_eq_true, Array.length_toList] at hd
 obtain ⟨hed, hpr⟩ := hd
 have hedge := chkEdges_ok hed
 have hpair := chkPairs_ok hpr
 have hn := hlen
 -- touched pairs are ordered
 have hbits : ∀ j i, ((befs ops.toList []).getD j 0).testBit i = true → ∃ o, ops.toList[j]? = some o ∧ ∃ e ∈ o.after.toList, Region.binds .any e = true ∧ (i = e.on ∨ e.on < j ∧ ((befs ops.toList []).getD e.on 0).testBit i = true) := by
  intro j i h
  obtain ⟨o, ho, h⟩ := befs_get ops.toList [] j i (by simp) h
  exact ⟨o, by simpa using ho, h⟩
 have htouch : ∀ i, i < aos.length → ∀ ao, aos[i]? = some ao → b i = true → mayTouch ao.op = true := by
  intro i hi ao hao hb
  obtain ⟨_, hor⟩ := tr.at_ i ao hi hao
  rcases hor with ⟨_, h2⟩ | ⟨_, _, _, h4⟩
  ·cases hm : mayTouch ao.op with
   | true => rfl
   | false => rw [mayTouch_ok h2 hm] at hb; exact absurd hb (by simp)
  ·rw [h4] at hb; exact absurd hb (by simp)
 obtain ⟨c, hcdef⟩ : ∃ c : Nat → Bool, ∀ i, c i = (b i && !(((aos[i]?).map fun x => isRd x.op).getD false)) := ⟨_, fun _ => rfl⟩
 have hcb : ∀ i, c i = true → b i = true := by intro i h; rw [hcdef] at h; simp at h; exact h.1
 have hcb0 : ∀ i, b i = false → c i = false := by intro i h; rw [hcdef, h]; rfl
 have hstay : ∀ i, i < aos.length → c i = false → T (i + 1) = T i := by
  intro i hi hci
  obtain ⟨_, hor⟩ := tr.at_ i aos[i] hi (List.getElem?_eq_getElem hi)
  rcases hor with ⟨_, h2⟩ | ⟨_, _, h3, _⟩
  ·cases hb : b i with
   | false => rw [hb] at h2; exact (stepC_free h2).1
   | true =>
    rw [hcdef, hb, List.getElem?_eq_getElem hi] at hci
    simp at hci
    exact isRd_same h2 hci
  ·exact h3
 have hmem : ∀ i, (hi : i < aos.length) → b i = true → (i, footOf aos[i].op (E i) (T i).length) ∈ S' := fun i hi hb => (hS' _).2 (.inr ⟨i, aos[i], List.getElem?_eq_getElem hi, by simp, hb⟩)
 have hordA : ∀ i j, (hij : i < j) → (hj : j < aos.length) → b i = true → b j = true → (c i = true ∨ c j = true ∧ isPush aos[j].op = false) → ((befs ops.toList []).getD j 0).testBit i = true ∨ apart (footOf (aos[i]'(Nat.lt_trans hij hj)).op (E i) (T i).length) (footOf aos[j].op (E j) (T j).length) = true ∨ (isMk (aos[i]'(Nat.lt_trans hij hj)).op = true ∧ ∃ a, footOf aos[j].op (E j) (T j).length = some (true, a) ∧ a < (T i).length) := by
  intro i j hij hj hbi hbj hcc
  have h := hpair i j hij (by omega)
  have hi' : i < aos.length := by omega
  simp only [chkPair, List.getElem?_eq_getElem hi', List.getElem?_eq_getElem hj, Bool.or_eq_true, Bool.and_eq_true] at h
  rcases h with h | ⟨_, h⟩
  ·exact .inl h
  ·have t1 := htouch i hi' _ (List.getElem?_eq_getElem hi') hbi
   have t2 := htouch j hj _ (List.getElem?_eq_getElem hj) hbj
   rcases h with (h | ⟨r1, r2⟩) | h
   ·simp [t1, t2] at h
   ·exfalso
    rcases hcc with hcc | ⟨hcc, hcp⟩
    ·rw [hcdef, List.getElem?_eq_getElem hi'] at hcc; simp [r1] at hcc
    ·rw [hcdef, List.getElem?_eq_getElem hj] at hcc
     simp [hcp] at r2
     simp [r2] at hcc
   ·simp at h
    rcases drawOk_pair hok i j h _ _ (hmem i hi' hbi) (hmem j hj hbj) with h5 | ⟨o, n, a, h6, h7, h8, h9, h10⟩
    ·exact .inr (.inl h5)
    ·rw [List.getElem?_eq_getElem hi'] at h6
     simp only [Option.some.injEq] at h6
     subst h6
     rw [isMk_foot h7] at h8
     simp at h8
     subst h8
     exact .inr (.inr ⟨h7, a, h9, h10⟩)
 have hfoot : ∀ i, (hi : i < aos.length) → ∀ a, footOf aos[i].op (E i) (T i).length = some (true, a) → c i = false := by
  intro i hi a hf
  rw [hcdef, List.getElem?_eq_getElem hi]
  have : isRd aos[i].op = true := foot_isRd hf
  simp [this]
 have hordL : ∀ i j, (hij : i < j) → (hj : j < aos.length) → b i = true → b j = true → c i = true → ((befs ops.toList []).getD j 0).testBit i = true ∨ (isMk (aos[i]'(Nat.lt_trans hij hj)).op = true ∧ ∃ a, footOf aos[j].op (E j) (T j).length = some (true, a) ∧ a < (T i).length) := by
  intro i j hij hj hbi hbj hcc
  rcases hordA i j hij hj hbi hbj (.inl hcc) with h | h | h
  ·exact .inl h
  ·obtain ⟨a, _, h1, _⟩ := apart_iff h
   rw [hfoot i (by omega) a h1] at hcc; exact absurd hcc (by simp)
  ·exact .inr h
 have hordT : ∀ i j, i < j → j < aos.length → b i = true → b j = true → c i = true → c j = true → ((befs ops.toList []).getD j 0).testBit i = true := by
  intro i j hij hj hbi hbj hcc hcj
  rcases hordL i j hij hj hbi hbj hcc with h | ⟨_, a, h1, _⟩
  ·exact h
  ·rw [hfoot j hj a h1] at hcj; exact absurd hcj (by simp)
 have hordN : ∀ i j x y, i < j → j < aos.length → aos[i]? = some x → aos[j]? = some y → ((befs ops.toList []).getD j 0).testBit i = true ∨ ((∀ d, x.dst = some d → d ∉ namesOf y) ∧ (∀ d, y.dst = some d → d ∉ namesOf x)) := by
  intro i j x y hij hj hx hy
  have h := hpair i j hij (by omega)
  simp only [chkPair, hx, hy, Bool.or_eq_true, Bool.and_eq_true] at h
  rcases h with h | ⟨⟨h1, h2⟩, _⟩
  ·exact .inl h
  ·right
   refine ⟨fun d hd => ?_, fun d hd => ?_⟩
   ·rw [hd] at h1; simp at h1; exact h1.1
   ·rw [hd] at h2; simpa using h2
 have main : ∀ (fuel : Nat) (listed : Array Bool) (e1 : Env) (σ1 : St) (a1 : Act) (w1 : World) (γ1 : List Gh), listed.size = ops.size → cnt (fun k => listed.getD k false) aos.length ≤ fuel →
   (∀ (i : Nat) (o : Oper), listed.getD i false = true → ops[i]? = some o → ∀ e ∈ o.after.toList, Region.binds .any e = true → listed.getD e.on false = true) →
   (∀ t, e1.get t = look aos env r (fun k => listed.getD k false) t aos.length) → (∃ m, m ≤ aos.length ∧ σ1 = T m ∧ ∀ j, j < aos.length → c j = true → (listed.getD j false = true ↔ j < m)) →
   Goes base w σ γ w1 σ1 γ1 → Fst tab F base w1 σ1 γ1 e1 a1.tmps → a1.tmps.size = N → a1.defers = a.defers → wpAny P .any ops Q fuel listed a1 w1 := by
  intro fuel
  -- the end
  have theEnd : ∀ (listed : Array Bool) (e1 : Env) (σ1 : St) (a1 : Act) (w1 : World) (γ1 : List Gh), (∀ k, k < aos.length → listed.getD k false = true) → (∀ t, e1.get t = look aos env r (fun k => listed.getD k false) t aos.length) →
    (∃ m, m ≤ aos.length ∧ σ1 = T m ∧ ∀ j, j < aos.length → c j = true → (listed.getD j false = true ↔ j < m)) → Goes base w σ γ w1 σ1 γ1 → Fst tab F base w1 σ1 γ1 e1 a1.tmps → a1.tmps.size = N → a1.defers = a.defers → Q .normal a1 w1 := by
   intro listed e1 σ1 a1 w1 γ1 hall hget ⟨m, hm, hσ, hb⟩ hg hf hs hdf
   have hσ' : σ1 = σ' := by
    rw [hσ, ← hTn]
    have : ∀ k, k + m ≤ aos.length → T (m + k) = T m := by
     intro k
     induction k with
     | zero => intro _; rfl
     | succ k ih =>
      intro hk
      have hlt : m + k < aos.length := by omega
      have hnb : c (m + k) = false := by
       cases hbb : c (m + k) with
       | false => rfl
       | true => have := (hb (m + k) hlt hbb).1 (hall _ hlt); omega
      have : T (m + k + 1) = T (m + k) := hstay _ hlt hnb
      rw [← Nat.add_assoc, this, ih (by omega)]
    have h2 := this (aos.length - m) (by omega)
    rw [show m + (aos.length - m) = aos.length by omega] at h2
    exact h2.symm
   subst hσ'
   refine hQ a1 w1 γ1 e1 (fun t => ?_) hg hf hs hdf
   rw [hget, ← hEn, trace_look tr t aos.length (Nat.le_refl _), hE0]
   exact look_congr fun k hk _ => hall k hk
  have allOf : ∀ (listed : Array Bool), listed.size = ops.size → (∀ i, i < aos.length → listed.getD i false = true) ∨ ∃ i, i ∈ Region.ready .any ops listed := by
   intro listed hls
   by_cases hall : ∀ k, k < aos.length → listed.getD k false = true
   ·exact .inl hall
   ·right
    obtain ⟨i, hi, h1, h2⟩ := least_not hall
    refine ⟨i, ready_iff.2 ⟨by omega, ?_, ops[i]'(by omega), Array.getElem?_eq_getElem (by omega), fun e he hb => ?_⟩⟩
    ·have : i < listed.size := by omega
     simp only [Array.getD, this, dif_pos] at h1 ⊢; exact h1
    ·exact h2 _ (hedge i _ (by omega) (by rw [Array.getElem?_toList]; exact Array.getElem?_eq_getElem (by omega)) e he hb)
  induction fuel with
  | zero =>
   intro listed e1 σ1 a1 w1 γ1 hls hcnt hcl hget hm hg hf hs hdf
   have hall := cnt_zero (L := fun k => listed.getD k false) (n := aos.length) (by omega)
   refine ⟨?_, theEnd listed e1 σ1 a1 w1 γ1 hall hget hm hg hf hs hdf⟩
   apply List.eq_nil_iff_forall_not_mem.2
   intro i hi
   obtain ⟨h1, h2, _⟩ := ready_iff.1 hi
   have h3 := hall i (by omega)
   have : i < listed.size := by omega
   simp only [Array.getD, this, dif_pos] at h2 h3
   rw [h2] at h3; exact absurd h3 (by simp)
  | succ fuel ih =>
   intro listed e1 σ1 a1 w1 γ1 hls hcnt hcl hget hm hg hf hs hdf
   refine ⟨fun hnil => ?_, fun i hi => ?_⟩
   ·rcases allOf listed hls with hall | ⟨i, hi⟩
    ·exact theEnd listed e1 σ1 a1 w1 γ1 hall hget hm hg hf hs hdf
    ·rw [hnil] at hi; exact absurd hi (by simp)
   ·obtain ⟨hisz, hil, o, ho, hafter⟩ := ready_iff.1 hi
    have hi' : i < aos.length := by omega
    have hilt : i < listed.size := by omega
    have hiL : listed.getD i false = false := by
     simp only [Array.getD, hilt, dif_pos] at hil ⊢; exact hil
    obtain ⟨ao, hao⟩ : ∃ ao, aos[i]? = some ao := ⟨aos[i], List.getElem?_eq_getElem hi'⟩
    obtain ⟨hcO, hcG⟩ := chkOpers_get hc i o ao (by simpa using ho) hao
    obtain ⟨m, hmn, hσ1, hmb⟩ := hm
    -- what comes before i is listed, what comes after isn't
    have before : ∀ j, ((befs ops.toList []).getD i 0).testBit j = true → listed.getD j false = true := by
     have gen : ∀ k, ∀ j, (listed.getD k false = true ∨ k = i) → ((befs ops.toList []).getD k 0).testBit j = true → listed.getD j false = true := by
      intro k
      induction k using Nat.strongRecOn with
      | _ k ihk =>
       intro j hk hb
       obtain ⟨o', ho', e, he, hbd, h⟩ := hbits k j hb
       have hon : listed.getD e.on false = true := by
        rcases hk with hk | rfl
        ·exact hcl k o' hk (by simpa using ho') e he hbd
        ·have : o' = o := by rw [← Array.getElem?_toList] at ho; rw [ho] at ho'; simpa using ho'.symm
         subst this
         exact hafter e he hbd
       rcases h with rfl | ⟨h1, h2⟩
       ·exact hon
       ·exact ihk e.on h1 j (.inl hon) h2
     exact fun j => gen i j (.inr rfl)
    have after : ∀ k, ((befs ops.toList []).getD k 0).testBit i = true → listed.getD k false = false := by
     intro k
     induction k using Nat.strongRecOn with
     | _ k ihk =>
      intro hb
      cases hk : listed.getD k false with
      | false => rfl
      | true =>
       obtain ⟨o', ho', e, he, hbd, h⟩ := hbits k i hb
       have hon := hcl k o' hk (by simpa using ho') e he hbd
       rcases h with h | ⟨h1, h2⟩
       ·rw [← h, hiL] at hon; exact absurd hon (by simp)
       ·rw [ihk e.on h1 h2] at hon; exact absurd hon (by simp)
    have names : ∀ t ∈ namesOf ao, e1.get t = (E i).get t := by
     intro t ht
     rw [hget, trace_look tr t i (by omega), hE0]
     rw [look_stop (i := i) (n := aos.length) (by omega)]
     ·refine look_congr fun k hk hdst => ?_
      have hk' : k < aos.length := by omega
      rw [List.getElem?_eq_getElem hk'] at hdst
      rcases hordN k i _ ao hk hi' (List.getElem?_eq_getElem hk') hao with h | ⟨h, _⟩
      ·exact before k h
      ·exact absurd ht (h t hdst)
     ·intro k h1 h2 hdst
      by_cases e : k = i
      ·subst e; exact hiL
      ·rw [List.getElem?_eq_getElem h2] at hdst
       rcases hordN i k ao _ (by omega) h2 hao (List.getElem?_eq_getElem h2) with h | ⟨_, h⟩
       ·exact after k h
       ·exact absurd ht (h t hdst)
    obtain ⟨hEi, hor⟩ := tr.at_ i ao hi' hao
    have hwant : wanted e1 ao.guard = wanted (E i) ao.guard := wanted_congr fun t ht => names t (by simp [namesOf, ht])
    have hstep : ∀ τ, stepC call base ao.op e1 τ = stepC call base ao.op (E i) τ := fun τ => stepC_congr (fun t ht => names t (by simp [namesOf, ht])) τ
    -- the state of the objects
    have hTr : b i = true → i < m → c i = false → ∀ a ob, footOf ao.op (E i) (T i).length = some (true, a) → (T i)[a]? = some ob → σ1[a]? = some ob := by
     intro hbi hmi hci a ob hfa hob
     have haoi : aos[i] = ao := by rw [List.getElem?_eq_getElem hi'] at hao; simpa using hao
     rw [hσ1]
     have : ∀ k, i + k ≤ m → (T (i + k))[a]? = some ob := by
      intro k
      induction k with
      | zero => intro _; exact hob
      | succ k ihk =>
       intro hk
       have hlt : i + k < aos.length := by omega
       have hX := ihk (by omega)
       cases hbb : c (i + k) with
       | false => rw [← Nat.add_assoc, hstay _ hlt hbb]; exact hX
       | true =>
        have h1 := (hmb (i + k) hlt hbb).2 (by omega)
        have hk0 : 0 < k := by
         rcases Nat.eq_zero_or_pos k with h | h
         ·subst h; rw [Nat.add_zero, hci] at hbb; exact absurd hbb (by simp)
         ·exact h
        obtain ⟨_, hor'⟩ := tr.at_ (i + k) aos[i + k] hlt (List.getElem?_eq_getElem hlt)
        rcases hor' with ⟨_, h2⟩ | ⟨_, _, _, h4⟩
        ·cases hpu : isPush aos[i + k].op with
         | false =>
          rcases hordA i (i + k) (by omega) hlt hbi (hcb _ hbb) (.inr ⟨hbb, hpu⟩) with h3 | h3 | ⟨h3, _⟩
          ·have h3 := after (i + k) h3
           rw [h1] at h3; exact absurd h3 (by simp)
          ·obtain ⟨a', b', q1, q2, q3⟩ := apart_iff h3
           rw [haoi, hfa] at q1
           simp at q1; subst q1
           cases hmk : isMk aos[i + k].op with
           | false => rw [← Nat.add_assoc, store_foot h2 hmk q2 a q3]; exact hX
           | true => 
            obtain ⟨Y, hY⟩ := isMk_app h2 hmk
            rw [← Nat.add_assoc, hY]; exact get_app hX
          ·have h4 := isMk_rd h3
           rw [haoi, foot_isRd hfa] at h4
           exact absurd h4 (by simp)
         | true =>
          obtain ⟨Y, hY⟩ := isPush_app h2 hpu
          rw [← Nat.add_assoc, hY]; exact get_app hX
        ·rw [hcdef, h4] at hbb; exact absurd hbb (by simp)
     have hX := this (m - i) (by omega)
     rw [show i + (m - i) = m by omega] at hX
     exact hX
    have hTl : b i = true → m ≤ i → ∀ a ob, footOf ao.op (E i) (T i).length = some (true, a) → (T i)[a]? = some ob → σ1[a]? = some ob := by
     intro hbi hmi a ob hfa hob
     have haoi : aos[i] = ao := by rw [List.getElem?_eq_getElem hi'] at hao; simpa using hao
     have hall : ∀ k, m + k ≤ i → (T (i - k))[a]? = some ob := by
      intro k
      induction k with
      | zero => intro _; exact hob
      | succ k ihk =>
       intro hk
       have hX := ihk (by omega)
       obtain ⟨q, hq⟩ : ∃ q, i - (k + 1) = q := ⟨_, rfl⟩
       rw [show i - k = q + 1 by omega] at hX
       rw [hq]
       have hlt : q < aos.length := by omega
       cases hbb : c q with
       | false => rw [hstay _ hlt hbb] at hX; exact hX
       | true =>
        rcases hordL q i (by omega) hi' (hcb _ hbb) hbi hbb with h1 | ⟨h1, a', h2, h3⟩
        ·have h4 := (hmb q hlt hbb).1 (before q h1)
         omega
        ·obtain ⟨_, hor'⟩ := tr.at_ q aos[q] hlt (List.getElem?_eq_getElem hlt)
         rw [haoi, hfa] at h2
         simp at h2; subst h2
         rcases hor' with ⟨_, h5⟩ | ⟨_, _, _, h6⟩
         ·obtain ⟨Y, hY⟩ := isMk_app h5 h1
          rw [hY, List.getElem?_append_left h3] at hX; exact hX
         ·rw [hcdef, h6] at hbb; exact absurd hbb (by simp)
     have := hall (i - m) (by omega)
     rw [show i - (i - m) = m by omega] at this
     rw [hσ1]; exact this
    have hTi : b i = true → c i = true → m ≤ i → σ1 = T i := by
     intro hbi hci2 hmi
     rw [hσ1]
     have : ∀ k, m + k ≤ i → T (m + k) = T m := by
      intro k
      induction k with
      | zero => intro _; rfl
      | succ k ihk =>
       intro hk
       have hlt : m + k < aos.length := by omega
       have hnb : c (m + k) = false := by
        cases hbb : c (m + k) with
        | false => rfl
        | true =>
         have h1 := before (m + k) (hordT (m + k) i (by omega) hi' (hcb _ hbb) hbi hbb hci2)
         have := (hmb (m + k) hlt hbb).1 h1; omega
       rw [← Nat.add_assoc, hstay _ hlt hnb, ihk (by omega)]
     have h2 := this (i - m) (by omega)
     rw [show m + (i - m) = i by omega] at h2
     exact h2.symm
    -- the new listing
    have hgetL : ∀ k, (listed.setIfInBounds i true).getD k false = if k = i then true else listed.getD k false := by
     intro k
     rw [Array.getD_eq_getD_getElem?, Array.getD_eq_getD_getElem?]
     by_cases e : k = i
     ·subst e; simp [hilt]
     ·rw [if_neg e, Array.getElem?_setIfInBounds_ne (fun h => e h.symm)]
    have hcnt' : cnt (fun k => (listed.setIfInBounds i true).getD k false) aos.length ≤ fuel := by
     have := cnt_set (L := fun k => listed.getD k false) (M := fun k => (listed.setIfInBounds i true).getD k false) (i := i) hiL (by simp [hgetL]) (fun k hk => by simp only [hgetL]; rw [if_neg hk]) hi'
     omega
    have hcl' : ∀ (k : Nat) (o' : Oper), (listed.setIfInBounds i true).getD k false = true → ops[k]? = some o' → ∀ e ∈ o'.after.toList, Region.binds .any e = true → (listed.setIfInBounds i true).getD e.on false = true := by
     intro k o' hk ho' e he hbd
     rw [hgetL] at hk ⊢
     by_cases e1 : e.on = i
     ·rw [if_pos e1]
     ·rw [if_neg e1]
      by_cases e2 : k = i
      ·subst e2
       have : o' = o := by rw [ho] at ho'; simpa using ho'.symm
       subst this
       exact hafter e he hbd
      ·rw [if_neg e2] at hk
       exact hcl k o' hk ho' e he hbd
    have hget' : ∀ t, (e1.put ao.dst (r i)).get t = look aos env r (fun k => (listed.setIfInBounds i true).getD k false) t aos.length := by
     intro t
     have hother : ((aos[i]?).bind (·.dst)) ≠ some t → look aos env r (fun k => (listed.setIfInBounds i true).getD k false) t aos.length = look aos env r (fun k => listed.getD k false) t aos.length := by
      intro hne
      refine look_congr fun k hk hdst => ?_
      rw [hgetL, if_neg]
      rintro rfl; exact hne hdst
     cases hdst : ao.dst with
     | none => rw [hother (by rw [hao]; simp [hdst])]; exact hget t
     | some d =>
      simp only [Env.put, Env.get]
      by_cases e : d = t
      ·subst e
       rw [if_pos rfl]
       rw [look_stop (i := i + 1) (n := aos.length) (by omega)]
       ·simp only [look, hao, Option.bind_some, hdst, hgetL, if_true, Bool.true_and]
        simp
       ·intro k h1 h2 hk
        rw [hgetL, if_neg (by omega)]
        rw [List.getElem?_eq_getElem h2] at hk
        have hp := hpair i k (by omega) (by omega)
        simp only [chkPair, hao, List.getElem?_eq_getElem h2, Bool.or_eq_true, Bool.and_eq_true] at hp
        rcases hp with hp | ⟨⟨hp, _⟩, _⟩
        ·exact after k hp
        ·simp at hk; rw [hdst] at hp; simp [hk] at hp
      ·rw [if_neg e, hother (by rw [hao]; simp [hdst, e])]; exact hget t
    have fin : ∀ (σ2 : St) (a2 : Act) (w2 : World) (γ2 : List Gh), (∃ m, m ≤ aos.length ∧ σ2 = T m ∧ ∀ j, j < aos.length → c j = true → ((listed.setIfInBounds i true).getD j false = true ↔ j < m)) →
      Goes base w1 σ1 γ1 w2 σ2 γ2 → Fst tab F base w2 σ2 γ2 (e1.put ao.dst (r i)) a2.tmps → a2.tmps.size = N → a2.defers = a1.defers → wpAny P .any ops Q fuel (listed.setIfInBounds i true) a2 w2 := by
     intro σ2 a2 w2 γ2 hm2 hg2 hf2 hs2 hdf2
     exact ih (listed.setIfInBounds i true) _ σ2 a2 w2 γ2 (by simpa using hls) hcnt' hcl' hget' hm2 (hg.trans hg2) hf2 hs2 (hdf2.trans hdf)
    have hsame : c i = false → ∃ m, m ≤ aos.length ∧ σ1 = T m ∧ ∀ j, j < aos.length → c j = true → ((listed.setIfInBounds i true).getD j false = true ↔ j < m) := by
     intro hbi
     refine ⟨m, hmn, hσ1, fun j hj hbj => ?_⟩
     rw [hgetL, if_neg (by rintro rfl; rw [hbi] at hbj; exact absurd hbj (by simp))]
     exact hmb j hj hbj
    have hwp : wpOp P ops Q i (wpAny P .any ops Q fuel (listed.setIfInBounds i true)) a1 w1 := by
     unfold wpOp
     rw [ho]
     simp only []
     rcases hor with ⟨hw, hst⟩ | ⟨hw, hr0, hT, hb0⟩
     ·cases hbi : b i with
      | true =>
       cases hci : c i with
       | true =>
        have hmi : m ≤ i := by
         rcases Nat.lt_or_ge i m with h | h
         ·have := (hmb i hi' hci).2 h; rw [hiL] at this; exact absurd this (by simp)
         ·exact h
        have hti := hTi hbi hci hmi
        refine oper_ok C hG hN hcO hcG hf hs (.inl ⟨r i, true, by rw [hwant]; exact hw, by rw [hstep, hti, hst, hbi], rfl⟩) fun a2 w2 γ2 hg2 hf2 hs2 hdf2 => fin _ a2 w2 γ2 ⟨i + 1, by omega, rfl, fun j hj hbj => ?_⟩ hg2 hf2 hs2 hdf2
        rw [hgetL]
        by_cases e : j = i
        ·simp [e]
        ·rw [if_neg e]
         constructor
         ·intro h
          have h1 := (hmb j hj hbj).1 h
          have hmi : m ≤ i := by
           rcases Nat.lt_or_ge i m with h | h
           ·have := (hmb i hi' hci).2 h; rw [hiL] at this; exact absurd this (by simp)
           ·exact h
          omega
         ·intro h
          exact before j (hordT j i (by omega) hi' (hcb _ hbj) hbi hbj hci)
       | false =>
        have hsi := hstay i hi' hci
        have hrd : isRd ao.op = true := by
         rw [hcdef, hbi, hao] at hci; simpa using hci
        have hst1 : stepC call base ao.op (E i) σ1 = some (r i, σ1, true) := by
         rcases Nat.lt_or_ge i m with hmi | hmi
         ·rw [hbi] at hst
          obtain ⟨a, ob, q1, q2, q3⟩ := rd_foot hst hrd
          exact q3 σ1 (hTr hbi hmi hci a ob q1 q2)
         ·rw [hbi] at hst
          obtain ⟨a, ob, q1, q2, q3⟩ := rd_foot hst hrd
          exact q3 σ1 (hTl hbi hmi a ob q1 q2)
        exact oper_ok C hG hN hcO hcG hf hs (.inl ⟨r i, true, by rw [hwant]; exact hw, by rw [hstep]; exact hst1, rfl⟩) fun a2 w2 γ2 hg2 hf2 hs2 hdf2 => fin σ1 a2 w2 γ2 (hsame hci) hg2 hf2 hs2 hdf2
      | false =>
       rw [hbi] at hst
       obtain ⟨h1, h2⟩ := stepC_free hst
       exact oper_ok C hG hN hcO hcG hf hs (.inl ⟨r i, false, by rw [hwant]; exact hw, by rw [hstep]; exact h2 σ1, rfl⟩) fun a2 w2 γ2 hg2 hf2 hs2 hdf2 => fin σ1 a2 w2 γ2 (hsame (hcb0 _ hbi)) hg2 hf2 hs2 hdf2
     ·exact oper_ok C hG hN hcO hcG hf hs (.inr ⟨by rw [hwant]; exact hw, rfl, rfl⟩) fun a2 w2 γ2 hg2 hf2 hs2 hdf2 => fin σ1 a2 w2 γ2 (hsame (hcb0 _ hb0)) hg2 (by rw [hr0]; exact hf2) hs2 hdf2
    exact hwp
 refine main ops.size _ env σ a w γ (by simp) ?_ ?_ ?_ ⟨0, by omega, hT0.symm, fun j hj _ => ?_⟩ (Goes.refl w γ S.hb) S hsz rfl
 ·have : ∀ n, cnt (fun k => (Array.replicate ops.size false).getD k false) n ≤ n := by
   intro n
   induction n with
   | zero => exact Nat.le_refl _
   | succ n ih => simp only [cnt]; split <;> omega
  have := this aos.length
  omega
 ·intro i o h
  exfalso
  rw [Array.getD_eq_getD_getElem?] at h
  by_cases hi : i < ops.size <;> simp [hi] at h
 ·intro t
  have : ∀ n, look aos env r (fun k => (Array.replicate ops.size false).getD k false) t n = env.get t := by
   intro n
   induction n with
   | zero => rfl
   | succ n ih =>
    simp only [look]
    have h0 : (Array.replicate ops.size false).getD n false = false := by
     rw [Array.getD_eq_getD_getElem?]
     by_cases hi : n < ops.size <;> simp [hi]
    simp only [h0, Bool.false_and]; simpa using ih
  exact (this _).symm
 ·rw [Array.getD_eq_getD_getElem?]
  by_cases hi : j < ops.size <;> simp [hi]
end
end Go.Den

namespace Go.Den
open Go

section
variable {P : Program} {tab : Nat → Nat}
theorem xany_ok {call : CallF} {G : Nat → Option AFunc} (C : CallOk P tab call) (hG : ∀ f args σ r, call f args σ = some r → ∃ F, G f = some F) (hN : Named P tab G) {ops : Array Oper} {N : Nat} {aos : List AOper} {unord : List (Nat × Nat)}
  (hc : chkOpers P tab N ops ops.toList aos = true) (hd : chkDrawX ops.toList aos unord = true) {F : Nat → Prop} {base : Nat} {env env' : Env} {σ σ' : St} {S' : List (Nat × Foot)} (hrun : runD call base aos 0 env σ [] = some (env', σ', S')) (hok : xOk S' unord = true) (hft : allFeet S' = true)
  {a : Act} {w : World} {γ : List Gh} (S : Fst tab F base w σ γ env a.tmps) (hsz : a.tmps.size = N) {Q : Exit → Act → World → Prop}
  (hQ : ∀ a' w' γ' e', (∀ t, e'.get t = env'.get t) → Goes base w σ γ w' σ' γ' → Fst tab F base w' σ' γ' e' a'.tmps → a'.tmps.size = N → a'.defers = a.defers → Q .normal a' w') :
  wpAny P .any ops Q ops.size (Array.replicate ops.size false) a w := by
 obtain ⟨E, T, r, b, hE0, hT0, hEn, hTn, tr, hS'⟩ := runD_trace aos 0 hrun
 have hlen : aos.length = ops.size := by rw [chkOpers_len hc]; simp
 simp only [chkDrawX, Bool.and_eq_true, Array.length_toList] at hd
 obtain ⟨⟨hed, hmks⟩, hpr⟩ := hd
 have hmk : ∀ i (hi : i < aos.length), isMk aos[i].op = false := by
  intro i hi
  have := List.all_eq_true.1 hmks aos[i] (List.getElem_mem hi)
  simpa using this
 have hedge := chkEdges_ok hed
 have hpair := chkPairsX_ok hpr
 have hn := hlen
 -- touched pairs are ordered
 have hbits : ∀ j i, ((befs ops.toList []).getD j 0).testBit i = true → ∃ o, ops.toList[j]? = some o ∧ ∃ e ∈ o.after.toList, Region.binds .any e = true ∧ (i = e.on ∨ e.on < j ∧ ((befs ops.toList []).getD e.on 0).testBit i = true) := by
  intro j i h
  obtain ⟨o, ho, h⟩ := befs_get ops.toList [] j i (by simp) h
  exact ⟨o, by simpa using ho, h⟩
 have htouch : ∀ i, i < aos.length → ∀ ao, aos[i]? = some ao → b i = true → mayTouch ao.op = true := by
  intro i hi ao hao hb
  obtain ⟨_, hor⟩ := tr.at_ i ao hi hao
  rcases hor with ⟨_, h2⟩ | ⟨_, _, _, h4⟩
  ·cases hm : mayTouch ao.op with
   | true => rfl
   | false => rw [mayTouch_ok h2 hm] at hb; exact absurd hb (by simp)
  ·rw [h4] at hb; exact absurd hb (by simp)
 have hmem : ∀ i, (hi : i < aos.length) → b i = true → (i, footOf aos[i].op (E i) (T i).length) ∈ S' := fun i hi hb => (hS' _).2 (.inr ⟨i, aos[i], List.getElem?_eq_getElem hi, by simp, hb⟩)
 have hst : ∀ i, (hi : i < aos.length) → b i = true → stepC call base aos[i].op (E i) (T i) = some (r i, T (i + 1), true) := by
  intro i hi hb
  obtain ⟨_, hor⟩ := tr.at_ i aos[i] hi (List.getElem?_eq_getElem hi)
  rcases hor with ⟨_, h2⟩ | ⟨_, _, _, h4⟩
  ·rw [hb] at h2; exact h2
  ·rw [h4] at hb; exact absurd hb (by simp)
 have hst0 : ∀ i, i < aos.length → b i = false → T (i + 1) = T i := by
  intro i hi hb
  obtain ⟨_, hor⟩ := tr.at_ i aos[i] hi (List.getElem?_eq_getElem hi)
  rcases hor with ⟨_, h2⟩ | ⟨_, _, h3, _⟩
  ·rw [hb] at h2; exact (stepC_free h2).1
  ·exact h3
 have hfoot : ∀ i, (hi : i < aos.length) → b i = true → ∃ q a, footOf aos[i].op (E i) (T i).length = some (q, a) := by
  intro i hi hb
  have := allFeet_mem hft _ (hmem i hi hb)
  simp only [] at this
  cases hf : footOf aos[i].op (E i) (T i).length with
  | none => rw [hf] at this; exact absurd this (by simp)
  | some p => exact ⟨p.1, p.2, rfl⟩
 have hlenT : ∀ i, i ≤ aos.length → (T i).length = σ.length := by
  intro i
  induction i with
  | zero => intro _; rw [hT0]
  | succ i ih =>
   intro hi
   have hi' : i < aos.length := by omega
   cases hb : b i with
   | false => rw [hst0 i hi' hb]; exact ih (by omega)
   | true =>
    obtain ⟨q, a, hf⟩ := hfoot i hi' hb
    rw [(one_foot (hst i hi' hb) (hmk i hi') hf (fun _ => rfl)).1]; exact ih (by omega)
 obtain ⟨W, hW⟩ : ∃ W : Nat → Nat → Prop, ∀ i a, W i a ↔ ∃ hi : i < aos.length, b i = true ∧ footOf aos[i].op (E i) (T i).length = some (false, a) := ⟨_, fun _ _ => Iff.rfl⟩
 have hnw : ∀ i, i < aos.length → ∀ a, ¬ W i a → (T (i + 1))[a]? = (T i)[a]? := by
  intro i hi a hn
  cases hb : b i with
  | false => rw [hst0 i hi hb]
  | true =>
   obtain ⟨q, a', hf⟩ := hfoot i hi hb
   obtain ⟨_, o2, o3, _⟩ := one_foot (hst i hi hb) (hmk i hi) hf (fun _ => rfl)
   cases q with
   | true => rw [o3 rfl]
   | false =>
    refine o2 a ?_
    rintro rfl
    exact hn ((hW i a).2 ⟨hi, hb, hf⟩)
 have hrange : ∀ a m k, m ≤ k → k ≤ aos.length → (∀ j, m ≤ j → j < k → ¬ W j a) → (T k)[a]? = (T m)[a]? := by
  intro a m k
  induction k with
  | zero =>
   intro h _ _; have : m = 0 := by omega
   subst this; rfl
  | succ k ih =>
   intro h hk hn
   by_cases e : m = k + 1
   ·subst e; rfl
   ·rw [hnw k (by omega) a (hn k (by omega) (by omega))]
    exact ih (by omega) (by omega) fun j h1 h2 => hn j h1 (by omega)
 have hrd : ∀ i, (hi : i < aos.length) → isRd aos[i].op = true → ∀ q a, footOf aos[i].op (E i) (T i).length = some (q, a) → q = true := by
  intro i hi h q a hf
  revert h hf
  cases aos[i].op
  case call mode f args =>
   intro hm hf
   have hm3 : mode = 3 := by simpa [isRd] using hm
   simp only [footOf, if_pos hm3] at hf
   split at hf
   ·simp at hf; exact hf.1
   ·exact absurd hf (by simp)
  all_goals (simp [isRd, footOf] <;> intros <;> simp_all)
 have hconf : ∀ i j, (hij : i < j) → (hj : j < aos.length) → b i = true → b j = true → ∀ q1 q2 a, footOf (aos[i]'(Nat.lt_trans hij hj)).op (E i) (T i).length = some (q1, a) → footOf aos[j].op (E j) (T j).length = some (q2, a) → ¬ (q1 = true ∧ q2 = true) → ((befs ops.toList []).getD j 0).testBit i = true := by
  intro i j hij hj hbi hbj q1 q2 a hf1 hf2 hq
  have h := hpair i j hij (by omega)
  have hi' : i < aos.length := by omega
  simp only [chkPairX, List.getElem?_eq_getElem hi', List.getElem?_eq_getElem hj, Bool.or_eq_true, Bool.and_eq_true] at h
  rcases h with h | ⟨_, h⟩
  ·exact h
  ·exfalso
   have t1 := htouch i hi' _ (List.getElem?_eq_getElem hi') hbi
   have t2 := htouch j hj _ (List.getElem?_eq_getElem hj) hbj
   rcases h with (h | ⟨r1, r2⟩) | h
   ·simp [t1, t2] at h
   ·exact hq ⟨hrd i hi' r1 _ _ hf1, hrd j hj r2 _ _ hf2⟩
   ·simp at h
    have := xOk_pair hok i j h _ _ (hmem i hi' hbi) (hmem j hj hbj)
    rw [hf1, hf2] at this
    simp [freeOf] at this
    exact hq this
 have hordN : ∀ i j x y, i < j → j < aos.length → aos[i]? = some x → aos[j]? = some y → ((befs ops.toList []).getD j 0).testBit i = true ∨ ((∀ d, x.dst = some d → d ∉ namesOf y) ∧ (∀ d, y.dst = some d → d ∉ namesOf x)) := by
  intro i j x y hij hj hx hy
  have h := hpair i j hij (by omega)
  simp only [chkPairX, hx, hy, Bool.or_eq_true, Bool.and_eq_true] at h
  rcases h with h | ⟨⟨h1, h2⟩, _⟩
  ·exact .inl h
  ·right
   refine ⟨fun d hd => ?_, fun d hd => ?_⟩
   ·rw [hd] at h1; simp at h1; exact h1.1
   ·rw [hd] at h2; simpa using h2
 have main : ∀ (fuel : Nat) (listed : Array Bool) (e1 : Env) (σ1 : St) (a1 : Act) (w1 : World) (γ1 : List Gh), listed.size = ops.size → cnt (fun k => listed.getD k false) aos.length ≤ fuel →
   (∀ (i : Nat) (o : Oper), listed.getD i false = true → ops[i]? = some o → ∀ e ∈ o.after.toList, Region.binds .any e = true → listed.getD e.on false = true) →
   (∀ t, e1.get t = look aos env r (fun k => listed.getD k false) t aos.length) → (σ1.length = σ.length ∧ ∀ a, ∃ m, m ≤ aos.length ∧ σ1[a]? = (T m)[a]? ∧ ∀ j, W j a → (listed.getD j false = true ↔ j < m)) →
   Goes base w σ γ w1 σ1 γ1 → Fst tab F base w1 σ1 γ1 e1 a1.tmps → a1.tmps.size = N → a1.defers = a.defers → wpAny P .any ops Q fuel listed a1 w1 := by
  intro fuel
  -- the end
  have theEnd : ∀ (listed : Array Bool) (e1 : Env) (σ1 : St) (a1 : Act) (w1 : World) (γ1 : List Gh), (∀ k, k < aos.length → listed.getD k false = true) → (∀ t, e1.get t = look aos env r (fun k => listed.getD k false) t aos.length) →
    (σ1.length = σ.length ∧ ∀ a, ∃ m, m ≤ aos.length ∧ σ1[a]? = (T m)[a]? ∧ ∀ j, W j a → (listed.getD j false = true ↔ j < m)) → Goes base w σ γ w1 σ1 γ1 → Fst tab F base w1 σ1 γ1 e1 a1.tmps → a1.tmps.size = N → a1.defers = a.defers → Q .normal a1 w1 := by
   intro listed e1 σ1 a1 w1 γ1 hall hget ⟨hl1, hob⟩ hg hf hs hdf
   have hσ' : σ1 = σ' := by
    rw [← hTn]
    apply List.ext_getElem?
    intro p
    obtain ⟨m, hm, hp, hw⟩ := hob p
    rw [hp]
    refine (hrange p m aos.length hm (Nat.le_refl _) fun j h1 h2 hWj => ?_).symm
    have := (hw j hWj).1 (hall j h2)
    omega
   subst hσ'
   refine hQ a1 w1 γ1 e1 (fun t => ?_) hg hf hs hdf
   rw [hget, ← hEn, trace_look tr t aos.length (Nat.le_refl _), hE0]
   exact look_congr fun k hk _ => hall k hk
  have allOf : ∀ (listed : Array Bool), listed.size = ops.size → (∀ i, i < aos.length → listed.getD i false = true) ∨ ∃ i, i ∈ Region.ready .any ops listed := by
   intro listed hls
   by_cases hall : ∀ k, k < aos.length → listed.getD k false = true
   ·exact .inl hall
   ·right
    obtain ⟨i, hi, h1, h2⟩ := least_not hall
    refine ⟨i, ready_iff.2 ⟨by omega, ?_, ops[i]'(by omega), Array.getElem?_eq_getElem (by omega), fun e he hb => ?_⟩⟩
    ·have : i < listed.size := by omega
     simp only [Array.getD, this, dif_pos] at h1 ⊢; exact h1
    ·exact h2 _ (hedge i _ (by omega) (by rw [Array.getElem?_toList]; exact Array.getElem?_eq_getElem (by omega)) e he hb)
  induction fuel with
  | zero =>
   intro listed e1 σ1 a1 w1 γ1 hls hcnt hcl hget hm hg hf hs hdf
   have hall := cnt_zero (L := fun k => listed.getD k false) (n := aos.length) (by omega)
   refine ⟨?_, theEnd listed e1 σ1 a1 w1 γ1 hall hget hm hg hf hs hdf⟩
   apply List.eq_nil_iff_forall_not_mem.2
   intro i hi
   obtain ⟨h1, h2, _⟩ := ready_iff.1 hi
   have h3 := hall i (by omega)
   have : i < listed.size := by omega
   simp only [Array.getD, this, dif_pos] at h2 h3
   rw [h2] at h3; exact absurd h3 (by simp)
  | succ fuel ih =>
   intro listed e1 σ1 a1 w1 γ1 hls hcnt hcl hget hm hg hf hs hdf
   refine ⟨fun hnil => ?_, fun i hi => ?_⟩
   ·rcases allOf listed hls with hall | ⟨i, hi⟩
    ·exact theEnd listed e1 σ1 a1 w1 γ1 hall hget hm hg hf hs hdf
    ·rw [hnil] at hi; exact absurd hi (by simp)
   ·obtain ⟨hisz, hil, o, ho, hafter⟩ := ready_iff.1 hi
    have hi' : i < aos.length := by omega
    have hilt : i < listed.size := by omega
    have hiL : listed.getD i false = false := by
     simp only [Array.getD, hilt, dif_pos] at hil ⊢; exact hil
    obtain ⟨ao, hao⟩ : ∃ ao, aos[i]? = some ao := ⟨aos[i], List.getElem?_eq_getElem hi'⟩
    obtain ⟨hcO, hcG⟩ := chkOpers_get hc i o ao (by simpa using ho) hao
    obtain ⟨hl1, hob⟩ := hm
    -- what comes before i is listed, what comes after isn't
    have before : ∀ j, ((befs ops.toList []).getD i 0).testBit j = true → listed.getD j false = true := by
     have gen : ∀ k, ∀ j, (listed.getD k false = true ∨ k = i) → ((befs ops.toList []).getD k 0).testBit j = true → listed.getD j false = true := by
      intro k
      induction k using Nat.strongRecOn with
      | _ k ihk =>
       intro j hk hb
       obtain ⟨o', ho', e, he, hbd, h⟩ := hbits k j hb
       have hon : listed.getD e.on false = true := by
        rcases hk with hk | rfl
        ·exact hcl k o' hk (by simpa using ho') e he hbd
        ·have : o' = o := by rw [← Array.getElem?_toList] at ho; rw [ho] at ho'; simpa using ho'.symm
         subst this
         exact hafter e he hbd
       rcases h with rfl | ⟨h1, h2⟩
       ·exact hon
       ·exact ihk e.on h1 j (.inl hon) h2
     exact fun j => gen i j (.inr rfl)
    have after : ∀ k, ((befs ops.toList []).getD k 0).testBit i = true → listed.getD k false = false := by
     intro k
     induction k using Nat.strongRecOn with
     | _ k ihk =>
      intro hb
      cases hk : listed.getD k false with
      | false => rfl
      | true =>
       obtain ⟨o', ho', e, he, hbd, h⟩ := hbits k i hb
       have hon := hcl k o' hk (by simpa using ho') e he hbd
       rcases h with h | ⟨h1, h2⟩
       ·rw [← h, hiL] at hon; exact absurd hon (by simp)
       ·rw [ihk e.on h1 h2] at hon; exact absurd hon (by simp)
    have names : ∀ t ∈ namesOf ao, e1.get t = (E i).get t := by
     intro t ht
     rw [hget, trace_look tr t i (by omega), hE0]
     rw [look_stop (i := i) (n := aos.length) (by omega)]
     ·refine look_congr fun k hk hdst => ?_
      have hk' : k < aos.length := by omega
      rw [List.getElem?_eq_getElem hk'] at hdst
      rcases hordN k i _ ao hk hi' (List.getElem?_eq_getElem hk') hao with h | ⟨h, _⟩
      ·exact before k h
      ·exact absurd ht (h t hdst)
     ·intro k h1 h2 hdst
      by_cases e : k = i
      ·subst e; exact hiL
      ·rw [List.getElem?_eq_getElem h2] at hdst
       rcases hordN i k ao _ (by omega) h2 hao (List.getElem?_eq_getElem h2) with h | ⟨_, h⟩
       ·exact after k h
       ·exact absurd ht (h t hdst)
    obtain ⟨hEi, hor⟩ := tr.at_ i ao hi' hao
    have hwant : wanted e1 ao.guard = wanted (E i) ao.guard := wanted_congr fun t ht => names t (by simp [namesOf, ht])
    have hstep : ∀ τ, stepC call base ao.op e1 τ = stepC call base ao.op (E i) τ := fun τ => stepC_congr (fun t ht => names t (by simp [namesOf, ht])) τ
    -- the state of the object that i touches
    have hTa : b i = true → ∀ q a, footOf (aos[i]'hi').op (E i) (T i).length = some (q, a) → σ1[a]? = (T i)[a]? := by
     intro hbi q a hfa
     obtain ⟨m, hm, hp, hw⟩ := hob a
     rw [hp]
     rcases Nat.lt_or_ge i m with him | him
     ·refine hrange a i m (by omega) hm fun j h1 h2 hWj => ?_
      have hlj := (hw j hWj).2 h2
      obtain ⟨hj, hbj, hfj⟩ := (hW j a).1 hWj
      by_cases e : j = i
      ·subst e; rw [hiL] at hlj; exact absurd hlj (by simp)
      ·have := after j (hconf i j (by omega) hj hbi hbj q false a hfa hfj (by simp))
       rw [hlj] at this; exact absurd this (by simp)
     ·refine (hrange a m i him (by omega) fun j h1 h2 hWj => ?_).symm
      obtain ⟨hj, hbj, hfj⟩ := (hW j a).1 hWj
      have := before j (hconf j i h2 hi' hbj hbi false q a hfj hfa (by simp))
      have := (hw j hWj).1 this
      omega
    -- the new listing
    have hgetL : ∀ k, (listed.setIfInBounds i true).getD k false = if k = i then true else listed.getD k false := by
     intro k
     rw [Array.getD_eq_getD_getElem?, Array.getD_eq_getD_getElem?]
     by_cases e : k = i
     ·subst e; simp [hilt]
     ·rw [if_neg e, Array.getElem?_setIfInBounds_ne (fun h => e h.symm)]
    have hcnt' : cnt (fun k => (listed.setIfInBounds i true).getD k false) aos.length ≤ fuel := by
     have := cnt_set (L := fun k => listed.getD k false) (M := fun k => (listed.setIfInBounds i true).getD k false) (i := i) hiL (by simp [hgetL]) (fun k hk => by simp only [hgetL]; rw [if_neg hk]) hi'
     omega
    have hcl' : ∀ (k : Nat) (o' : Oper), (listed.setIfInBounds i true).getD k false = true → ops[k]? = some o' → ∀ e ∈ o'.after.toList, Region.binds .any e = true → (listed.setIfInBounds i true).getD e.on false = true := by
     intro k o' hk ho' e he hbd
     rw [hgetL] at hk ⊢
     by_cases e1 : e.on = i
     ·rw [if_pos e1]
     ·rw [if_neg e1]
      by_cases e2 : k = i
      ·subst e2
       have : o' = o := by rw [ho] at ho'; simpa using ho'.symm
       subst this
       exact hafter e he hbd
      ·rw [if_neg e2] at hk
       exact hcl k o' hk ho' e he hbd
    have hget' : ∀ t, (e1.put ao.dst (r i)).get t = look aos env r (fun k => (listed.setIfInBounds i true).getD k false) t aos.length := by
     intro t
     have hother : ((aos[i]?).bind (·.dst)) ≠ some t → look aos env r (fun k => (listed.setIfInBounds i true).getD k false) t aos.length = look aos env r (fun k => listed.getD k false) t aos.length := by
      intro hne
      refine look_congr fun k hk hdst => ?_
      rw [hgetL, if_neg]
      rintro rfl; exact hne hdst
     cases hdst : ao.dst with
     | none => rw [hother (by rw [hao]; simp [hdst])]; exact hget t
     | some d =>
      simp only [Env.put, Env.get]
      by_cases e : d = t
      ·subst e
       rw [if_pos rfl]
       rw [look_stop (i := i + 1) (n := aos.length) (by omega)]
       ·simp only [look, hao, Option.bind_some, hdst, hgetL, if_true, Bool.true_and]
        simp
       ·intro k h1 h2 hk
        rw [hgetL, if_neg (by omega)]
        rw [List.getElem?_eq_getElem h2] at hk
        have hp := hpair i k (by omega) (by omega)
        simp only [chkPairX, hao, List.getElem?_eq_getElem h2, Bool.or_eq_true, Bool.and_eq_true] at hp
        rcases hp with hp | ⟨⟨hp, _⟩, _⟩
        ·exact after k hp
        ·simp at hk; rw [hdst] at hp; simp [hk] at hp
      ·rw [if_neg e, hother (by rw [hao]; simp [hdst, e])]; exact hget t
    have fin : ∀ (σ2 : St) (a2 : Act) (w2 : World) (γ2 : List Gh), (σ2.length = σ.length ∧ ∀ a, ∃ m, m ≤ aos.length ∧ σ2[a]? = (T m)[a]? ∧ ∀ j, W j a → ((listed.setIfInBounds i true).getD j false = true ↔ j < m)) →
      Goes base w1 σ1 γ1 w2 σ2 γ2 → Fst tab F base w2 σ2 γ2 (e1.put ao.dst (r i)) a2.tmps → a2.tmps.size = N → a2.defers = a1.defers → wpAny P .any ops Q fuel (listed.setIfInBounds i true) a2 w2 := by
     intro σ2 a2 w2 γ2 hm2 hg2 hf2 hs2 hdf2
     exact ih (listed.setIfInBounds i true) _ σ2 a2 w2 γ2 (by simpa using hls) hcnt' hcl' hget' hm2 (hg.trans hg2) hf2 hs2 (hdf2.trans hdf)
    have hsame : (∀ a, ¬ W i a) → (σ1.length = σ.length ∧ ∀ a, ∃ m, m ≤ aos.length ∧ σ1[a]? = (T m)[a]? ∧ ∀ j, W j a → ((listed.setIfInBounds i true).getD j false = true ↔ j < m)) := by
     intro hnW
     refine ⟨hl1, fun a => ?_⟩
     obtain ⟨m, hm, hp, hw⟩ := hob a
     refine ⟨m, hm, hp, fun j hWj => ?_⟩
     rw [hgetL, if_neg (by rintro rfl; exact hnW a hWj)]
     exact hw j hWj
    have hnW0 : b i = false → ∀ a, ¬ W i a := by
     intro hbi a hWi
     obtain ⟨_, hb, _⟩ := (hW i a).1 hWi
     rw [hbi] at hb; exact absurd hb (by simp)
    have hwp : wpOp P ops Q i (wpAny P .any ops Q fuel (listed.setIfInBounds i true)) a1 w1 := by
     unfold wpOp
     rw [ho]
     simp only []
     rcases hor with ⟨hw, hst'⟩ | ⟨hw, hr0, hT, hb0⟩
     ·cases hbi : b i with
      | true =>
       have haoi : aos[i] = ao := by rw [List.getElem?_eq_getElem hi'] at hao; simpa using hao
       obtain ⟨q, a, hfa⟩ := hfoot i hi' hbi
       have hta := hTa hbi q a hfa
       obtain ⟨o1, o2, o3, o4⟩ := one_foot (hst i hi' hbi) (hmk i hi') hfa (fun _ => rfl)
       obtain ⟨τ', p1, p2, p3, p4⟩ := o4 σ1 (by rw [hl1, hlenT i (by omega)]) hta
       rw [haoi] at p1
       refine oper_ok C hG hN hcO hcG hf hs (.inl ⟨r i, true, by rw [hwant]; exact hw, by rw [hstep]; exact p1, rfl⟩) fun a2 w2 γ2 hg2 hf2 hs2 hdf2 => fin τ' a2 w2 γ2 ⟨by rw [p2, hl1], fun p => ?_⟩ hg2 hf2 hs2 hdf2
       by_cases hpa : p = a
       ·subst hpa
        cases q with
        | true =>
         obtain ⟨m, hm, hp, hw2⟩ := hob p
         refine ⟨m, hm, by rw [p3, o3 rfl, ← hta, hp], fun j hWj => ?_⟩
         rw [hgetL, if_neg ?_]
         ·exact hw2 j hWj
         ·rintro rfl
          obtain ⟨_, _, hff⟩ := (hW j p).1 hWj
          rw [hfa] at hff; simp at hff
        | false =>
         refine ⟨i + 1, by omega, p3, fun j hWj => ?_⟩
         obtain ⟨hj, hbj, hfj⟩ := (hW j p).1 hWj
         rw [hgetL]
         by_cases e : j = i
         ·simp [e]
         ·rw [if_neg e]
          rcases Nat.lt_or_ge j i with hji | hji
          ·have := before j (hconf j i hji hi' hbj hbi false false p hfj hfa (by simp))
           simp [this]; omega
          ·have := after j (hconf i j (by omega) hj hbi hbj false false p hfa hfj (by simp))
           simp [this]; omega
       ·obtain ⟨m, hm, hp, hw2⟩ := hob p
        refine ⟨m, hm, by rw [p4 p hpa, hp], fun j hWj => ?_⟩
        rw [hgetL, if_neg ?_]
        ·exact hw2 j hWj
        ·rintro rfl
         obtain ⟨_, _, hff⟩ := (hW j p).1 hWj
         rw [hfa] at hff; simp at hff; exact hpa hff.2.symm
      | false =>
       rw [hbi] at hst'
       obtain ⟨h1, h2⟩ := stepC_free hst'
       exact oper_ok C hG hN hcO hcG hf hs (.inl ⟨r i, false, by rw [hwant]; exact hw, by rw [hstep]; exact h2 σ1, rfl⟩) fun a2 w2 γ2 hg2 hf2 hs2 hdf2 => fin σ1 a2 w2 γ2 (hsame (hnW0 hbi)) hg2 hf2 hs2 hdf2
     ·exact oper_ok C hG hN hcO hcG hf hs (.inr ⟨by rw [hwant]; exact hw, rfl, rfl⟩) fun a2 w2 γ2 hg2 hf2 hs2 hdf2 => fin σ1 a2 w2 γ2 (hsame (hnW0 hb0)) hg2 (by rw [hr0]; exact hf2) hs2 hdf2
    exact hwp
 refine main ops.size _ env σ a w γ (by simp) ?_ ?_ ?_ ⟨rfl, fun a => ⟨0, by omega, by rw [hT0], fun j hWj => ?_⟩⟩ (Goes.refl w γ S.hb) S hsz rfl
 ·have : ∀ n, cnt (fun k => (Array.replicate ops.size false).getD k false) n ≤ n := by
   intro n
   induction n with
   | zero => exact Nat.le_refl _
   | succ n ih => simp only [cnt]; split <;> omega
  have := this aos.length
  omega
 ·intro i o h
  exfalso
  rw [Array.getD_eq_getD_getElem?] at h
  by_cases hi : i < ops.size <;> simp [hi] at h
 ·intro t
  have : ∀ n, look aos env r (fun k => (Array.replicate ops.size false).getD k false) t n = env.get t := by
   intro n
   induction n with
   | zero => rfl
   | succ n ih =>
    simp only [look]
    have h0 : (Array.replicate ops.size false).getD n false = false := by
     rw [Array.getD_eq_getD_getElem?]
     by_cases hi : n < ops.size <;> simp [hi]
    simp only [h0, Bool.false_and]; simpa using ih
  exact (this _).symm
 ·rw [Array.getD_eq_getD_getElem?]
  by_cases hi : j < ops.size <;> simp [hi]
end
end Go.Den

namespace Go.Den
open Go

section
variable {P : Program} {tab : Nat → Nat}
def chkReg (P : Program) (tab : Nat → Nat) (N : Nat) (ops : Array Oper) (draw : Bool) : ACode → Bool
 | .region aos _ => chkOpers P tab N ops ops.toList aos && (!draw || chkDraw ops.toList aos [])
 | .dregion aos unord _ => draw && chkOpers P tab N ops ops.toList aos && chkDraw ops.toList aos unord
 | .xregion _ aos unord _ => draw && chkOpers P tab N ops ops.toList aos && chkDrawX ops.toList aos unord
 | .freg _ c => chkReg P tab N ops draw c
 | _ => false
def chkCode (P : Program) (tab : Nat → Nat) (N : Nat) : Code → ACode → Bool
 | .skip, .skip => true
 | .label _, .skip => true
 | .region _ ops draw, ac => chkReg P tab N ops draw ac
 | .seq a b, .seq a' b' => chkCode P tab N a a' && chkCode P tab N b b'
 | .cond c a b, .cond c' a' b' => chkOpd tab c c' && chkCode P tab N a a' && chkCode P tab N b b'
 | .block id c, .block id' c' => id == id' && chkCode P tab N c c'
 | .loop c, .loop _ _ c' => chkCode P tab N c c'
 | .exit id, .exit id' => id == id'
 | .scope c, c' => chkCode P tab N c c'
 | .ret, .ret => true
 | _, _ => false
theorem pad_ok {w : World} {F : Nat → Prop} {σ : St} {γ : List Gh} (n : Nat) (I : Inv tab w F σ γ) : ∃ γ', Step σ.length w σ γ w (σ ++ List.replicate n Ob.res) γ' ∧ Inv tab w F (σ ++ List.replicate n Ob.res) γ' := by
 refine ⟨γ ++ List.replicate n ⟨0, 0, 0⟩, ?_⟩
 have q1 : ∀ o, o < σ.length → (σ ++ List.replicate n Ob.res)[o]? = σ[o]? := fun o ho => List.getElem?_append_left ho
 have q2 : ∀ o, o < σ.length → (γ ++ List.replicate n (⟨0, 0, 0⟩ : Gh))[o]? = γ[o]? := fun o ho => List.getElem?_append_left (by rw [I.len]; exact ho)
 have q3 : ∀ o x, σ.length ≤ o → (σ ++ List.replicate n Ob.res)[o]? = some x → x = .res := by
  intro o x ho hx
  rw [List.getElem?_append_right ho, List.getElem?_replicate] at hx
  split at hx
  ·simpa using hx.symm
  ·simp at hx
 have hown : ∀ b, Owned (σ ++ List.replicate n Ob.res) (γ ++ List.replicate n ⟨0, 0, 0⟩) b → Owned σ γ b := by
  rintro b ⟨o, x, g, h1, h2, h3, h4⟩
  rcases Nat.lt_or_ge o σ.length with ho | ho
  ·rw [q1 o ho] at h1; rw [q2 o ho] at h2
   exact ⟨o, x, g, h1, h2, h3, h4⟩
  ·rw [q3 o x ho h1] at h3; simp [owns] at h3
 have st : Step σ.length w σ γ w (σ ++ List.replicate n Ob.res) (γ ++ List.replicate n ⟨0, 0, 0⟩) := by
  refine ⟨rfl, rfl, rfl, Nat.le_refl _, Nat.le_refl _, fun b hb hn => ⟨rfl, fun h => hn (hown b h)⟩, Nat.le_refl _, by simp, fun o x g ho hx hg => ⟨x, g, by rw [q1 o ho]; exact hx, by rw [q2 o ho]; exact hg, ObStep.refl _ _⟩⟩
 refine ⟨st, ⟨by simp [I.len], I.fsz, fun o x g h1 h2 => ?_, fun o x g h1 h2 h3 => ?_, fun o o' x x' g g' h1 h2 h3 h4 h5 h6 h7 => ?_, I.gl.mono fun b hb => st.stab hb⟩⟩
 ·rcases Nat.lt_or_ge o σ.length with ho | ho
  ·rw [q1 o ho] at h1; rw [q2 o ho] at h2
   exact ObOk.step st (I.ok o x g h1 h2) (I.ok o x g h1 h2).under (fun _ => rfl)
  ·rw [q3 o x ho h1]; trivial
 ·rcases Nat.lt_or_ge o σ.length with ho | ho
  ·rw [q1 o ho] at h1; rw [q2 o ho] at h2
   exact I.own o x g h1 h2 h3
  ·rw [q3 o x ho h1] at h3; simp [owns] at h3
 ·rcases Nat.lt_or_ge o σ.length with ho | ho
  ·rcases Nat.lt_or_ge o' σ.length with ho' | ho'
   ·rw [q1 o ho] at h1; rw [q2 o ho] at h2; rw [q1 o' ho'] at h4; rw [q2 o' ho'] at h5
    exact I.inj o o' x x' g g' h1 h2 h3 h4 h5 h6 h7
   ·rw [q3 o' x' ho' h4] at h6; simp [owns] at h6
  ·rw [q3 o x ho h1] at h3; simp [owns] at h3
def Ex.to : Ex → Exit
 | .normal => .normal
 | .exit id => .exit id
 | .ret => .ret
theorem runOps_runD {call : CallF} {base : Nat} : ∀ {aos : List AOper} {k : Nat} {env : Env} {σ : St} {S : List (Nat × Foot)} {e : Env} {s : St}, runOps call base aos env σ = some (e, s) → ∃ T, runD call base aos k env σ S = some (e, s, T)
 | [], k, env, σ, S, e, s, h => by simp [runOps] at h; obtain ⟨rfl, rfl⟩ := h; exact ⟨S, rfl⟩
 | ao :: aos, k, env, σ, S, e, s, h => by
  simp only [runOps] at h
  simp only [runD]
  split at h
  ·rename_i hw
   split at h
   ·rename_i x σ1 t hs
    exact runOps_runD h
   ·exact absurd h (by simp)
  ·exact runOps_runD h
  ·exact absurd h (by simp)
theorem envUnder_get {m : Nat} : ∀ {env : Env}, envUnder m env = true → ∀ t, (env.get t).under m = true
 | [], _, t => rfl
 | (a, v) :: r, h, t => by
  simp only [envUnder, Bool.and_eq_true] at h
  simp only [Env.get]
  split
  ·exact h.1
  ·exact envUnder_get h.2 t
theorem obsUnder_get {m : Nat} : ∀ {l : List Ob}, obsUnder m l = true → ∀ (j : Nat) (x : Ob), l[j]? = some x → x.under m = true
 | [], _, j, x, h => by simp at h
 | y :: r, h, j, x, hx => by
  simp only [obsUnder, Bool.and_eq_true] at h
  cases j with
  | zero => simp at hx; exact hx ▸ h.1
  | succ j => exact obsUnder_get h.2 j x (by simpa using hx)
theorem gc_ok {w : World} {F : Nat → Prop} {base keep : Nat} {live : List Nat} {σ σ1 : St} {γ : List Gh} {env env1 : Env} {tmps : Array Value} (S : Fst tab F base w σ γ env tmps) (h : gc base keep live env σ = some (env1, σ1)) :
  ∃ γ1, Goes base w σ γ w σ1 γ1 ∧ Fst tab F base w σ1 γ1 env1 tmps := by
 unfold gc at h
 simp only [] at h
 split at h
 ·simp at h; obtain ⟨rfl, rfl⟩ := h
  exact ⟨γ, Goes.refl w γ S.hb, S.inv, env_prune S.env live, S.hb, S.frame⟩
 ·split at h
  ·rename_i hlen hu
   simp at h; obtain ⟨rfl, rfl⟩ := h
   simp only [Bool.and_eq_true] at hu
   have hfr : FrameOk (base + keep) σ := by
    intro o x ho hx
    rcases Nat.lt_or_ge o base with hob | hob
    ·exact under_leOb (by omega) (S.frame o x hob hx)
    ·refine obsUnder_get hu.2 (o - base) x ?_
     rw [List.getElem?_drop, List.getElem?_take_of_lt (by omega)]
     rw [show base + (o - base) = o by omega]; exact hx
   obtain ⟨h1, h2, h3⟩ := take_ok S.inv (k := base + keep) (by omega) hfr
   refine ⟨γ.take (base + keep), ⟨h1.mono (by omega), h3 base (by omega)⟩, h2, fun t => ?_, by simp; omega, h3 base (by omega) base (Nat.le_refl _) S.frame⟩
   exact (env_prune S.env live t).step h1 (envUnder_get hu.1 t)
  ·exact absurd h (by simp)
theorem exec_ok {call : CallF} {G : Nat → Option AFunc} (C : CallOk P tab call) (hG : ∀ f args σ r, call f args σ = some r → ∃ F, G f = some F) (hN : Named P tab G) (hm : P.follows .mixedOrders = true) {N n : Nat} {F : Nat → Prop} {base : Nat} :
  ∀ (c : Code) (ac : ACode), chkCode P tab N c ac = true → ∀ {env env' : Env} {σ σ' : St} {e : Ex}, exec call n base ac env σ = some (e, env', σ') → ∀ {a : Act} {w : World} {γ : List Gh}, Fst tab F base w σ γ env a.tmps → a.tmps.size = N →
   ∀ {Q : Exit → Act → World → Prop}, (∀ a' w' γ', Goes base w σ γ w' σ' γ' → Fst tab F base w' σ' γ' env' a'.tmps → a'.tmps.size = N → a'.defers = a.defers → Q e.to a' w') → c.wp P Q a w := by
 intro c
 induction c with
 | skip =>
  intro ac hc env env' σ σ' e h a w γ S hsz Q hQ
  cases ac <;> simp [chkCode] at hc
  simp [exec] at h; obtain ⟨rfl, rfl, rfl⟩ := h
  exact wp_skip (hQ a w γ (Goes.refl w γ S.hb) S hsz rfl)
 | label l =>
  intro ac hc env env' σ σ' e h a w γ S hsz Q hQ
  cases ac <;> simp [chkCode] at hc
  simp [exec] at h; obtain ⟨rfl, rfl, rfl⟩ := h
  exact wp_label (hQ a w γ (Goes.refl w γ S.hb) S hsz rfl)
 | exit id =>
  intro ac hc env env' σ σ' e h a w γ S hsz Q hQ
  cases ac <;> simp [chkCode] at hc
  subst hc
  simp [exec] at h; obtain ⟨rfl, rfl, rfl⟩ := h
  exact wp_exit (hQ a w γ (Goes.refl w γ S.hb) S hsz rfl)
 | ret =>
  intro ac hc env env' σ σ' e h a w γ S hsz Q hQ
  cases ac <;> simp [chkCode] at hc
  simp [exec] at h; obtain ⟨rfl, rfl, rfl⟩ := h
  exact wp_ret (hQ a w γ (Goes.refl w γ S.hb) S hsz rfl)
 | region id ops draw =>
  intro ac
  induction ac <;> intro hc env env' σ σ' e h a w γ S hsz Q hQ <;> simp [chkCode, chkReg] at hc
  case freg t ac' ih =>
   simp only [exec] at h
   split at h
   ·rename_i v hf
    have hl : ∀ o ∈ oslIn (env.get t), ∃ v sz es, σ[o]? = some (.arr v sz es) := fun o ho => frz_arr hf ho
    obtain ⟨k1, k2, k3⟩ := killL_ok S.inv hl
    rw [kill_eq] at h
    have hv := frz_read S.inv hl (S.env t) hf (fun o ho => ho)
    refine ih (by simp only [chkCode]; exact hc) h (a := a) (w := w) (γ := γ) ⟨k2, fun u => ?_, by rw [killL_length]; exact S.hb, k3 base base (Nat.le_refl _) S.frame⟩ hsz fun a' w' γ' g f hs hd => hQ a' w' γ' (Goes.trans ⟨k1.mono S.hb, k3 base⟩ g) f hs hd
    show RS tab w F _ γ (if t = u then v else env.get u) _
    by_cases e : t = u
    ·subst e; rw [if_pos rfl]; exact hv
    ·rw [if_neg e]; exact env_step k1 S.env u
   ·exact absurd h (by simp)
  case region aos live =>
   obtain ⟨h1, h2⟩ := hc
   simp only [exec] at h
   split at h
   ·rename_i e1 s1 hr
    simp at h; obtain ⟨rfl, rfl, rfl⟩ := h
    cases draw with
    | false =>
     refine wp_region ?_
     have := runOps_ok C hG hN (Q := Q) ops.toList aos 0 (by simp) h1 hr S hsz fun a' w' γ' g f hs hd => hQ a' w' γ' g ⟨f.inv, env_prune f.env live, f.hb, f.frame⟩ hs hd
     rw [List.range_eq_range']
     simpa using this
    | true =>
     obtain ⟨T, hT⟩ := runOps_runD (k := 0) (S := []) hr
     refine wp_region_any hm ?_
     have hst := still (w1 := { w with drawn := w.drawn + 1 }) S.inv rfl rfl rfl (Nat.le_refl _) (fun _ _ => rfl)
     have S1 : Fst tab F base { w with drawn := w.drawn + 1 } σ γ env a.tmps := ⟨hst.2, env_step hst.1 S.env, S.hb, S.frame⟩
     exact any_ok C hG hN h1 (by simpa using h2) hT rfl S1 hsz fun a' w' γ' e' he g f hs hd =>
      hQ a' w' γ' ⟨(hst.1.mono S.hb).trans g.step, g.fr⟩ ⟨f.inv, by rw [← prune_congr he]; exact env_prune f.env live, f.hb, f.frame⟩ hs hd
   ·exact absurd h (by simp)
  case dregion aos unord live =>
   obtain ⟨⟨rfl, h1⟩, h2⟩ := hc
   simp only [exec] at h
   split at h
   ·rename_i e1 s1 T hr
    split at h
    ·rename_i hok
     simp at h; obtain ⟨rfl, rfl, rfl⟩ := h
     refine wp_region_any hm ?_
     have hst := still (w1 := { w with drawn := w.drawn + 1 }) S.inv rfl rfl rfl (Nat.le_refl _) (fun _ _ => rfl)
     have S1 : Fst tab F base { w with drawn := w.drawn + 1 } σ γ env a.tmps := ⟨hst.2, env_step hst.1 S.env, S.hb, S.frame⟩
     exact any_ok C hG hN h1 h2 hr hok S1 hsz fun a' w' γ' e' he g f hs hd =>
      hQ a' w' γ' ⟨(hst.1.mono S.hb).trans g.step, g.fr⟩ ⟨f.inv, by rw [← prune_congr he]; exact env_prune f.env live, f.hb, f.frame⟩ hs hd
    ·exact absurd h (by simp)
   ·exact absurd h (by simp)
  case xregion res aos unord live =>
   obtain ⟨⟨rfl, h1⟩, h2⟩ := hc
   simp only [exec] at h
   split at h
   ·rename_i e1 s1 T hr
    split at h
    ·rename_i hok
     simp only [Bool.and_eq_true] at hok
     simp at h; obtain ⟨rfl, rfl, rfl⟩ := h
     refine wp_region_any hm ?_
     have hst := still (w1 := { w with drawn := w.drawn + 1 }) S.inv rfl rfl rfl (Nat.le_refl _) (fun _ _ => rfl)
     obtain ⟨γ2, st2, I2⟩ := pad_ok res hst.2
     have S1 : Fst tab F base { w with drawn := w.drawn + 1 } (σ ++ List.replicate res Ob.res) γ2 env a.tmps := ⟨I2, env_step (hst.1.trans st2) S.env, by simp; have := S.hb; omega, Fr.push S.hb _ base (Nat.le_refl _) S.frame⟩
     exact xany_ok C hG hN h1 h2 hr hok.1 hok.2 S1 hsz fun a' w' γ' e' he g f hs hd =>
      hQ a' w' γ' ⟨((hst.1.trans st2).mono S.hb).trans g.step, (Fr.push S.hb _).trans g.fr⟩ ⟨f.inv, by rw [← prune_congr he]; exact env_prune f.env live, f.hb, f.frame⟩ hs hd
    ·exact absurd h (by simp)
   ·exact absurd h (by simp)
 | seq x y ihx ihy =>
  intro ac hc env env' σ σ' e h a w γ S hsz Q hQ
  cases ac <;> simp [chkCode] at hc
  rename_i x' y'
  simp only [exec] at h
  refine wp_seq ?_
  cases hx : exec call n base x' env σ with
  | none => simp [hx] at h
  | some q =>
   obtain ⟨e1, env1, σ1⟩ := q
   refine ihx x' hc.1 hx S hsz fun a1 w1 γ1 g1 f1 hs1 hd1 => ?_
   rw [hx] at h
   cases e1 with
   | normal => exact ihy y' hc.2 h f1 hs1 fun a2 w2 γ2 g2 f2 hs2 hd2 => hQ a2 w2 γ2 (g1.trans g2) f2 hs2 (hd2.trans hd1)
   | exit i => simp at h; obtain ⟨rfl, rfl, rfl⟩ := h; exact hQ a1 w1 γ1 g1 f1 hs1 hd1
   | ret => simp at h; obtain ⟨rfl, rfl, rfl⟩ := h; exact hQ a1 w1 γ1 g1 f1 hs1 hd1
 | cond c x y ihx ihy =>
  intro ac hc env env' σ σ' e h a w γ S hsz Q hQ
  cases ac <;> simp [chkCode] at hc
  rename_i c' x' y'
  obtain ⟨⟨h1, h2⟩, h3⟩ := hc
  have hcv := opd_ok S.env h1
  simp only [exec] at h
  split at h
  ·rename_i t hev
   rw [hev] at hcv
   refine wp_cond (t := t) (bool_eq hcv) ?_
   cases t with
   | true => exact ihx x' h2 (by simpa using h) S hsz hQ
   | false => exact ihy y' h3 (by simpa using h) S hsz hQ
  ·exact absurd h (by simp)
 | block id c ih =>
  intro ac hc env env' σ σ' e h a w γ S hsz Q hQ
  cases ac <;> simp [chkCode] at hc
  rename_i id' c'
  obtain ⟨rfl, h1⟩ := hc
  simp only [exec] at h
  refine wp_block ?_
  cases hx : exec call n base c' env σ with
  | none => simp [hx] at h
  | some q =>
   obtain ⟨e1, env1, σ1⟩ := q
   refine ih c' h1 hx S hsz fun a1 w1 γ1 g1 f1 hs1 hd1 => ?_
   rw [hx] at h
   cases e1 with
   | normal => simp at h; obtain ⟨rfl, rfl, rfl⟩ := h; exact hQ a1 w1 γ1 g1 f1 hs1 hd1
   | ret => simp at h; obtain ⟨rfl, rfl, rfl⟩ := h; exact hQ a1 w1 γ1 g1 f1 hs1 hd1
   | exit i =>
    simp only [] at h
    split at h
    ·rename_i hi
     simp at h; obtain ⟨rfl, rfl, rfl⟩ := h
     simp only [Ex.to, Exit.inBlock, hi, if_true]
     exact hQ a1 w1 γ1 g1 f1 hs1 hd1
    ·rename_i hi
     simp at h; obtain ⟨rfl, rfl, rfl⟩ := h
     simp only [Ex.to, Exit.inBlock, hi, if_false]
     exact hQ a1 w1 γ1 g1 f1 hs1 hd1
 | loop c ih =>
  intro ac hc env env' σ σ' e h a w γ S hsz Q hQ
  cases ac <;> simp [chkCode] at hc
  rename_i keep live c'
  simp only [exec] at h
  refine wp_loop_ghost (fun k a1 w1 => ∃ env1 σ1 γ1, iter (gc base keep live) (exec call n base c') k env1 σ1 = some (e, env', σ') ∧ Fst tab F base w1 σ1 γ1 env1 a1.tmps ∧ Goes base w σ γ w1 σ1 γ1 ∧ a1.tmps.size = N ∧ a1.defers = a.defers) n
   ⟨env, σ, γ, h, S, Goes.refl w γ S.hb, hsz, rfl⟩ ?_
  rintro k a1 w1 ⟨env1, σ1, γ1, hk, f1, g1, hs1, hd1⟩
  cases k with
  | zero => simp [iter] at hk
  | succ k =>
   simp only [iter] at hk
   split at hk
   ·exact absurd hk (by simp)
   ·rename_i env2 σ2 hgc
    obtain ⟨γ2, g2, f2⟩ := gc_ok f1 hgc
    cases hx : exec call n base c' env2 σ2 with
    | none => simp [hx] at hk
    | some q =>
     obtain ⟨e3, env3, σ3⟩ := q
     refine ih c' hc hx f2 hs1 fun a3 w3 γ3 g3 f3 hs3 hd3 => ?_
     rw [hx] at hk
     cases e3 with
     | normal => exact ⟨k, by omega, env3, σ3, γ3, hk, f3, (g1.trans g2).trans g3, hs3, hd3.trans hd1⟩
     | exit i => simp at hk; obtain ⟨rfl, rfl, rfl⟩ := hk; exact hQ a3 w3 γ3 ((g1.trans g2).trans g3) f3 hs3 (hd3.trans hd1)
     | ret => simp at hk; obtain ⟨rfl, rfl, rfl⟩ := hk; exact hQ a3 w3 γ3 ((g1.trans g2).trans g3) f3 hs3 (hd3.trans hd1)
 | scope c ih =>
  intro ac hc env env' σ σ' e h a w γ S hsz Q hQ
  have hc' : chkCode P tab N c ac = true := by cases ac <;> simpa [chkCode] using hc
  refine wp_scope_straight (ih ac hc' h S hsz fun a' w' γ' g f hs hd => ?_)
  have := hQ a' w' γ' g f hs hd
  cases e <;> exact this
 | rangeFunc => intro ac hc; cases ac <;> simp [chkCode] at hc
 | goto => intro ac hc; cases ac <;> simp [chkCode] at hc
 | refuse => intro ac hc; cases ac <;> simp [chkCode] at hc
end
end Go.Den

namespace Go.Den
open Go

section
variable {P : Program} {tab : Nat → Nat}
theorem keep_one {w : World} {F : Nat → Prop} {base o : Nat} {σ : St} {γ : List Gh} {ver sz : Nat} {es : List (List AV)} {g : Gh} (I : Inv tab w F σ γ) (hb : base ≤ σ.length) (hf : FrameOk base σ) (ho : base ≤ o) (hx : σ[o]? = some (.arr ver sz es)) (hg : γ[o]? = some g) :
  Step base w σ γ w (σ.take base ++ [.arr ver sz es]) (γ.take base ++ [g]) ∧ Inv tab w F (σ.take base ++ [.arr ver sz es]) (γ.take base ++ [g]) ∧ Fr base σ (σ.take base ++ [.arr ver sz es]) := by
 have hl := I.len
 have tl : (σ.take base).length = base := by simp; omega
 have tg : (γ.take base).length = base := by simp; omega
 have get : ∀ (k : Nat) (x : Ob) (g' : Gh), (σ.take base ++ [.arr ver sz es])[k]? = some x → (γ.take base ++ [g])[k]? = some g' → (k < base ∧ σ[k]? = some x ∧ γ[k]? = some g') ∨ (k = base ∧ x = .arr ver sz es ∧ g' = g) := by
  intro k x g' h1 h2
  rcases Nat.lt_or_ge k base with h | h
  ·rw [List.getElem?_append_left (by omega), List.getElem?_take_of_lt h] at h1
   rw [List.getElem?_append_left (by omega), List.getElem?_take_of_lt h] at h2
   exact .inl ⟨h, h1, h2⟩
  ·have hk := lt_of_get h1
   simp [tl] at hk
   have : k = base := by omega
   subst this
   rw [List.getElem?_append_right (by omega), tl] at h1
   rw [List.getElem?_append_right (by omega), tg] at h2
   simp at h1 h2
   exact .inr ⟨rfl, h1.symm, h2.symm⟩
 have idx : ∀ (k : Nat) (x : Ob) (g' : Gh), (σ.take base ++ [.arr ver sz es])[k]? = some x → (γ.take base ++ [g])[k]? = some g' → ∃ j, σ[j]? = some x ∧ γ[j]? = some g' ∧ ((k < base ∧ j = k) ∨ (k = base ∧ j = o)) := by
  intro k x g' h1 h2
  rcases get k x g' h1 h2 with ⟨h, q1, q2⟩ | ⟨h, rfl, rfl⟩
  ·exact ⟨k, q1, q2, .inl ⟨h, rfl⟩⟩
  ·exact ⟨o, hx, hg, .inr ⟨h, rfl⟩⟩
 have hown : ∀ b, Owned (σ.take base ++ [.arr ver sz es]) (γ.take base ++ [g]) b → Owned σ γ b := by
  rintro b ⟨k, x, g', h1, h2, h3, h4⟩
  obtain ⟨j, q1, q2, _⟩ := idx k x g' h1 h2
  exact ⟨j, x, g', q1, q2, h3, h4⟩
 have st : Step base w σ γ w (σ.take base ++ [.arr ver sz es]) (γ.take base ++ [g]) :=
  ⟨rfl, rfl, rfl, Nat.le_refl _, Nat.le_refl _, fun b _ hn => ⟨rfl, fun h => hn (hown b h)⟩, hb, by simp; omega, fun k x g' hk hx' hg' => ⟨x, g', by rw [List.getElem?_append_left (by omega), List.getElem?_take_of_lt hk]; exact hx', by rw [List.getElem?_append_left (by omega), List.getElem?_take_of_lt hk]; exact hg', ObStep.refl x g'⟩⟩
 refine ⟨st, ⟨by simp [hl], I.fsz, fun k x g' h1 h2 => ?_, fun k x g' h1 h2 h3 => ?_, fun k k' x x' g1 g2 h1 h2 h3 h4 h5 h6 h7 => ?_, I.gl.mono fun b hb => st.stab hb⟩, fun b hbb hfb k x hk hxk => ?_⟩
 ·rcases get k x g' h1 h2 with ⟨h, q1, q2⟩ | ⟨h, rfl, rfl⟩
  ·exact (I.ok k x g' q1 q2).step st (hf k x h q1) fun _ => rfl
  ·exact (I.ok o _ _ hx hg).step st rfl fun _ => rfl
 ·obtain ⟨j, q1, q2, _⟩ := idx k x g' h1 h2
  exact I.own j x g' q1 q2 h3
 ·obtain ⟨j, q1, q2, r1⟩ := idx k x g1 h1 h2
  obtain ⟨j', q1', q2', r2⟩ := idx k' x' g2 h4 h5
  have := I.inj j j' x x' g1 g2 q1 q2 h3 q1' q2' h6 h7
  omega
 ·rw [List.getElem?_append_left (by omega), List.getElem?_take_of_lt (by omega)] at hxk
  exact hfb k x hk hxk
theorem frzDs_get {f : AV → Option AV} : ∀ {cs ds : List AV}, frzDs f cs = some ds → ds.length = cs.length ∧ ∀ (j : Nat) (y : AV), ds[j]? = some y → ∃ x, cs[j]? = some x ∧ f x = some y
 | [], ds, h => by simp [frzDs, frzD.frzDs] at h; subst h; exact ⟨rfl, by simp⟩
 | x :: r, ds, h => by
  simp only [frzDs, frzD.frzDs] at h
  split at h
  ·rename_i a b h1 h2
   simp at h; subst h
   obtain ⟨q1, q2⟩ := frzDs_get h2
   refine ⟨by simp [q1], fun j y hy => ?_⟩
   cases j with
   | zero => simp at hy; subst hy; exact ⟨x, rfl, h1⟩
   | succ j => exact q2 j y (by simpa using hy)
  ·exact absurd h (by simp)
theorem frzDp_get {f : AV → Option AV} : ∀ {cs ds : List (AV × AV)}, frzDp f cs = some ds → ds.length = cs.length ∧ ∀ (j : Nat) (y : AV × AV), ds[j]? = some y → ∃ x, cs[j]? = some x ∧ y.1 = x.1 ∧ f x.2 = some y.2
 | [], ds, h => by simp [frzDp, frzD.frzDp] at h; subst h; exact ⟨rfl, by simp⟩
 | x :: r, ds, h => by
  simp only [frzDp, frzD.frzDp] at h
  split at h
  ·rename_i a b h1 h2
   simp at h; subst h
   obtain ⟨q1, q2⟩ := frzDp_get h2
   refine ⟨by simp [q1], fun j y hy => ?_⟩
   cases j with
   | zero => simp at hy; subst hy; exact ⟨x, rfl, rfl, h1⟩
   | succ j => exact q2 j y (by simpa using hy)
  ·exact absurd h (by simp)
theorem frzD_scalar {base : Nat} {σ : St} {n : Nat} {x y : AV} (hs : x.scalar = true) (h : frzD base σ n x = some y) : y.scalar = true := by
 cases n with
 | zero => simp [frzD] at h
 | succ n =>
  cases x with
  | agg | tup | dead => simp [AV.scalar] at hs
  | ref o off =>
   simp only [frzD] at h
   split at h
   ·split at h
    ·obtain ⟨r, _, e⟩ := Option.map_eq_some_iff.1 h
     subst e; rfl
    ·exact absurd h (by simp)
   ·exact absurd h (by simp)
  | mapr o =>
   simp only [frzD] at h
   split at h
   ·split at h
    ·obtain ⟨r, _, e⟩ := Option.map_eq_some_iff.1 h
     subst e; rfl
    ·exact absurd h (by simp)
   ·exact absurd h (by simp)
  | osl o ver n' off len =>
   simp only [frzD] at h
   split at h
   ·obtain ⟨r, _, e⟩ := Option.map_eq_some_iff.1 h
    subst e; rfl
   ·exact absurd h (by simp)
  | fn f caps =>
   simp only [frzD] at h
   obtain ⟨r, _, e⟩ := Option.map_eq_some_iff.1 h
   subst e; rfl
  | nils => simp [frzD] at h; subst h; rfl
  | _ => simp only [frzD] at h; split at h <;> (simp at h; try (subst h; rfl))
theorem take_free {w : World} {F : Nat → Prop} {σ : St} {γ : List Gh} {base o : Nat} {x : Ob} {g : Gh} (I : Inv tab w F σ γ) (ho : base ≤ o) (hx : σ[o]? = some x) (hg : γ[o]? = some g) (hw : owns x g = true) : Stab w F (σ.take base) (γ.take base) g.b := by
 obtain ⟨h1, h2⟩ := I.own o x g hx hg hw
 refine ⟨h1, h2, ?_⟩
 rintro ⟨o', x', g', q1, q2, q3, q4⟩
 have hlt : o' < base := by have := lt_of_get q1; simp at this; omega
 rw [List.getElem?_take_of_lt hlt] at q1 q2
 have := I.inj o o' x x' g g' hx hg hw q1 q2 q3 q4.symm
 omega
theorem frzD_ok {w : World} {F : Nat → Prop} {σ : St} {γ : List Gh} {base : Nat} (I : Inv tab w F σ γ) : ∀ (n : Nat) (x y : AV) (v : Value), RS tab w F σ γ x v → frzD base σ n x = some y → RF tab w (Stab w F (σ.take base) (γ.take base)) y v := by
 have hsub : ∀ b, Stab w F σ γ b → Stab w F (σ.take base) (γ.take base) b := by
  rintro b ⟨h1, h2, h3⟩
  refine ⟨h1, h2, fun ⟨o, x, g, q1, q2, q3, q4⟩ => h3 ?_⟩
  have hlt : o < base := by have := lt_of_get q1; simp at this; omega
  rw [List.getElem?_take_of_lt hlt] at q1 q2
  exact ⟨o, x, g, q1, q2, q3, q4⟩
 have plain : ∀ {x : AV} {v : Value}, RS tab w F σ γ x v → x.noref = true → RF tab w (Stab w F (σ.take base) (γ.take base)) x v := fun h hn => (h.frozen hn).iffS hsub
 intro n
 induction n with
 | zero => intro x y v _ h; simp [frzD] at h
 | succ n ih =>
  intro x y v hx h
  cases x with
  | ref o off =>
   simp only [frzD] at h
   split at h
   case isFalse => exact absurd h (by simp)
   rename_i hb
   split at h
   case h_2 => exact absurd h (by simp)
   rename_i cs hs
   obtain ⟨ds, hds, e⟩ := Option.map_eq_some_iff.1 h
   subst e
   obtain ⟨q1, q2⟩ := frzDs_get hds
   cases hx with
   | fz _ _ h => exact absurd h.noref (by simp [AV.noref])
   | ref _ _ g cs' hs' hg =>
    obtain ⟨vs, ty, e1, e2, e3, e4⟩ := I.ok o _ g hs hg
    have hget : ∀ (j : Nat) (z : AV), ds[j]? = some z → ∃ x u, cs[off + j]? = some x ∧ vs[off + j]? = some u ∧ frzD base σ n x = some z := by
     intro j z hz
     obtain ⟨x, hx, hf⟩ := q2 j z hz
     rw [List.getElem?_drop] at hx
     have := lt_of_get hx
     exact ⟨x, vs[off + j]'(by omega), hx, Array.getElem?_eq_getElem (by omega), hf⟩
    refine .rptr g.b off ds (fun j => (vs[off + j]?).getD undef) (take_free I hb hs hg rfl) (fun j z hz => ?_) (fun j z hz => ?_) (fun j z hz => ?_)
    ·obtain ⟨x, u, _, h2, _⟩ := hget j z hz
     simp [World.cell?, e1, h2]
    ·obtain ⟨x, u, h1, _, h3⟩ := hget j z hz
     exact frzD_scalar (e3 _ x h1) h3
    ·obtain ⟨x, u, h1, h2, h3⟩ := hget j z hz
     rw [h2]
     exact ih x z u (e4 _ x u h1 h2) h3
  | mapr o =>
   simp only [frzD] at h
   split at h
   case isFalse => exact absurd h (by simp)
   rename_i hb
   split at h
   case h_2 => exact absurd h (by simp)
   rename_i es hs
   obtain ⟨ds, hds, e⟩ := Option.map_eq_some_iff.1 h
   subst e
   obtain ⟨q1, q2⟩ := frzDp_get hds
   cases hx with
   | fz _ _ h => exact absurd h.noref (by simp [AV.noref])
   | mapr _ g es' hs' hg =>
    obtain ⟨ms, clock, e1, e2, e3⟩ := I.ok o _ g hs hg
    refine .fmap g.b ds ms clock (take_free I hb hs hg rfl) e1 (by omega) (fun j p m hp hm => ?_) (fun j p m hp hm => ?_)
    ·obtain ⟨x, hx, h1, h2⟩ := q2 j p hp
     rw [h1]
     exact (e3 j x m hx hm).1.iffS hsub
    ·obtain ⟨x, hx, h1, h2⟩ := q2 j p hp
     exact ih x.2 p.2 m.val (e3 j x m hx hm).2 h2
  | osl o ver n' off len =>
   simp only [frzD] at h
   split at h
   case isFalse => exact absurd h (by simp)
   rename_i hb
   have hf : frz σ (.osl o ver n' off len) = some y := h
   have hr := frz_read I (l := oslIn (.osl o ver n' off len)) (fun o ho => frz_arr hf ho) hx hf (fun o ho => ho)
   have hy : y.noref = true := by
    obtain ⟨r, _, e⟩ := Option.map_eq_some_iff.1 h
    subst e; rfl
   refine (hr.frozen hy).iffS ?_
   rintro b ⟨h1, h2, h3⟩
   refine ⟨h1, h2, fun ⟨o', x, g, q1, q2, q3, q4⟩ => h3 ?_⟩
   have hlt : o' < base := by have := lt_of_get q1; simp at this; omega
   rw [List.getElem?_take_of_lt hlt] at q1 q2
   refine ⟨o', x, g, ?_, q2, q3, q4⟩
   rw [killL_get, if_neg (by simp [oslIn]; omega)]
   exact q1
  | fn f caps =>
   simp only [frzD] at h
   obtain ⟨ds, hds, e⟩ := Option.map_eq_some_iff.1 h
   subst e
   obtain ⟨q1, q2⟩ := frzDs_get hds
   have key : ∀ (vs : List Value), vs.length = caps.length → (∀ (j : Nat) (x : AV), caps[j]? = some x → AV.scalar x = true) → (∀ (j : Nat) (x : AV) (v : Value), caps[j]? = some x → vs[j]? = some v → RS tab w F σ γ x v) → RF tab w (Stab w F (σ.take base) (γ.take base)) (.fn f ds) (.func (.func (tab f)) #[] vs.toArray) := by
    intro vs hl hs hr
    refine .fn f ds vs (by omega) (fun j z hz => ?_) (fun j z v hz hv => ?_)
    ·obtain ⟨x, hx, hf⟩ := q2 j z hz
     exact frzD_scalar (hs j x hx) hf
    ·obtain ⟨x, hx, hf⟩ := q2 j z hz
     exact ih x z v (hr j x v hx hv) hf
   cases hx with
   | fz _ _ h => cases h with
    | fn _ _ vs hl hs hr => exact key vs hl hs fun j x v hx hv => .fz _ _ (hr j x v hx hv)
   | fn _ _ vs hl hs hr => exact key vs hl hs hr
  | agg cs =>
   simp only [frzD] at h
   obtain ⟨ds, hds, e⟩ := Option.map_eq_some_iff.1 h
   subst e
   obtain ⟨q1, q2⟩ := frzDs_get hds
   obtain ⟨vs, rfl, hl, hs, hr⟩ := agg_open hx
   refine .agg ds vs (by omega) (fun j z hz => ?_) (fun j z v hz hv => ?_)
   ·obtain ⟨x, hx, hf⟩ := q2 j z hz
    exact frzD_scalar (hs j x hx) hf
   ·obtain ⟨x, hx, hf⟩ := q2 j z hz
    exact ih x z v (hr j x v hx hv) hf
  | tup cs =>
   simp only [frzD] at h
   obtain ⟨ds, hds, e⟩ := Option.map_eq_some_iff.1 h
   subst e
   obtain ⟨q1, q2⟩ := frzDs_get hds
   have key : ∀ (vs : List Value), vs.length = cs.length → (∀ (j : Nat) (x : AV) (v : Value), cs[j]? = some x → vs[j]? = some v → RS tab w F σ γ x v) → RF tab w (Stab w F (σ.take base) (γ.take base)) (.tup ds) (.tuple vs.toArray) := by
    intro vs hl hr
    refine .tup ds vs (by omega) (fun j z v hz hv => ?_)
    obtain ⟨x, hx, hf⟩ := q2 j z hz
    exact ih x z v (hr j x v hx hv) hf
   cases hx with
   | fz _ _ h => cases h with
    | tup _ vs hl hr => exact key vs hl fun j x v hx hv => .fz _ _ (hr j x v hx hv)
   | tup _ vs hl hr => exact key vs hl hr
  | nils =>
   simp [frzD] at h; subst h
   obtain ⟨a, rfl⟩ := nils_open hx
   exact .sl0 a 0
  | _ =>
   simp only [frzD] at h
   split at h
   ·rename_i hn
    simp at h; subst h
    exact plain hx hn
   ·exact absurd h (by simp)
theorem arrs_get {σ : St} {γ : List Gh} (hl : γ.length = σ.length) : ∀ {os : List Nat} {obs : St}, arrsOf σ os = some obs → ∃ gs : List Gh, obs.length = os.length ∧ gs.length = os.length ∧
  ∀ (k o : Nat), os[k]? = some o → ∃ v sz es g, σ[o]? = some (.arr v sz es) ∧ obs[k]? = some (.arr v sz es) ∧ γ[o]? = some g ∧ gs[k]? = some g
 | [], obs, h => by simp [arrsOf] at h; subst h; exact ⟨[], rfl, rfl, by simp⟩
 | o :: r, obs, h => by
  simp only [arrsOf] at h
  split at h
  ·rename_i v sz es l h1 h2
   simp at h; subst h
   obtain ⟨gs, q1, q2, q3⟩ := arrs_get hl h2
   have ho : o < γ.length := by have := lt_of_get h1; omega
   refine ⟨γ[o] :: gs, by simp [q1], by simp [q2], fun k o' hk => ?_⟩
   cases k with
   | zero => simp at hk; subst hk; exact ⟨v, sz, es, γ[o], h1, rfl, List.getElem?_eq_getElem ho, rfl⟩
   | succ k => exact q3 k o' (by simpa using hk)
  ·exact absurd h (by simp)
theorem keep_many {w : World} {F : Nat → Prop} {base : Nat} {σ : St} {γ : List Gh} {os : List Nat} {obs : St} {gs : List Gh} (I : Inv tab w F σ γ) (hb : base ≤ σ.length) (hf : FrameOk base σ) (ho : ∀ o ∈ os, base ≤ o) (hn : os.Nodup) (h1 : obs.length = os.length) (h2 : gs.length = os.length)
  (h3 : ∀ (k o : Nat), os[k]? = some o → ∃ v sz es g, σ[o]? = some (.arr v sz es) ∧ obs[k]? = some (.arr v sz es) ∧ γ[o]? = some g ∧ gs[k]? = some g) :
  Step base w σ γ w (σ.take base ++ obs) (γ.take base ++ gs) ∧ Inv tab w F (σ.take base ++ obs) (γ.take base ++ gs) ∧ Fr base σ (σ.take base ++ obs) := by
 have hl := I.len
 have tl : (σ.take base).length = base := by simp; omega
 have tg : (γ.take base).length = base := by simp; omega
 have idx : ∀ (k : Nat) (x : Ob) (g' : Gh), (σ.take base ++ obs)[k]? = some x → (γ.take base ++ gs)[k]? = some g' → ∃ j, σ[j]? = some x ∧ γ[j]? = some g' ∧ ((k < base ∧ j = k) ∨ (base ≤ k ∧ os[k - base]? = some j ∧ ∃ v sz es, x = .arr v sz es)) := by
  intro k x g' q1 q2
  rcases Nat.lt_or_ge k base with h | h
  ·rw [List.getElem?_append_left (by omega), List.getElem?_take_of_lt h] at q1
   rw [List.getElem?_append_left (by omega), List.getElem?_take_of_lt h] at q2
   exact ⟨k, q1, q2, .inl ⟨h, rfl⟩⟩
  ·rw [List.getElem?_append_right (by omega), tl] at q1
   rw [List.getElem?_append_right (by omega), tg] at q2
   have hk : k - base < os.length := by have := lt_of_get q1; omega
   have hk' := List.getElem?_eq_getElem hk
   obtain ⟨v, sz, es, g, p1, p2, p3, p4⟩ := h3 _ _ hk'
   rw [q1] at p2; rw [q2] at p4
   cases p2; cases p4
   exact ⟨_, p1, p3, .inr ⟨h, hk', v, sz, es, rfl⟩⟩
 have hown : ∀ b, Owned (σ.take base ++ obs) (γ.take base ++ gs) b → Owned σ γ b := by
  rintro b ⟨k, x, g', p1, p2, p3, p4⟩
  obtain ⟨j, q1, q2, _⟩ := idx k x g' p1 p2
  exact ⟨j, x, g', q1, q2, p3, p4⟩
 have st : Step base w σ γ w (σ.take base ++ obs) (γ.take base ++ gs) :=
  ⟨rfl, rfl, rfl, Nat.le_refl _, Nat.le_refl _, fun b _ hn => ⟨rfl, fun h => hn (hown b h)⟩, hb, by simp; omega, fun k x g' hk hx' hg' => ⟨x, g', by rw [List.getElem?_append_left (by omega), List.getElem?_take_of_lt hk]; exact hx', by rw [List.getElem?_append_left (by omega), List.getElem?_take_of_lt hk]; exact hg', ObStep.refl x g'⟩⟩
 refine ⟨st, ⟨by simp [hl, h1, h2], I.fsz, fun k x g' p1 p2 => ?_, fun k x g' p1 p2 p3 => ?_, fun k k' x x' g1 g2 p1 p2 p3 p4 p5 p6 p7 => ?_, I.gl.mono fun b hb => st.stab hb⟩, fun b hbb hfb k x hk hxk => ?_⟩
 ·obtain ⟨j, q1, q2, ⟨h, rfl⟩ | ⟨h, _, v, sz, es, rfl⟩⟩ := idx k x g' p1 p2
  ·exact (I.ok _ x g' q1 q2).step st (hf _ x h q1) fun _ => rfl
  ·exact (I.ok j _ _ q1 q2).step st rfl fun _ => rfl
 ·obtain ⟨j, q1, q2, _⟩ := idx k x g' p1 p2
  exact I.own j x g' q1 q2 p3
 ·obtain ⟨j, q1, q2, r1⟩ := idx k x g1 p1 p2
  obtain ⟨j', q1', q2', r2⟩ := idx k' x' g2 p4 p5
  have e := I.inj j j' x x' g1 g2 q1 q2 p3 q1' q2' p6 p7
  rcases r1 with ⟨a1, a2⟩ | ⟨a1, a2, _⟩ <;> rcases r2 with ⟨b1, b2⟩ | ⟨b1, b2, _⟩
  ·omega
  ·have := ho j' (List.mem_of_getElem? b2); omega
  ·have := ho j (List.mem_of_getElem? a2); omega
  ·subst e
   have := (List.getElem?_inj (lt_of_get a2) hn).1 (a2.trans b2.symm)
   omega
 ·rw [List.getElem?_append_left (by omega), List.getElem?_take_of_lt (by omega)] at hxk
  exact hfb k x hk hxk
theorem renD_scalar {base : Nat} {os : List Nat} {n : Nat} {x y : AV} (hs : x.scalar = true) (h : renD base os n x = some y) : y.scalar = true := by
 cases n with
 | zero => simp [renD] at h
 | succ n =>
  cases x with
  | agg | tup | dead => simp [AV.scalar] at hs
  | osl o ver m off len =>
   simp only [renD] at h
   split at h
   ·cases h; rfl
   ·obtain ⟨k, _, e⟩ := Option.map_eq_some_iff.1 h
    subst e; rfl
  | _ =>
   simp only [renD] at h
   split at h
   ·cases h; exact hs
   ·exact absurd h (by simp)
theorem renD_ok {w : World} {F : Nat → Prop} {base : Nat} {σ σ' : St} {γ γ' : List Gh} {os : List Nat} (st : Step base w σ γ w σ' γ')
  (hk : ∀ (k o : Nat), os[k]? = some o → ∃ y g, σ[o]? = some y ∧ γ[o]? = some g ∧ σ'[base + k]? = some y ∧ γ'[base + k]? = some g) :
  ∀ (n : Nat) (x y : AV) (v : Value), RS tab w F σ γ x v → renD base os n x = some y → RS tab w F σ' γ' y v := by
 intro n
 induction n with
 | zero => intro x y v _ h; simp [renD] at h
 | succ n ih =>
  intro x y v hx h
  cases x with
  | osl o ver m off len =>
   simp only [renD] at h
   split at h
   ·rename_i ho
    cases h
    exact hx.step st (by simpa [AV.under] using ho)
   ·obtain ⟨k, hk', e⟩ := Option.map_eq_some_iff.1 h
    subst e
    have hko : os[k]? = some o := by
     obtain ⟨h1, h2⟩ := List.findIdx?_eq_some_iff_getElem.1 hk'
     rw [List.getElem?_eq_getElem h1]
     have := h2.1
     simp at this
     rw [this]
    obtain ⟨y', g, k1, k2, k3, k4⟩ := hk k o hko
    cases hx with
    | fz _ _ h => exact absurd h.noref (by simp [AV.noref])
    | osl _ _ _ _ _ _ hv h =>
     obtain ⟨y, g', h1, hg, h3⟩ := h
     rw [k1] at h1; rw [k2] at hg
     cases h1; cases hg
     exact .osl _ _ _ _ _ _ hv ⟨_, g, k3, k4, h3⟩
  | agg cs =>
   simp only [renD] at h
   obtain ⟨ds, hds, e⟩ := Option.map_eq_some_iff.1 h
   subst e
   obtain ⟨q1, q2⟩ := frzDs_get hds
   obtain ⟨vs, rfl, hl, hs, hr⟩ := agg_open hx
   refine .agg ds vs (by omega) (fun j z hz => ?_) (fun j z v hz hv => ?_)
   ·obtain ⟨x, hx, hf⟩ := q2 j z hz
    exact renD_scalar (hs j x hx) hf
   ·obtain ⟨x, hx, hf⟩ := q2 j z hz
    exact ih x z v (hr j x v hx hv) hf
  | tup cs =>
   simp only [renD] at h
   obtain ⟨ds, hds, e⟩ := Option.map_eq_some_iff.1 h
   subst e
   obtain ⟨q1, q2⟩ := frzDs_get hds
   have key : ∀ (vs : List Value), vs.length = cs.length → (∀ (j : Nat) (x : AV) (v : Value), cs[j]? = some x → vs[j]? = some v → RS tab w F σ γ x v) → RS tab w F σ' γ' (.tup ds) (.tuple vs.toArray) := by
    intro vs hl hr
    refine .tup ds vs (by omega) (fun j z v hz hv => ?_)
    obtain ⟨x, hx, hf⟩ := q2 j z hz
    exact ih x z v (hr j x v hx hv) hf
   cases hx with
   | fz _ _ h => cases h with
    | tup _ vs hl hr => exact key vs hl fun j x v hx hv => .fz _ _ (hr j x v hx hv)
   | tup _ vs hl hr => exact key vs hl hr
  | _ =>
   simp only [renD] at h
   split at h
   ·rename_i hn
    cases h
    exact hx.step st (noref_under _ hn)
   ·exact absurd h (by simp)
theorem fin_ok {w : World} {F : Nat → Prop} {base : Nat} {σ σr : St} {γ : List Gh} {own : OwnK} {x r : AV} {v : Value} (I : Inv tab w F σ γ) (hb : base ≤ σ.length) (hf : FrameOk base σ) (hx : RS tab w F σ γ x v) (h : fin own base x σ = some (r, σr)) :
  ∃ γr, Step base w σ γ w σr γr ∧ Inv tab w F σr γr ∧ RS tab w F σr γr r v ∧ Fr base σ σr := by
 have takeR : ∀ (σ : St) (γ : List Gh) (y : AV), Inv tab w F σ γ → base ≤ σ.length → FrameOk base σ → RS tab w F σ γ y v → y.under base = true → ∃ γr, Step base w σ γ w (σ.take base) γr ∧ Inv tab w F (σ.take base) γr ∧ RS tab w F (σ.take base) γr y v ∧ Fr base σ (σ.take base) := by
  intro σ γ y I hb hf hx hu
  obtain ⟨h1, h2, h3⟩ := take_ok I hb hf
  exact ⟨_, h1, h2, hx.step h1 hu, h3 base (Nat.le_refl _)⟩
 unfold fin at h
 split at h
 iterate 2
  ·split at h
   ·rename_i o ver n off len
    split at h
    ·rename_i ho
     simp at h; obtain ⟨rfl, rfl⟩ := h
     exact takeR σ γ _ I hb hf hx (by simpa [AV.under] using ho)
    ·rename_i ho
     split at h
     ·rename_i v' sz es hobj
      simp at h; obtain ⟨rfl, rfl⟩ := h
      cases hx with
      | fz _ _ h => exact absurd h.noref (by simp [AV.noref])
      | osl _ _ _ _ _ _ hv h =>
       obtain ⟨y, g, h1, hg, h3⟩ := h
       rw [hobj] at h1; simp at h1; subst h1
       obtain ⟨q1, q2, q3⟩ := keep_one I hb hf (by omega) hobj hg
       have tl : (σ.take base).length = base := by simp; omega
       have tg : (γ.take base).length = base := by have := I.len; simp; omega
       exact ⟨_, q1, q2, .osl _ _ _ _ _ _ hv ⟨_, g, by rw [List.getElem?_append_right (by omega), tl]; simp; rfl, by rw [List.getElem?_append_right (by omega), tg]; simp, h3⟩, q3⟩
     ·exact absurd h (by simp)
   ·split at h
    ·rename_i hn
     simp at h; obtain ⟨rfl, rfl⟩ := h
     exact takeR σ γ _ I hb hf hx (noref_under _ hn)
    ·exact absurd h (by simp)
 ·split at h
  ·rename_i v' hfz
   have hl : ∀ o ∈ oslIn x, ∃ v sz es, σ[o]? = some (.arr v sz es) := fun o ho => frz_arr hfz ho
   obtain ⟨k1, k2, k3⟩ := killL_ok I hl
   have hr := frz_read I hl hx hfz (fun o ho => ho)
   rw [← kill_eq] at k1 k2 k3 hr
   split at h
   ·rename_i hn
    simp at h; obtain ⟨rfl, rfl⟩ := h
    obtain ⟨γr, q1, q2, q3, q4⟩ := takeR (kill σ x) γ v' k2 (Nat.le_trans hb k1.l2) (k3 base base (Nat.le_refl _) hf) hr (noref_under _ hn)
    exact ⟨γr, (k1.mono hb).trans q1, q2, q3, (k3 base).trans q4⟩
   ·simp at h; obtain ⟨rfl, rfl⟩ := h
    exact ⟨γ, k1.mono hb, k2, hr, k3 base⟩
  ·exact absurd h (by simp)
 ·split at h
  ·rename_i v' hfz
   split at h
   ·simp at h; obtain ⟨rfl, rfl⟩ := h
    obtain ⟨h1, h2, h3⟩ := take_ok I hb hf
    exact ⟨_, h1, h2, .fz _ _ (frzD_ok I 8 x v' v hx hfz), h3 base (Nat.le_refl _)⟩
   ·exact absurd h (by simp)
  ·exact absurd h (by simp)
 ·unfold keepO at h
  split at h
  ·rename_i hn
   split at h
   ·rename_i obs v' ha hr
    simp at h; obtain ⟨rfl, rfl⟩ := h
    have ho : ∀ o ∈ (oslIn x).filter (fun o => decide (base ≤ o)), base ≤ o := fun o h => by simpa using (List.mem_filter.1 h).2
    obtain ⟨gs, g1, g2, g3⟩ := arrs_get I.len ha
    obtain ⟨q1, q2, q3⟩ := keep_many I hb hf ho hn g1 g2 g3
    have tl : (σ.take base).length = base := by simp; omega
    have tg : (γ.take base).length = base := by have := I.len; simp; omega
    refine ⟨_, q1, q2, renD_ok q1 (fun k o hk => ?_) 4 x v' v hx hr, q3⟩
    obtain ⟨v1, sz, es, g, p1, p2, p3, p4⟩ := g3 k o hk
    exact ⟨_, g, p1, p3, by rw [List.getElem?_append_right (by omega), tl, Nat.add_sub_cancel_left]; exact p2, by rw [List.getElem?_append_right (by omega), tg, Nat.add_sub_cancel_left]; exact p4⟩
   ·exact absurd h (by simp)
  ·exact absurd h (by simp)
def chkRess (P : Program) : List ResultVar → List ARes → Bool
 | [], [] => true
 | .tmp t :: r, .t t' :: s => t == t' && chkRess P r s
 | .cell t ty :: r, .cell t' ag sz :: s => t == t' && aggB P ty ag && szB P ty sz && chkRess P r s
 | _, _ => false
def readRes (tmps : Array Value) : ResultVar → Sem Value
 | .tmp t => pure (tmps.getD t undef)
 | .cell a t => do loadVar t (← asAddr (tmps.getD a undef))
theorem results_eq (fn : Func) (tmps : Array Value) : results fn tmps = (do
   let vs ← fn.results.mapM (readRes tmps)
   pure (if h : vs.size = 1 then vs[0] else .tuple vs)) := rfl
theorem res_ok {w : World} {F : Nat → Prop} {σ : St} {γ : List Gh} {env : Env} {tmps : Array Value} (I : Inv tab w F σ γ) (E : EnvOk tab w F σ γ env tmps) : ∀ {rs : List ResultVar} {as : List ARes} {xs : List AV}, chkRess P rs as = true → resVals env σ as = some xs →
  ∃ us : List Value, (rs.mapM (readRes tmps)).run P w = .ok us w ∧ ArgsOk tab w F σ γ xs us
 | [], [], xs, _, h => by simp [resVals] at h; subst h; exact ⟨[], by simp, rfl, by simp⟩
 | [], _ :: _, _, h, _ => by simp [chkRess] at h
 | .tmp _ :: _, [], _, h, _ => by simp [chkRess] at h
 | .cell .. :: _, [], _, h, _ => by simp [chkRess] at h
 | .tmp _ :: _, .cell .. :: _, _, h, _ => by simp [chkRess] at h
 | .cell .. :: _, .t _ :: _, _, h, _ => by simp [chkRess] at h
 | .tmp t :: rs, .t t' :: as, xs, hc, h => by
  simp only [chkRess, Bool.and_eq_true, beq_iff_eq] at hc
  obtain ⟨rfl, hc⟩ := hc
  simp only [resVals] at h
  obtain ⟨ys, hy, e⟩ := Option.map_eq_some_iff.1 h
  subst e
  obtain ⟨us, h1, h2, h3⟩ := res_ok I E hc hy
  refine ⟨tmps.getD t undef :: us, by simp only [List.mapM_cons, readRes, Sem.run_bind, Sem.run_pure, Result.andThen_ok, h1], by simp [h2], fun j x v hx hv => ?_⟩
  cases j with
  | zero => simp at hx hv; subst hx; subst hv; have := E t; simpa using this
  | succ j => exact h3 j x v (by simpa using hx) (by simpa using hv)
 | .cell t ty :: rs, .cell t' ag sz :: as, xs, hc, h => by
  simp only [chkRess, Bool.and_eq_true, beq_iff_eq] at hc
  obtain ⟨⟨⟨rfl, ha⟩, hz⟩, hc⟩ := hc
  simp only [resVals] at h
  split at h
  ·rename_i cs tt ys hd hy
   obtain ⟨x, hx, e⟩ := Option.map_eq_some_iff.1 h
   subst e
   obtain ⟨us, h1, h2, h3⟩ := res_ok I E hc hy
   obtain ⟨b, off, hv, hcell⟩ := deref_ok I (E t) hd
   obtain ⟨u, hu, hr⟩ := run_loadVar_front ha hz hcell hx
   refine ⟨u :: us, by simp only [List.mapM_cons, readRes, Sem.run_bind, hv, asAddr, Sem.run_pure, Result.andThen_ok, hu, h1], by simp [h2], fun j x' v hx' hv' => ?_⟩
   cases j with
   | zero => simp at hx' hv'; subst hx'; subst hv'; exact hr
   | succ j => exact h3 j x' v (by simpa using hx') (by simpa using hv')
  ·exact absurd h (by simp)
def chkFunc (P : Program) (tab : Nat → Nat) (f : FuncId) (F : AFunc) : Bool := match P.funcs[f]? with
 | some fn => (match fn.body with
  | some c => chkCode P tab fn.ntmps c F.body
  | none => false) && chkRess P fn.results.toList F.results && decide (F.nparams ≤ fn.ntmps) && fn.name != "runtime.NumGoroutine"
 | none => false
def ExtOk (P : Program) (tab : Nat → Nat) (f : FuncId) (x : XName) : Prop := ∀ args r, xsem x args = some r → ∀ (w : World) (F : Nat → Prop) (σ : St) (γ : List Gh) (vals : List Value), Inv tab w F σ γ → ArgsOk tab w F σ γ args vals →
  Calls P f vals.toArray w (CallPost tab F w σ γ r σ)
theorem gl_vals {w : World} {S : Nat → Prop} (h : GOk tab w S) {g : Nat} {gs : List GC} (hg : globs g = some gs) : ∃ ty fr, w.heap[g]? = some (.cells (gs.map GC.val).toArray ty fr) := by
 obtain ⟨h1, _, vs, ty, fr, h3, h4⟩ := (h g).1 gs hg
 refine ⟨ty, fr, ?_⟩
 rw [h3]
 have e : vs = (gs.map GC.val).toArray := by
  apply Array.ext_getElem?
  intro j
  rcases Nat.lt_or_ge j gs.length with hj | hj
  ·cases h1 with
   | rptr b off cs us hb hc hs hr =>
    have hx : (gs.map GC.av)[j]? = some (gs[j].av) := by simp [hj]
    have hc := hc j _ hx
    have hr := hr j _ hx
    simp only [World.cell?, h3, Nat.zero_add] at hc
    have hv : vs[j]? = some (us j) := hc
    rw [hv]
    clear hv hc
    generalize us j = uv at hr ⊢
    have : uv = gs[j].val := by
     cases hgj : gs[j] with
     | i k n => rw [hgj] at hr; cases hr; rfl
     | b v => rw [hgj] at hr; cases hr; rfl
     | s v => rw [hgj] at hr; cases hr; rfl
    simp [hj, this]
  ·rw [Array.getElem?_eq_none (by omega), Array.getElem?_eq_none (by simpa using hj)]
 rw [e]
theorem rf_tup2 {w : World} {S : Nat → Prop} {x y : AV} {u v : Value} (hx : RF tab w S x u) (hy : RF tab w S y v) : RF tab w S (.tup [x, y]) (.tuple #[u, v]) := by
 refine .tup [x, y] [u, v] rfl fun j a b ha hb => ?_
 match j with
 | 0 => simp at ha hb; subst ha; subst hb; exact hx
 | 1 => simp at ha hb; subst ha; subst hb; exact hy
 | j + 2 => simp at ha
theorem rf_err {w w' : World} {F : Nat → Prop} {σ : St} {γ : List Gh} (I : Inv tab w F σ γ) {t N : Nat} {o : Obj} (h1 : w.heap.size ≤ N) (h2 : w'.heap[N]? = some o) : RF tab w' (Stab w' F σ γ) (.iface t (.rptr [])) (.iface t (.pointer (some ⟨N, 0, none⟩))) := by
 refine .iface t _ _ (.rptr N 0 [] (fun _ => undef) ⟨(Array.getElem?_eq_some_iff.1 h2).1, fun hF => ?_, ?_⟩ (by simp) (by simp) (by simp))
 ·have := I.fsz N hF; omega
 ·rintro ⟨o', x, g, q1, q2, q3, q4⟩
  have := (I.own o' x g q1 q2 q3).1
  omega
theorem ext_below {w w' : World} {F : Nat → Prop} {σ : St} {γ : List Gh} {r : AV} {v : Value} {e : Ending} (I : Inv tab w F σ γ) (hB : RowKit.Below w.heap.size w w') (hd : w.drawn ≤ w'.drawn) (he : e = .returned v) (hr : Inv tab w' F σ γ → Step σ.length w σ γ w' σ γ → RF tab w' (Stab w' F σ γ) r v) : CallPost tab F w σ γ r σ e w' := by
 obtain ⟨st, I'⟩ := still I hB.os hB.tape hB.output hB.size hB.block hd
 exact ⟨v, γ, he, st, I', .fz _ _ (hr I' st), Fr.refl _ _⟩
def XOk (P : Program) (tab : Nat → Nat) (f : FuncId) (x : XName) : Prop := ∀ args r σ σ', xrun x args σ = some (r, σ') → ∀ (w : World) (F : Nat → Prop) (γ : List Gh) (vals : List Value), Inv tab w F σ γ → ArgsOk tab w F σ γ args vals →
  Calls P f vals.toArray w (CallPost tab F w σ γ r σ')
theorem ExtOk.x {P : Program} {tab : Nat → Nat} {f : FuncId} {x : XName} (h : ExtOk P tab f x) (hx : ∀ c, x ≠ .sort c := by intro c; simp) : XOk P tab f x := by
 intro args r σ σ' hr w F γ vals I A
 unfold xrun at hr
 split at hr
 ·exact absurd rfl (hx _)
 ·obtain ⟨r', h1, h2⟩ := Option.map_eq_some_iff.1 hr
  simp at h2; obtain ⟨rfl, rfl⟩ := h2
  exact h args r' h1 w F _ γ vals I A
structure Link (P : Program) (tab : Nat → Nat) (G : Nat → Option AFunc) : Prop where
 mixed : P.follows .mixedOrders = true
 funcs : ∀ f F, G f = some F → F.ex = none → chkFunc P tab (tab f) F = true
 exts : ∀ f F x, G f = some F → F.ex = some x → nameB P (tab f) = true ∧ XOk P tab (tab f) x
theorem Link.named {G : Nat → Option AFunc} (L : Link P tab G) : Named P tab G := by
 intro f F hF
 cases hx : F.ex with
 | some x => exact (L.exts f F x hF hx).1
 | none =>
 have := L.funcs f F hF hx
 unfold chkFunc at this
 unfold nameB
 split at this
 ·rename_i fn hfn
  try rw [hfn]
  simp only [Bool.and_eq_true] at this ⊢
  obtain ⟨⟨⟨h1, _⟩, _⟩, h4⟩ := this
  refine ⟨h4, ?_⟩
  cases hb : fn.body with
  | none => simp [hb] at h1
  | some c => rfl
 ·exact absurd this (by simp)
theorem initEnv_get : ∀ (args : List AV) (k t : Nat), (initEnv k args).get t = if k ≤ t then (args[t - k]?).getD .dead else .dead
 | [], k, t => by simp [initEnv, Env.get]
 | x :: r, k, t => by
  simp only [initEnv, Env.get]
  by_cases e : k = t
  ·subst e; simp
  ·rw [if_neg e, initEnv_get r (k + 1) t]
   by_cases h : k ≤ t
   ·rw [if_pos (by omega), if_pos h]
    have : t - k = (t - (k + 1)) + 1 := by omega
    rw [this]; simp
   ·rw [if_neg (by omega), if_neg h]
theorem alike_eq : ∀ {x y : AV}, x.alike y = true → x = y := by
 intro x y h
 unfold AV.alike at h
 split at h
 ·simp only [Bool.and_eq_true, beq_iff_eq] at h
  obtain ⟨⟨⟨⟨rfl, rfl⟩, rfl⟩, rfl⟩, rfl⟩ := h
  rfl
 ·rfl
 ·rfl
 ·exact absurd h (by simp)
theorem alikes_eq : ∀ {x y : St}, alikes x y = true → x = y
 | [], [], _ => rfl
 | .arr v sz [] :: r, .arr v' sz' [] :: r', h => by
  simp only [alikes, Bool.and_eq_true, beq_iff_eq] at h
  obtain ⟨⟨rfl, rfl⟩, h⟩ := h
  rw [alikes_eq h]
 | [], _ :: _, h => by simp [alikes] at h
 | .cells _ :: _, _, h | .map _ :: _, _, h | .dead :: _, _, h | .res :: _, _, h | .arr _ _ (_ :: _) :: _, _, h => by simp [alikes] at h
 | .arr _ _ [] :: _, [], h | .arr _ _ [] :: _, .cells _ :: _, h | .arr _ _ [] :: _, .map _ :: _, h | .arr _ _ [] :: _, .dead :: _, h | .arr _ _ [] :: _, .res :: _, h | .arr _ _ [] :: _, .arr _ _ (_ :: _) :: _, h => by simp [alikes] at h
theorem denN_ok {G : Nat → Option AFunc} (L : Link P tab G) : ∀ n, CallOk P tab (denN G n) := by
 intro n
 induction n with
 | zero => intro f args σ r σ' h; simp [denN] at h
 | succ n ih =>
  intro f args σ r σ' h w F γ vals I A
  have hG : ∀ f args σ r, denN G n f args σ = some r → ∃ F, G f = some F := by
   intro f args σ r h
   cases n with
   | zero => simp [denN] at h
   | succ n =>
    simp only [denN] at h
    cases hg : G f with
    | none => simp [hg] at h
    | some F => exact ⟨F, rfl⟩
  simp only [denN] at h
  cases hg : G f with
  | none => simp [hg] at h
  | some FF =>
   simp only [hg] at h
   split at h
   ·rename_i hlen
    cases hx : FF.ex with
    | some x =>
     simp only [hx] at h
     exact (L.exts f FF x hg hx).2 args _ _ _ h w F γ vals I A
    | none =>
    simp only [hx] at h
    have one : ∀ (args : List AV) (r : AV) (σ' : St), args.length = FF.nparams → ArgsOk tab w F σ γ args vals → leave FF σ.length (exec (denN G n) n σ.length FF.body (initEnv 0 args) σ) = some (r, σ') → Calls P (tab f) vals.toArray w (CallPost tab F w σ γ r σ') := by
     intro args r σ' hlen A h
     have hcf := L.funcs f FF hg hx
     unfold chkFunc at hcf
     split at hcf
     ·rename_i fn hfn
      simp only [Bool.and_eq_true, decide_eq_true_eq] at hcf
      obtain ⟨⟨⟨hbody, hres⟩, hnp⟩, _⟩ := hcf
      cases hb : fn.body with
      | none => simp [hb] at hbody
      | some c =>
       simp only [hb] at hbody
       refine calls_of_wp hfn hb ?_
       have hal : vals.toArray.size = FF.nparams := by simp [A.1, hlen]
       have hsz : (vals.toArray ++ Array.replicate (fn.ntmps - vals.toArray.size) undef).size = fn.ntmps := by simp only [Array.size_append, Array.size_replicate]; omega
       have hframe : FrameOk σ.length σ := by
        intro o x ho hx
        have hgl : o < γ.length := by rw [I.len]; exact ho
        exact (I.ok o x γ[o] hx (List.getElem?_eq_getElem hgl)).under
       have hinit : EnvOk tab w F σ γ (initEnv 0 args) (vals.toArray ++ Array.replicate (fn.ntmps - vals.toArray.size) undef) := by
        intro t
        rw [initEnv_get]
        simp only [Nat.zero_le, if_true, Nat.sub_zero]
        cases hx : args[t]? with
        | none => exact .dead _
        | some x =>
         obtain ⟨v, hv⟩ := get_of_len A.1 hx
         have hlt := lt_of_get hv
         have : (vals.toArray ++ Array.replicate (fn.ntmps - vals.toArray.size) undef).getD t undef = v := by
          rw [Array.getD_eq_getD_getElem?, Array.getElem?_append_left (by simpa using hlt)]
          simp [hv]
         rw [this]
         exact A.2 t x v hx hv
       cases hx : exec (denN G n) n σ.length FF.body (initEnv 0 args) σ with
       | none => simp [hx, leave] at h
       | some q =>
        obtain ⟨e, env', σ1⟩ := q
        refine exec_ok ih hG L.named L.mixed c FF.body hbody hx (a := { tmps := _, defers := [] }) ⟨I, hinit, Nat.le_refl _, hframe⟩ hsz fun a' w' γ' g S' hs' hd' => ?_
        rw [hx] at h
        have key : ∀ (env' : Env) (σ1 : St), (match resVals env' σ1 FF.results with
          | some vs => fin FF.own σ.length (oneOf vs) σ1
          | none => none) = some (r, σ') → Goes σ.length w σ γ w' σ1 γ' → Fst tab F σ.length w' σ1 γ' env' a'.tmps → a'.defers = [] ∧ ∃ v, (results fn a'.tmps).run P w' = .ok v w' ∧ CallPost tab F w σ γ r σ' (.returned v) w' := by
         intro env' σ1 h g S'
         cases hr : resVals env' σ1 FF.results with
         | none => simp [hr] at h
         | some xs =>
          simp only [hr] at h
          obtain ⟨us, hus, hA⟩ := res_ok S'.inv S'.env hres hr
          have hrun : (results fn a'.tmps).run P w' = .ok (if hh : us.toArray.size = 1 then us.toArray[0] else .tuple us.toArray) w' := by
           rw [results_eq, Array.mapM_eq_mapM_toList]
           simp only [Sem.run_bind, Sem.run_map, hus, Result.andThen_ok, Sem.run_pure]
          have hval : RS tab w' F σ1 γ' (oneOf xs) (if hh : us.toArray.size = 1 then us.toArray[0] else .tuple us.toArray) := by
           by_cases h1 : us.length = 1
           ·obtain ⟨u, rfl⟩ := List.length_eq_one_iff.1 h1
            obtain ⟨x, rfl⟩ := List.length_eq_one_iff.1 (hA.1.symm.trans h1)
            simpa [oneOf] using hA.2 0 x u rfl rfl
           ·have e1 : ¬ us.toArray.size = 1 := by simpa using h1
            rw [dif_neg e1]
            have e2 : oneOf xs = .tup xs := by
             cases xs with
             | nil => rfl
             | cons x r =>
              cases r with
              | nil => exact absurd hA.1 (by simpa using h1)
              | cons => rfl
            rw [e2]
            exact .tup xs us hA.1 hA.2
          obtain ⟨γr, q1, q2, q3, q4⟩ := fin_ok S'.inv S'.hb S'.frame hval h
          exact ⟨hd', _, hrun, _, γr, rfl, g.step.trans q1, q2, q3, g.fr.trans q4⟩
        cases e with
        | normal => exact key env' σ1 h g S'
        | ret => exact key env' σ1 h g S'
        | exit i => simp [leave] at h
     ·exact absurd hcf (by simp)
    have two : ∀ (x : AV) (ys : List AV), (x = .sl [] ∨ x = .nils) → args = x :: ys → both (leave FF σ.length (exec (denN G n) n σ.length FF.body (initEnv 0 (.nil0 :: ys)) σ)) (leave FF σ.length (exec (denN G n) n σ.length FF.body (initEnv 0 (.nne :: ys)) σ)) = some (r, σ') → Calls P (tab f) vals.toArray w (CallPost tab F w σ γ r σ') := by
     intro x ys hx ha hb
     subst ha
     obtain ⟨h1, ⟨q, qσ⟩, h2, h3, h4⟩ := both_some hb
     have e1 := alike_eq h3
     have e2 := alikes_eq h4
     simp only [] at e1 e2
     subst e1; subst e2
     obtain ⟨v, hv⟩ : ∃ v, vals[0]? = some v := get_of_len A.1 (j := 0) rfl
     obtain ⟨a, c, rfl⟩ : ∃ a c, v = .slice a 0 c := by
      have h0 := A.2 0 x v rfl hv
      rcases hx with rfl | rfl
      ·cases h0.frozen rfl with
       | sl0 a c => exact ⟨a, c, rfl⟩
       | sl b off sz cap _ vs => exact ⟨_, _, rfl⟩
      ·cases h0.frozen rfl; exact ⟨_, _, rfl⟩
     have go : ∀ x', RF tab w (Stab w F σ γ) x' (.slice a 0 c) → ArgsOk tab w F σ γ (x' :: ys) vals := by
      intro x' hr
      refine ⟨by simpa using A.1, fun j y u hy hu => ?_⟩
      cases j with
      | zero =>
       rw [hv] at hu
       simp at hy hu; subst hy; subst hu
       exact .fz _ _ hr
      | succ j => exact A.2 (j + 1) y u (by simpa using hy) hu
     cases a with
     | none => exact one _ _ _ (by simpa using hlen) (go .nil0 (.nil0 c)) h1
     | some a => exact one _ _ _ (by simpa using hlen) (go .nne (.nne a c)) h2
    unfold twice at h
    split at h
    ·exact two _ _ (.inl rfl) rfl h
    ·exact two _ _ (.inr rfl) rfl h
    ·exact one _ _ _ hlen A h
   ·exact absurd h (by simp)
theorem Den_calls {G : Nat → Option AFunc} (L : Link P tab G) {f : Nat} {args : List AV} {r : AV} (h : Den G f args [] = some (r, [])) (hn0 : r.noref = true) {w : World} {vals : List Value} (hl : vals.length = args.length)
  (hA : ∀ (j : Nat) (x : AV) (v : Value), args[j]? = some x → vals[j]? = some v → RF tab w (fun b => b < w.heap.size) x v) (hg : GOk tab w fun b => b < w.heap.size) :
  Calls P (tab f) vals.toArray w fun e w' => ∃ v, e = .returned v ∧ RF tab w' (fun b => b < w'.heap.size) r v ∧ RowKit.Below w.heap.size w w' := by
 obtain ⟨n, hn⟩ := (Den_iff G).1 h
 have hS : ∀ {w : World} {b : Nat}, Stab w (fun _ => False) [] [] b ↔ b < w.heap.size := by
  intro w b
  exact ⟨fun h => h.1, fun h => ⟨h, id, by rintro ⟨o, x, g, hx, _⟩; simp at hx⟩⟩
 refine Calls.mono (denN_ok L n f args [] r [] hn w (fun _ => False) [] vals (inv_empty (fun _ h => h.elim) (hg.mono fun b hb => ⟨hS.2 hb, rfl⟩)) ⟨hl, fun j x v hx hv => .fz _ _ ((hA j x v hx hv).iffS fun b hb => hS.2 hb)⟩) ?_
 rintro e w' ⟨v, γ', rfl, st, J, hr, _⟩
 have hγ : γ' = [] := List.eq_nil_of_length_eq_zero (by simpa using J.len)
 subst hγ
 refine ⟨v, rfl, (hr.frozen hn0).iffS fun b hb => hb.1, st.os, st.tape, st.output, st.size, fun b hb => (st.keep b hb (by rintro ⟨o, x, g, hx, _⟩; simp at hx)).1⟩
#print axioms Den_calls
end
end Go.Den
