/- More operations held against the machine's. -/
import Derived.Test.YtggelolphgcpgaaDenF
import Derived.Laws.StructEq
namespace Go.Den
open Go

section
variable {P : Program} {tab : Nat → Nat}
/-- The run of an operation that gives a value. -/
def val (s : Sem Value) : Sem Next := do pure (Next.value (← s))
theorem val_run {s : Sem Value} {w w' : World} {v : Value} (h : s.run P w = .ok v w') : (val s).run P w = .ok (.value v) w' := by simp [val, h]

theorem pick_ok {w : World} {F : Nat → Prop} {base : Nat} {σ : St} {γ : List Gh} {b : Bool} {x y : AV} {c u v : Value} (I : Inv tab w F σ γ) (hc : RS tab w F σ γ (.bool b) c) (hx : RS tab w F σ γ x u) (hy : RS tab w F σ γ y v) :
    Done tab F base w σ γ ((do pure (Next.value (if ← asBool c then u else v)) : Sem Next).run P w) (if b then x else y) σ := by
  cases hc.frozen rfl with
  | bool =>
    refine done_same I (v := if b then u else v) (by simp [asBool]) ?_
    cases b <;> simpa

def fldB (P : Program) (s : TypeId) (f off : Nat) : Bool := match P.underlying s with
  | some (.struct fs) => match fs[f]? with
    | some g => g.offset == off && (match P.info? g.type with
      | some i => i.size != 0
      | none => false)
    | none => false
  | _ => false
theorem run_fld {s : TypeId} {f off : Nat} (h : fldB P s f off = true) (a : Addr) (w : World) : (Instr.fieldAt s (.pointer (some a)) f).run P w = .ok (.pointer (some (a.add off))) w := by
  unfold fldB at h
  split at h
  · rename_i fs hu
    split at h
    · rename_i g hg
      simp only [Bool.and_eq_true, beq_iff_eq] at h
      obtain ⟨rfl, h2⟩ := h
      split at h2
      · rename_i i hi
        have h0 : i.size ≠ 0 := by simpa using h2
        have hs : (sizeOf g.type).run P w = .ok i.size w := by simp [sizeOf, run_typeInfo w hi]
        simp only [Instr.fieldAt, Sem.run_bind, run_underlying hu, Result.andThen_ok, hg, Instr.sureAddr, Sem.run_pure, fieldPlace, hs, if_neg h0]
      · exact absurd h2 (by simp)
    · exact absurd h (by simp)
  · exact absurd h (by simp)
theorem rptr_drop {w : World} {S : Nat → Prop} {cs : List AV} {b off k : Nat} (h : RF tab w S (.rptr cs) (.pointer (some ⟨b, off, none⟩))) : RF tab w S (.rptr (cs.drop k)) (.pointer (some ⟨b, off + k, none⟩)) := by
  cases h with
  | rptr _ _ _ vs hb hc hs hr =>
    refine .rptr b (off + k) _ (fun j => vs (k + j)) hb (fun j x hx => ?_) (fun j x hx => ?_) (fun j x hx => ?_)
    all_goals rw [List.getElem?_drop] at hx
    · rw [Nat.add_assoc]; exact hc _ x hx
    · exact hs _ x hx
    · exact hr _ x hx
theorem fld_ok {w : World} {F : Nat → Prop} {base : Nat} {σ : St} {γ : List Gh} {s : TypeId} {f off : Nat} {x av : AV} {v : Value} (I : Inv tab w F σ γ) (hf : fldB P s f off = true) (hx : RS tab w F σ γ x v)
    (h : (match x with
      | .rptr cs => if off ≤ cs.length then some (AV.rptr (cs.drop off)) else none
      | .ref o f => some (.ref o (f + off))
      | .eref o v n i f => some (.eref o v n i (f + off))
      | _ => none) = some av) : Done tab F base w σ γ ((val (Instr.fieldAt s v f)).run P w) av σ := by
  cases x with
  | rptr cs =>
    simp only [] at h
    split at h
    · simp at h; subst h
      have h0 := hx.frozen rfl
      cases h0 with
      | rptr b o _ vs hb hc hs hr =>
        exact done_same I (val_run (run_fld hf _ w)) (.fz _ _ (by rw [add_none]; exact rptr_drop (.rptr b o _ vs hb hc hs hr)))
    · exact absurd h (by simp)
  | ref o k =>
    simp at h; subst h
    cases hx with
    | fz _ _ h => exact absurd h.noref (by simp [AV.noref])
    | ref _ _ g cs hs hg => exact done_same I (val_run (run_fld hf _ w)) (by rw [add_none]; exact .ref o (k + off) g cs hs hg)
  | eref o ver n i k =>
    simp at h; subst h
    cases hx with
    | fz _ _ h => exact absurd h.noref (by simp [AV.noref])
    | eref _ _ _ _ _ _ hv h =>
      obtain ⟨p, rfl⟩ := hv
      refine done_same I (val_run (run_fld hf _ w)) (.eref _ _ _ _ _ _ ⟨_, rfl⟩ ?_)
      obtain ⟨y, g, h1, h2, h3⟩ := h
      refine ⟨y, g, h1, h2, ?_⟩
      cases y with
      | dead => trivial
      | arr ver' sz es =>
        refine ⟨h3.1, fun q1 q2 q3 => ?_⟩
        have := h3.2 q1 q2 q3
        simp at this; subst this
        rw [add_none, Nat.add_assoc]
      | _ => exact h3
  | _ => simp at h

theorem nilchk_ok {w : World} {F : Nat → Prop} {base : Nat} {σ : St} {γ : List Gh} {x av : AV} {v : Value} {ρ : Operand → Value} {xo : Operand} {o : Oper} (I : Inv tab w F σ γ) (ho : o.op = .nilCheck xo) (hv : ρ xo = v) (hx : RS tab w F σ γ x v)
    (h : (match x with
      | .rptr cs => some (AV.rptr cs)
      | .ref o off => some (.ref o off)
      | .eref o v n i off => some (.eref o v n i off)
      | .fn f caps => some (.fn f caps)
      | _ => none) = some av) : Done tab F base w σ γ ((execOp ρ o).run P w) av σ := by
  have key : (∃ a, v = .pointer (some a)) ∨ (∃ f vs, v = .func (.func f) #[] vs) → (execOp ρ o).run P w = .ok (.value v) w := by
    rintro (⟨a, rfl⟩ | ⟨f, vs, rfl⟩) <;> simp [execOp, ho, hv]
  cases x with
  | rptr cs =>
    simp at h; subst h
    refine done_same I (key ?_) hx
    cases hx.frozen rfl with
    | rptr b off _ vs hb hc hs hr => exact .inl ⟨_, rfl⟩
  | ref o' k =>
    simp at h; subst h
    refine done_same I (key ?_) hx
    cases hx with
    | fz _ _ h => exact absurd h.noref (by simp [AV.noref])
    | ref _ _ g cs hs hg => exact .inl ⟨_, rfl⟩
  | eref o' ver n i k =>
    simp at h; subst h
    refine done_same I (key ?_) hx
    cases hx with
    | fz _ _ h => exact absurd h.noref (by simp [AV.noref])
    | eref _ _ _ _ _ _ hv h => obtain ⟨p, rfl⟩ := hv; exact .inl ⟨_, rfl⟩
  | fn f caps =>
    simp at h; subst h
    refine done_same I (key ?_) hx
    cases hx with
    | fz _ _ h => cases h with
      | fn _ _ vs hl hs hr => exact .inr ⟨_, _, rfl⟩
    | fn _ _ vs hl hs hr => exact .inr ⟨_, _, rfl⟩
  | _ => simp at h

/-- Addressing an element. -/
theorem run_idx {t e : TypeId} {sz : Nat} (ht : P.underlying t = some (.slice e)) (hz : szB P e sz = true) {k : IntKind} {i : Int} {a : Addr} {len cap : Nat} (h0 : 0 ≤ i) (h1 : i < len) (w : World) :
    (Instr.indexAt t (.slice (some a) len cap) (.int k i)).run P w = .ok (.pointer (some (a.add (i.toNat * sz)))) w := by
  simp only [Instr.indexAt, asIntOf, Sem.run_bind, Sem.run_pure, Result.andThen_ok, run_underlying ht]
  simp [h0, h1, run_sz hz]
theorem idxa_sl {w : World} {F : Nat → Prop} {base : Nat} {σ : St} {γ : List Gh} {t e : TypeId} {sz : Nat} {es : List (List AV)} {el : List AV} {u v : Value} {k : IntKind} {i : Int} (I : Inv tab w F σ γ) (ht : P.underlying t = some (.slice e)) (hz : szB P e sz = true)
    (hx : RS tab w F σ γ (.sl es) v) (hi : RS tab w F σ γ (.int k i) u) (h0 : 0 ≤ i) (he : es[i.toNat]? = some el) (hl : el.length = sz) : Done tab F base w σ γ ((val (Instr.indexAt t v u)).run P w) (.rptr el) σ := by
  cases hi.frozen rfl with
  | int =>
    have hx0 := hx.frozen rfl
    cases hx0 with
    | sl0 a c => simp at he
    | sl b off sz' cap _ vs hb hz' hl' hc hs hr =>
      have hlt := lt_of_get he
      have : sz' = sz := by rw [← hl]; exact (hz' el (List.mem_of_getElem? he)).symm
      subst this
      refine done_same I (val_run (run_idx ht hz h0 (by omega) w)) (.fz _ _ ?_)
      rw [add_none]
      exact .rptr b _ el (fun j => vs i.toNat j) hb (fun j x hx => hc _ _ he j x hx) (fun j x hx => hs _ _ he j x hx) (fun j x hx => hr _ _ he j x hx)
theorem idxa_osl {w : World} {F : Nat → Prop} {base : Nat} {σ : St} {γ : List Gh} {t e : TypeId} {sz o ver n off len : Nat} {es : List (List AV)} {u v : Value} {k : IntKind} {i : Int} (I : Inv tab w F σ γ) (ht : P.underlying t = some (.slice e)) (hz : szB P e sz = true)
    (hx : RS tab w F σ γ (.osl o ver n off len) v) (hi : RS tab w F σ γ (.int k i) u) (h0 : 0 ≤ i) (ho : σ[o]? = some (.arr ver sz es)) (hn : es.length = n) (hl : i.toNat < len) (hle : off + len ≤ n) :
    Done tab F base w σ γ ((val (Instr.indexAt t v u)).run P w) (.eref o ver n (off + i.toNat) 0) σ := by
  cases hi.frozen rfl with
  | int =>
    cases hx with
    | fz _ _ h => exact absurd h.noref (by simp [AV.noref])
    | osl _ _ _ _ _ _ hv h =>
      obtain ⟨x, g, h1, h2, h3⟩ := h
      rw [ho] at h1; simp at h1; subst h1
      obtain ⟨a, rfl, ha⟩ := h3.2 rfl hn.symm hle
      obtain ⟨k1, k2, k3, k4⟩ := I.ok o _ g ho h2
      have hc : 0 < g.cap - off := by omega
      have := ha hc; subst this
      refine done_same I (val_run (run_idx ht hz h0 (by omega) w)) (.eref _ _ _ _ _ _ ⟨_, rfl⟩ ⟨_, g, ho, h2, h3.1, fun _ _ _ => ?_⟩)
      rw [add_none, Nat.add_mul]; simp; omega
def arrB (P : Program) (t : TypeId) (len sz : Nat) : Bool := match P.underlying t with
  | some (.array n e) => n == len && szB P e sz
  | _ => false
theorem run_idxarr {t : TypeId} {len sz : Nat} (h : arrB P t len sz = true) {k : IntKind} {i : Int} {a : Addr} (h0 : 0 ≤ i) (h1 : i.toNat < len) (w : World) :
    (Instr.indexAt t (.pointer (some a)) (.int k i)).run P w = .ok (.pointer (some (a.add (i.toNat * sz)))) w := by
  unfold arrB at h
  split at h
  · rename_i n e hu
    simp only [Bool.and_eq_true, beq_iff_eq] at h
    obtain ⟨rfl, hz⟩ := h
    have hi : i < n := by omega
    simp only [Instr.indexAt, asIntOf, Sem.run_bind, Sem.run_pure, Result.andThen_ok, run_underlying hu, Instr.sureAddr]
    simp [h0, hi, run_sz hz]
  · exact absurd h (by simp)
theorem idxarr_ok {w : World} {F : Nat → Prop} {base : Nat} {σ : St} {γ : List Gh} {t : TypeId} {len sz : Nat} {x av : AV} {u v : Value} {k : IntKind} {i : Int} (I : Inv tab w F σ γ) (ht : arrB P t len sz = true)
    (hx : RS tab w F σ γ x v) (hi : RS tab w F σ γ (.int k i) u) (h : (match x with
      | .rptr cs => if 0 ≤ i ∧ i.toNat < len ∧ i.toNat * sz ≤ cs.length then some (AV.rptr (cs.drop (i.toNat * sz))) else none
      | .ref o f => if 0 ≤ i ∧ i.toNat < len then some (.ref o (f + i.toNat * sz)) else none
      | _ => none) = some av) : Done tab F base w σ γ ((val (Instr.indexAt t v u)).run P w) av σ := by
  cases hi.frozen rfl with
  | int =>
    cases x with
    | rptr cs =>
      simp only [] at h
      split at h
      · rename_i hc
        simp at h; subst h
        have h0 := hx.frozen rfl
        cases h0 with
        | rptr b o _ vs hb hc' hs hr =>
          exact done_same I (val_run (run_idxarr ht hc.1 hc.2.1 w)) (.fz _ _ (by rw [add_none]; exact rptr_drop (.rptr b o _ vs hb hc' hs hr)))
      · exact absurd h (by simp)
    | ref o f =>
      simp only [] at h
      split at h
      · rename_i hc
        simp at h; subst h
        cases hx with
        | fz _ _ h => exact absurd h.noref (by simp [AV.noref])
        | ref _ _ g cs hs hg => exact done_same I (val_run (run_idxarr ht hc.1 hc.2 w)) (by rw [add_none]; exact .ref o _ g cs hs hg)
      · exact absurd h (by simp)
    | _ => simp at h

theorem extract_ok {w : World} {F : Nat → Prop} {base : Nat} {σ : St} {γ : List Gh} {vs : List AV} {i : Nat} {av : AV} {v : Value} (I : Inv tab w F σ γ) (hx : RS tab w F σ γ (.tup vs) v) (h : vs[i]? = some av) :
    Done tab F base w σ γ ((val (Instr.extract v i)).run P w) av σ := by
  have key : ∀ us : List Value, us.length = vs.length → (∀ (j : Nat) (x : AV) (u : Value), vs[j]? = some x → us[j]? = some u → RS tab w F σ γ x u) → v = .tuple us.toArray → Done tab F base w σ γ ((val (Instr.extract v i)).run P w) av σ := by
    rintro us hl hr rfl
    obtain ⟨u, hu⟩ := get_of_len hl h
    exact done_same I (val_run (by simp [Instr.extract, hu])) (hr i av u h hu)
  cases hx with
  | fz _ _ h0 => cases h0 with
    | tup _ us hl hr => exact key us hl (fun j x u hx hu => .fz _ _ (hr j x u hx hu)) rfl
  | tup _ us hl hr => exact key us hl hr rfl

/-- A part of an aggregate value. -/
theorem run_part {w : World} {S : Nat → Prop} {σ : St} {γ : List Gh} {t : TypeId} {ag : Bool} {sz off : Nat} {cs : List AV} {us : List Value} {av : AV} (ha : aggB P t ag = true) (hz : szB P t sz = true) (hl : us.length = cs.length)
    (hs : ∀ (j : Nat) (x : AV), cs[j]? = some x → x.scalar = true) (hr : ∀ (j : Nat) (x : AV) (u : Value), cs[j]? = some x → us[j]? = some u → RV tab w S σ γ x u) (hf : front ag sz (cs.drop off) = some av) :
    ∃ v, (part t us.toArray off).run P w = .ok v w ∧ RV tab w S σ γ av v := by
  unfold front at hf
  split at hf
  · rename_i hle
    simp at hle
    cases ag with
    | true =>
      simp at hf; subst hf
      refine ⟨.agg ((us.drop off).take sz).toArray, ?_, .agg _ _ (by simp; omega) (fun j x hx => ?_) (fun j x u hx hu => ?_)⟩
      · simp only [part, Sem.run_bind, run_agg ha, Result.andThen_ok, if_true, run_sz hz, Sem.run_pure]
        simp
      · have hj : j < sz := by have := lt_of_get hx; simp at this; omega
        rw [List.getElem?_take_of_lt hj, List.getElem?_drop] at hx
        exact hs _ x hx
      · have hj : j < sz := by have := lt_of_get hx; simp at this; omega
        rw [List.getElem?_take_of_lt hj, List.getElem?_drop] at hx hu
        exact hr _ x u hx hu
    | false =>
      simp only [Bool.false_eq_true, if_false, List.head?_drop] at hf
      obtain ⟨u, hu⟩ := get_of_len hl hf
      exact ⟨u, by simp only [part, Sem.run_bind, run_agg ha, Result.andThen_ok, Bool.false_eq_true, if_false]; simp [hu], hr _ _ _ hf hu⟩
  · exact absurd hf (by simp)
theorem agg_open {w : World} {S : Nat → Prop} {σ : St} {γ : List Gh} {cs : List AV} {v : Value} (h : RV tab w S σ γ (.agg cs) v) : ∃ us : List Value, v = .agg us.toArray ∧ us.length = cs.length ∧ (∀ (j : Nat) (x : AV), cs[j]? = some x → x.scalar = true) ∧
    ∀ (j : Nat) (x : AV) (u : Value), cs[j]? = some x → us[j]? = some u → RV tab w S σ γ x u := by
  cases h with
  | fz _ _ h => cases h with
    | agg _ us hl hs hr => exact ⟨us, rfl, hl, hs, fun j x u hx hu => .fz _ _ (hr j x u hx hu)⟩
  | agg _ us hl hs hr => exact ⟨us, rfl, hl, hs, hr⟩
def fieldB (P : Program) (s : TypeId) (f : Nat) (ag : Bool) (off sz : Nat) : Bool := match P.underlying s with
  | some (.struct fs) => match fs[f]? with
    | some g => g.offset == off && aggB P g.type ag && szB P g.type sz
    | none => false
  | _ => false
theorem field_ok {w : World} {F : Nat → Prop} {base : Nat} {σ : St} {γ : List Gh} {s : TypeId} {f off sz : Nat} {ag : Bool} {cs : List AV} {av : AV} {v : Value} (I : Inv tab w F σ γ) (hf : fieldB P s f ag off sz = true) (hx : RS tab w F σ γ (.agg cs) v)
    (h : front ag sz (cs.drop off) = some av) : Done tab F base w σ γ ((val (Instr.field s v f)).run P w) av σ := by
  unfold fieldB at hf
  split at hf
  · rename_i fs hu
    split at hf
    · rename_i g hg
      simp only [Bool.and_eq_true, beq_iff_eq] at hf
      obtain ⟨⟨rfl, ha⟩, hz⟩ := hf
      obtain ⟨us, rfl, hl, hs, hr⟩ := agg_open hx
      obtain ⟨u, hu', hr'⟩ := run_part ha hz hl hs hr h
      exact done_same I (val_run (by simp only [Instr.field, Sem.run_bind, run_underlying hu, Result.andThen_ok, hg, asAgg, Sem.run_pure, hu'])) hr'
    · exact absurd hf (by simp)
  · exact absurd hf (by simp)

theorem not_ok {w : World} {F : Nat → Prop} {base : Nat} {σ : St} {γ : List Gh} {b : Bool} {v : Value} (I : Inv tab w F σ γ) (hx : RS tab w F σ γ (.bool b) v) : Done tab F base w σ γ ((val (Op.unary .not v)).run P w) (.bool (!b)) σ := by
  cases hx.frozen rfl with
  | bool => exact done_same I (val_run (by simp [Op.unary])) (.fz _ _ (.bool _))
def intB (P : Program) (t : TypeId) : Bool := match P.underlying t with
  | some (.int _) => true
  | _ => false
theorem convi_ok {w : World} {F : Nat → Prop} {base : Nat} {σ : St} {γ : List Gh} {src dst : TypeId} {k k0 : IntKind} {n : Int} {v : Value} {d : TypeDesc} (I : Inv tab w F σ γ) (h1 : P.underlying src = some d) (h2 : P.underlying dst = some (.int k)) (hx : RS tab w F σ γ (.int k0 n) v) :
    Done tab F base w σ γ ((val (convert src dst v)).run P w) (.int k (k.wrap n)) σ := by
  cases hx.frozen rfl with
  | int => exact done_same I (val_run (by simp [convert, run_underlying h1, run_underlying h2, Conv.intToInt])) (.fz _ _ (.int _ _))
theorem minmax_ok {w : World} {F : Nat → Prop} {base : Nat} {σ : St} {γ : List Gh} {k : IntKind} {a b : Int} {u v : Value} {ts : Array TypeId} {t : TypeId} (I : Inv tab w F σ γ) (hx : RS tab w F σ γ (.int k a) u) (hy : RS tab w F σ γ (.int k b) v) :
    Done tab F base w σ γ ((val (Builtin.min_ ts t #[u, v])).run P w) (.int k (if b < a then b else a)) σ ∧ Done tab F base w σ γ ((val (Builtin.max_ ts t #[u, v])).run P w) (.int k (if a < b then b else a)) σ := by
  cases hx.frozen rfl with
  | int =>
    cases hy.frozen rfl with
    | int => exact ⟨done_same I (val_run (by simp [Builtin.min_, Builtin.min2])) (.fz _ _ (.int _ _)), done_same I (val_run (by simp [Builtin.max_, Builtin.max2])) (.fz _ _ (.int _ _))⟩
end
end Go.Den
