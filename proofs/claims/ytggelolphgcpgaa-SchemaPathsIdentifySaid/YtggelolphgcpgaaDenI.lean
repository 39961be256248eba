/- Slice literals; stores into rows; len, index, slicing. -/
import Derived.Test.YtggelolphgcpgaaDenH
namespace Go.Den
open Go

section
variable {P : Program} {tab : Nat → Nat}
theorem norms_get (l : List AV) (j : Nat) : (norms l)[j]? = (l[j]?).map AV.norm := by
  induction l generalizing j with
  | nil => simp [norms, AV.norm.norms]
  | cons x r ih =>
    cases j with
    | zero => simp [norms, AV.norm.norms]
    | succ j => simpa [norms, AV.norm.norms] using ih j
theorem norms_length (l : List AV) : (norms l).length = l.length := by
  induction l with
  | nil => rfl
  | cons x r ih => simpa [norms, AV.norm.norms] using ih
theorem norm_scalar {x : AV} (h : x.scalar = true) : x.norm.scalar = true := by cases x <;> first | rfl | exact absurd h (by simp [AV.scalar])
theorem RF.norm {w : World} {S : Nat → Prop} {x : AV} {v : Value} (h : RF tab w S x v) : RF tab w S x.norm v := by
  induction h with
  | nils a => exact .sl0 a 0
  | agg cs vs hl hs hr ih =>
    refine .agg _ vs (by rw [norms_length]; exact hl) (fun j x hx => ?_) (fun j x v hx hv => ?_)
    · rw [norms_get] at hx
      cases hc : cs[j]? with
      | none => simp [hc] at hx
      | some y => simp [hc] at hx; subst hx; exact norm_scalar (hs j y hc)
    · rw [norms_get] at hx
      cases hc : cs[j]? with
      | none => simp [hc] at hx
      | some y => simp [hc] at hx; subst hx; exact ih j y v hc hv
  | tup cs vs hl hr ih =>
    refine .tup _ vs (by rw [norms_length]; exact hl) (fun j x v hx hv => ?_)
    rw [norms_get] at hx
    cases hc : cs[j]? with
    | none => simp [hc] at hx
    | some y => simp [hc] at hx; subst hx; exact ih j y v hc hv
  | int k n => exact .int k n
  | bool b => exact .bool b
  | str s => exact .str s
  | nilp => exact .nilp
  | rptr b off cs vs hb hc hs hr _ => exact .rptr b off cs vs hb hc hs hr
  | sl0 a c => exact .sl0 a c
  | sl b off sz cap es vs hb hz hl hc hs hr _ => exact .sl b off sz cap es vs hb hz hl hc hs hr
  | fn f caps vs hl hs hr _ => exact .fn f caps vs hl hs hr
  | nilfn => exact .nilfn
  | nilmap => exact .nilmap
  | fmap b es ms clock hb hh hl hk hr _ _ => exact .fmap b es ms clock hb hh hl hk hr
  | iface t x v hr _ => exact .iface t x v hr
  | nilif => exact .nilif
  | nil0 c => exact .nil0 c
  | nne a c => exact .nne a c
theorem RV.norm {w : World} {S : Nat → Prop} {σ : St} {γ : List Gh} {x : AV} {v : Value} (h : RV tab w S σ γ x v) : RV tab w S σ γ x.norm v := by
  induction h with
  | fz x v h => exact .fz _ _ h.norm
  | agg cs vs hl hs hr ih =>
    refine .agg _ vs (by rw [norms_length]; exact hl) (fun j x hx => ?_) (fun j x v hx hv => ?_)
    · rw [norms_get] at hx
      cases hc : cs[j]? with
      | none => simp [hc] at hx
      | some y => simp [hc] at hx; subst hx; exact norm_scalar (hs j y hc)
    · rw [norms_get] at hx
      cases hc : cs[j]? with
      | none => simp [hc] at hx
      | some y => simp [hc] at hx; subst hx; exact ih j y v hc hv
  | tup cs vs hl hr ih =>
    refine .tup _ vs (by rw [norms_length]; exact hl) (fun j x v hx hv => ?_)
    rw [norms_get] at hx
    cases hc : cs[j]? with
    | none => simp [hc] at hx
    | some y => simp [hc] at hx; subst hx; exact ih j y v hc hv
  | dead v => exact .dead v
  | ref o off g cs hs hg => exact .ref o off g cs hs hg
  | mapr o g es hs hg => exact .mapr o g es hs hg
  | osl o ver n off len v hv h => exact .osl o ver n off len v hv h
  | eref o ver n i off v hv h => exact .eref o ver n i off v hv h
  | fn f caps vs hl hs hr _ => exact .fn f caps vs hl hs hr
  | iface t x v hr _ => exact .iface t x v hr
theorem frzCells_ok {cs es : List AV} (h : frzCells cs = some es) : norefs cs = true ∧ es = norms cs := by
  unfold frzCells at h
  split at h
  · rename_i hn; simp at h; exact ⟨hn, h.symm⟩
  · exact absurd h (by simp)
theorem frzElems_ok : ∀ {L es : List (List AV)}, frzElems L = some es → es.length = L.length ∧ ∀ (i : Nat) (e : List AV), es[i]? = some e → ∃ c, L[i]? = some c ∧ norefs c = true ∧ e = norms c
  | [], es, h => by simp [frzElems] at h; subst h; exact ⟨rfl, by simp⟩
  | c :: L, es, h => by
    simp only [frzElems] at h
    split at h
    · rename_i e' r' h1 h2
      simp at h; subst h
      obtain ⟨q1, q2⟩ := frzElems_ok h2
      obtain ⟨f1, f2⟩ := frzCells_ok h1
      refine ⟨by simp [q1], fun i e he => ?_⟩
      cases i with
      | zero => simp at he; subst he; exact ⟨c, rfl, f1, f2⟩
      | succ i => simpa using q2 i e (by simpa using he)
    · exact absurd h (by simp)
theorem chop_get (sz : Nat) : ∀ (n : Nat) (cs : List AV) (i : Nat) (e : List AV), (chop sz n cs)[i]? = some e → i < n ∧ e = (cs.drop (i * sz)).take sz
  | 0, cs, i, e, h => by simp [chop] at h
  | n + 1, cs, i, e, h => by
    cases i with
    | zero => simp [chop] at h; exact ⟨by omega, by simp [h]⟩
    | succ i =>
      obtain ⟨h1, h2⟩ := chop_get sz n (cs.drop sz) i e (by simpa [chop] using h)
      refine ⟨by omega, ?_⟩
      rw [h2, List.drop_drop, Nat.add_mul]; congr 2; omega
theorem chop_length (sz : Nat) : ∀ (n : Nat) (cs : List AV), (chop sz n cs).length = n
  | 0, _ => rfl
  | n + 1, cs => by simp [chop, chop_length sz n]
theorem zerosN_length (zs : List AV) : ∀ n, (zerosN zs n).length = n * zs.length
  | 0 => by simp [zerosN]
  | n + 1 => by simp [zerosN, zerosN_length zs n, Nat.add_mul]; omega
theorem zerosN_get (zs : List AV) (h : 0 < zs.length) : ∀ (n p : Nat), p < n * zs.length → (zerosN zs n)[p]? = zs[p % zs.length]?
  | 0, p, hp => by simp at hp
  | n + 1, p, hp => by
    simp only [zerosN]
    rcases Nat.lt_or_ge p zs.length with h1 | h1
    · rw [List.getElem?_append_left h1, Nat.mod_eq_of_lt h1]
    · rw [List.getElem?_append_right h1, zerosN_get zs h n (p - zs.length) (by rw [Nat.add_mul] at hp; omega)]
      congr 1
      conv => rhs; rw [show p = (p - zs.length) + zs.length by omega, Nat.add_mod_right]

/-- A row of frozen elements in a block. -/
theorem row_sl {w : World} {S : Nat → Prop} {b sz cap : Nat} {es : List (List AV)} {D : Array Value} (hb : S b) (hD : ∃ ty fr, w.heap[b]? = some (.cells D ty fr)) (hz : ∀ e ∈ es, e.length = sz) (hl : es.length ≤ cap)
    (hr : ∀ (i : Nat) (e : List AV), es[i]? = some e → ∀ (j : Nat) (x : AV), e[j]? = some x → ∃ u, D[i * sz + j]? = some u ∧ x.scalar = true ∧ RF tab w S x u) : RF tab w S (.sl es) (.slice (some ⟨b, 0, none⟩) es.length cap) := by
  obtain ⟨ty, fr, hD⟩ := hD
  refine .sl b 0 sz cap es (fun i j => D.getD (i * sz + j) undef) hb hz hl (fun i e he j x hx => ?_) (fun i e he j x hx => ?_) (fun i e he j x hx => ?_)
  all_goals obtain ⟨u, h1, h2, h3⟩ := hr i e he j x hx
  · simp [World.cell?, hD, h1]
  · exact h2
  · simp [h1]; exact h3
def litB (P : Program) (t : TypeId) (sz : Nat) (zs : List AV) (len : Nat) : Bool := match elemB P t with
  | some e => szB P e sz && zeroB P e zs && zs.length == sz && decide (0 < sz) && decide (len * sz ≤ 2 ^ 24)
  | none => false
theorem elemB_ok {t e : TypeId} (h : elemB P t = some e) : P.underlying t = some (.slice e) := by
  unfold elemB at h
  split at h
  · rename_i e' hu; simp at h; subst h; exact hu
  · exact absurd h (by simp)
theorem lit_run {w : World} {F : Nat → Prop} {σ : St} {γ : List Gh} {env : Env} {a : Act} (E : EnvOk tab w F σ γ env a.tmps) {t : TypeId} {sz len : Nat} {zs cs : List AV} {ps : List (Nat × Operand)} {qs : List (Nat × Opd)} {es : List (List AV)}
    (hB : litB P t sz zs len = true) (hp : chkParts tab (fun i => some (i * sz, sz)) ps (litParts sz qs) = true) (hf : fillParts env (litParts sz qs) (zerosN zs len) = some cs) (he : frzElems (chop sz len cs) = some es) :
    ∃ D e, (Instr.buildSlice t len (ps.map fun (i, x) => (i, a.eval x)).toArray).run P w = .ok (.slice (some ⟨w.heap.size, 0, none⟩) len len) { w with heap := w.heap.push (.cells D e) } ∧ D.size = len * sz ∧ es.length = len ∧ (∀ e ∈ es, e.length = sz) ∧ 0 < sz ∧
      ∀ (i : Nat) (e : List AV), es[i]? = some e → ∀ (j : Nat) (x : AV), e[j]? = some x → ∃ u, D[i * sz + j]? = some u ∧ x.scalar = true ∧ RF tab w (Stab w F σ γ) x u := by
  unfold litB at hB
  cases hel : elemB P t with
  | none => simp [hel] at hB
  | some e =>
    simp [hel] at hB
    obtain ⟨⟨⟨⟨hs, hz⟩, hzl⟩, h0⟩, hle⟩ := hB
    have hu := elemB_ok hel
    obtain ⟨z, hz, hc⟩ := run_zero (P := P) (w := w) hz
    obtain ⟨q1, q2, q3⟩ := constB_go tab (w := w) (S := Stab w F σ γ) hc
    have hzs : z.cells.size = sz := by simpa [hzl] using q1
    have hZl : (zerosN zs len).length = len * sz := by rw [zerosN_length, hzl]
    let zero : Array Value := if len * sz = 0 then #[] else z.cells
    have hzero : (if len * sz = 0 then pure #[] else (do pure (← zeroValue e).cells : Sem (Array Value))).run P w = .ok zero w := by
      by_cases hh : len * sz = 0
      · simp [zero, hh]
      · simp [zero, hh, hz]
    have hgetZ : ∀ (j : Nat) (x : AV) (u : Value), (zerosN zs len)[j]? = some x → ((Array.range (len * sz)).map (zero[· % zero.size]!))[j]? = some u → zs[j % sz]? = some x ∧ z.cells.toList[j % sz]? = some u := by
      intro j x u hx hu'
      have hj : j < len * sz := by have := lt_of_get hx; omega
      rw [zerosN_get zs (by omega) _ _ (by rw [hzl]; exact hj), hzl] at hx
      have hne : ¬ len * sz = 0 := by omega
      have hze : zero = z.cells := by simp [zero, hne]
      rw [hze] at hu'
      simp only [Array.getElem?_map] at hu'
      rw [Array.getElem?_range, if_pos hj] at hu'
      simp [hzs] at hu'
      have hm : j % sz < z.cells.size := by rw [hzs]; exact Nat.mod_lt _ h0
      simp [hm] at hu'
      exact ⟨hx, by simp [hm, hu']⟩
    obtain ⟨D, d1, d2, d3, d4, d5⟩ := fill_ok E (C := (Array.range (len * sz)).map (zero[· % zero.size]!)) hp (by simp [hZl]) (fun j x hx => by
        have hj : j < len * sz := by have := lt_of_get hx; omega
        rw [zerosN_get zs (by omega) _ _ (by rw [hzl]; exact hj)] at hx
        exact q2 _ x hx) (fun j x u hx hu' => by
        obtain ⟨k1, k2⟩ := hgetZ j x u hx hu'
        exact .fz _ _ (q3 _ x u k1 k2)) hf
    obtain ⟨l1, l2⟩ := frzElems_ok he
    rw [chop_length] at l1
    have hes : ∀ (i : Nat) (e : List AV), es[i]? = some e → i < len ∧ e = norms ((cs.drop (i * sz)).take sz) ∧ norefs ((cs.drop (i * sz)).take sz) = true := by
      intro i e hi
      obtain ⟨c, hc1, hc2, hc3⟩ := l2 i e hi
      obtain ⟨g1, g2⟩ := chop_get sz len cs i c hc1
      exact ⟨g1, by rw [hc3, g2], by rw [← g2]; exact hc2⟩
    refine ⟨D, e, ?_, by omega, l1, ?_, h0, ?_⟩
    · simp only [Instr.buildSlice, Sem.run_bind, run_underlying hu, Result.andThen_ok, run_sz hs]
      rw [if_neg (by omega)]
      by_cases hh : len * sz = 0
      · have hze : zero = #[] := by simp [zero, hh]
        rw [hze] at d1
        simp only [hh, if_true, Sem.run_bind, Sem.run_pure, Result.andThen_ok] at d1 ⊢
        simp only [d1]
        simp [newRow]
      · have hze : zero = z.cells := by simp [zero, hh]
        rw [hze] at d1
        simp only [hh, if_false, Sem.run_bind, hz, Sem.run_pure, Result.andThen_ok, d1]
        simp [newRow]
    · intro el hel'
      obtain ⟨i, hi, ee⟩ := List.getElem_of_mem hel'
      obtain ⟨k1, k2, k3⟩ := hes i el (by rw [List.getElem?_eq_getElem hi, ee])
      have : (i + 1) * sz ≤ len * sz := Nat.mul_le_mul_right _ k1
      rw [Nat.add_mul] at this
      rw [k2, norms_length]; simp; omega
    · intro i el hi j x hx
      obtain ⟨k1, k2, k3⟩ := hes i el hi
      rw [k2, norms_get] at hx
      cases hcj : ((cs.drop (i * sz)).take sz)[j]? with
      | none => simp [hcj] at hx
      | some y =>
        simp [hcj] at hx; subst hx
        have hnr := (norefs_iff _).1 k3 j y hcj
        have hj : j < sz := by have := lt_of_get hcj; simp at this; omega
        rw [List.getElem?_take_of_lt hj, List.getElem?_drop] at hcj
        have hjD : i * sz + j < D.size := by have := lt_of_get hcj; omega
        exact ⟨D[i * sz + j], Array.getElem?_eq_getElem hjD, norm_scalar (d4 _ y hcj), ((d5 _ y _ hcj (Array.getElem?_eq_getElem hjD)).frozen hnr).norm⟩
theorem lit_ok {w : World} {F : Nat → Prop} {base : Nat} {σ : St} {γ : List Gh} {env : Env} {a : Act} (I : Inv tab w F σ γ) (E : EnvOk tab w F σ γ env a.tmps) {t : TypeId} {sz len : Nat} {zs cs : List AV} {ps : List (Nat × Operand)} {qs : List (Nat × Opd)} {es : List (List AV)}
    (hB : litB P t sz zs len = true) (hp : chkParts tab (fun i => some (i * sz, sz)) ps (litParts sz qs) = true) (hf : fillParts env (litParts sz qs) (zerosN zs len) = some cs) (he : frzElems (chop sz len cs) = some es) :
    Done tab F base w σ γ ((val (Instr.buildSlice t len (ps.map fun (i, x) => (i, a.eval x)).toArray)).run P w) (if len = 0 then .nils else .sl es) σ := by
  obtain ⟨D, e, hrun, hDs, hel, hez, h0, hr⟩ := lit_run E hB hp hf he
  obtain ⟨h1, h2⟩ := free_push I (.cells D e)
  refine ⟨_, _, γ, .inl (val_run hrun), h1, h2, ?_, Fr.refl _ _⟩
  by_cases hl : len = 0
  · subst hl; exact .fz _ _ (.nils _)
  · rw [if_neg hl]
    have := row_sl (tab := tab) (w := { w with heap := w.heap.push (.cells D e) }) (S := Stab { w with heap := w.heap.push (.cells D e) } F σ γ) (b := w.heap.size) (sz := sz) (cap := len) (es := es) (D := D) (free_stab I _) ⟨e, (0, 0), Array.getElem?_push_size⟩ hez (by omega)
      (fun i el hi j x hx => by
        obtain ⟨u, u1, u2, u3⟩ := hr i el hi j x hx
        exact ⟨u, u1, u2, u3.mono fun b hb => h1.stab hb⟩)
    rw [hel] at this
    exact .fz _ _ this
/-- A row in a new block, owned. -/
theorem arr_obj {w w1 : World} {F : Nat → Prop} {σ σ1 : St} {γ γ1 : List Gh} {m : Nat} (st : Step m w σ γ w1 σ1 γ1) {ver sz : Nat} {es : List (List AV)} {D : Array Value} {ty : TypeId} {g : Gh} (h0 : 0 < sz) (hl : es.length ≤ g.cap) (hz : ∀ e ∈ es, e.length = sz)
    (hb : 0 < g.cap → w1.heap[g.b]? = some (.cells D ty (0, 0)) ∧ g.base + g.cap * sz ≤ D.size)
    (hr : ∀ (i : Nat) (e : List AV), es[i]? = some e → ∀ (j : Nat) (x : AV), e[j]? = some x → ∃ u, D[g.base + i * sz + j]? = some u ∧ x.scalar = true ∧ RF tab w (Stab w F σ γ) x u) :
    ObOk tab w1 (Stab w1 F σ1 γ1) σ1 γ1 (.arr ver sz es) g :=
  ⟨h0, hl, hz, fun hc => ⟨D, ty, (hb hc).1, (hb hc).2, fun i e he j x hx => by
    obtain ⟨u, u1, u2, u3⟩ := hr i e he j x hx
    exact ⟨u, u1, u2, u3.mono fun b hb => st.stab hb⟩⟩⟩
theorem lit_pr_ok {w : World} {F : Nat → Prop} {base : Nat} {σ : St} {γ : List Gh} {env : Env} {a : Act} (I : Inv tab w F σ γ) (hbase : base ≤ σ.length) (E : EnvOk tab w F σ γ env a.tmps) {t : TypeId} {sz len : Nat} {zs cs : List AV} {ps : List (Nat × Operand)} {qs : List (Nat × Opd)} {es : List (List AV)}
    (hB : litB P t sz zs len = true) (hp : chkParts tab (fun i => some (i * sz, sz)) ps (litParts sz qs) = true) (hf : fillParts env (litParts sz qs) (zerosN zs len) = some cs) (he : frzElems (chop sz len cs) = some es) :
    Done tab F base w σ γ ((val (Instr.buildSlice t len (ps.map fun (i, x) => (i, a.eval x)).toArray)).run P w) (.osl σ.length 0 len 0 len) (σ ++ [.arr 0 sz es]) := by
  obtain ⟨D, e, hrun, hDs, hel, hez, h0, hr⟩ := lit_run E hB hp hf he
  obtain ⟨h1, h2, h3⟩ := new_push I hbase (.cells D e) (.arr 0 sz es) len fun st =>
    arr_obj (D := D) (ty := e) (g := ⟨w.heap.size, 0, len⟩) st h0 (by simp [hel]) hez (fun _ => ⟨Array.getElem?_push_size, by simp [hDs]⟩) (fun i el hi j x hx => by simpa using hr i el hi j x hx)
  refine ⟨_, _, _, .inl (val_run hrun), h1, h2, .osl _ _ _ _ _ _ ⟨_, _, _, rfl⟩ ⟨.arr 0 sz es, ⟨w.heap.size, 0, len⟩, by simp, by rw [← I.len]; simp, .inr ⟨rfl, by omega⟩, fun _ _ _ => ⟨_, rfl, fun _ => by simp⟩⟩, h3⟩

theorem store_eref_ok {w : World} {F : Nat → Prop} {base : Nat} {σ : St} {γ : List Gh} {t : TypeId} {sz o ver n i off : Nat} {y : AV} {v u : Value} {sz' : Nat} {es : List (List AV)} {e zs : List AV} (I : Inv tab w F σ γ) (hz : szB P t sz = true) (hx : RS tab w F σ γ (.eref o ver n i off) u)
    (hy : RS tab w F σ γ y v) (hl : y.cellsOf.length = sz) (hs : y.cellsOf.all AV.scalar = true) (ho : σ[o]? = some (.arr ver sz' es)) (hn : es.length = n) (he : es[i]? = some e) (hle : off + sz ≤ e.length) (hf : frzCells y.cellsOf = some zs) :
    Done tab F base w σ γ ((do Instr.storeAt t u v; pure Next.skip : Sem Next).run P w) .dead (σ.set o (.arr ver sz' (es.set i (over e off zs)))) := by
  cases hx with
  | fz _ _ h => exact absurd h.noref (by simp [AV.noref])
  | eref _ _ _ _ _ _ hv h =>
    obtain ⟨x, g, hx, hg, h⟩ := h
    rw [ho] at hx; simp at hx; subst hx
    have hi := lt_of_get he
    have hu := h.2 rfl hn.symm (by omega)
    subst hu
    have hs0 : ∀ (j : Nat) (x : AV), y.cellsOf[j]? = some x → x.scalar = true := fun j x hx => (List.all_eq_true.1 hs) x (List.mem_of_getElem? hx)
    obtain ⟨q1, q2⟩ := cells_ok hy hs0
    obtain ⟨f1, f2⟩ := frzCells_ok hf
    obtain ⟨k1, k2, k3, k4⟩ := I.ok o _ g ho hg
    have hcap : 0 < g.cap := by omega
    obtain ⟨vs, ty, e1, e2, e3⟩ := k4 hcap
    have hel : e.length = sz' := k3 e (List.mem_of_getElem? he)
    have hrow : (i + 1) * sz' ≤ g.cap * sz' := Nat.mul_le_mul_right _ (by omega)
    rw [Nat.add_mul] at hrow
    have hzl : zs.length = sz := by rw [f2, norms_length, hl]
    have hle' : g.base + i * sz' + off + v.cells.size ≤ vs.size := by omega
    have h1 : ∀ u ∈ v.cells.toList, u.oneCell' = true := by
      intro u hu
      obtain ⟨j, hj, ee⟩ := List.getElem_of_mem hu
      have hj' : j < y.cellsOf.length := by simp at hj; omega
      exact one_ok (q2 j y.cellsOf[j] u (List.getElem?_eq_getElem hj') (by rw [← ee]; simp at hj ⊢)) (hs0 j _ (List.getElem?_eq_getElem hj'))
    have hrun := run_store_over (P := P) (t := t) (sz := sz) hz (by omega) e1 hle' h1
    obtain ⟨s1, s2⟩ := set_row (x' := .arr ver sz' (es.set i (over e off zs))) (ws := (vs.toList.take (g.base + i * sz' + off) ++ v.cells.toList ++ vs.toList.drop (g.base + i * sz' + off + v.cells.toList.length)).toArray) I ho hg (by simp [owns, hcap]) (.same _ _ _ _ _ (by simp))
    have hvl : v.cells.toList.length = sz := by simp; omega
    refine ⟨undef, _, γ, .inr ⟨by simp [hrun], rfl⟩, s1, s2 ?_, .dead _, ?_⟩
    · refine arr_obj (D := (vs.toList.take (g.base + i * sz' + off) ++ v.cells.toList ++ vs.toList.drop (g.base + i * sz' + off + v.cells.toList.length)).toArray) (ty := ty) s1 k1 (by simpa using k2) (fun e' he' => ?_) (fun _ => ⟨setRow_heap w g.b vs _ ty _ e1, by rw [overV_size _ _ _ (by simpa using hle')]; exact e2⟩) (fun i' e' hi' j x hx => ?_)
      · rcases List.mem_or_eq_of_mem_set he' with h' | h'
        · exact k3 e' h'
        · subst h'; rw [over_length _ _ _ (by omega)]; exact hel
      · rw [List.getElem?_set] at hi'
        rw [overV_get _ _ _ _ (by simpa using hle')]
        by_cases hii : i = i'
        · subst hii
          simp [hi] at hi'
          subst hi'
          rw [over_get _ _ _ _ (by omega)] at hx
          split at hx
          · rename_i hj
            rw [f2, norms_get] at hx
            cases hcj : y.cellsOf[j - off]? with
            | none => simp [hcj] at hx
            | some z =>
              simp [hcj] at hx; subst hx
              have hjv : j - off < v.cells.size := by have := lt_of_get hcj; omega
              refine ⟨v.cells[j - off], ?_, norm_scalar (hs0 _ z hcj), ((q2 _ z _ hcj (Array.getElem?_eq_getElem hjv)).frozen ((norefs_iff _).1 f1 _ z hcj)).norm⟩
              rw [if_pos (by omega)]
              rw [show g.base + i * sz' + j - (g.base + i * sz' + off) = j - off by omega]
              simp [hjv]
          · rename_i hj
            obtain ⟨u, u1, u2, u3⟩ := e3 i e he j x hx
            refine ⟨u, ?_, u2, u3⟩
            rw [if_neg (by omega)]; exact u1
        · simp [hii] at hi'
          obtain ⟨u, u1, u2, u3⟩ := e3 i' e' hi' j x hx
          refine ⟨u, ?_, u2, u3⟩
          have hj : j < sz' := by have := lt_of_get hx; have := k3 e' (List.mem_of_getElem? hi'); omega
          rw [if_neg ?_]
          · exact u1
          · rcases Nat.lt_or_gt_of_ne hii with hlt | hgt
            · have : (i + 1) * sz' ≤ i' * sz' := Nat.mul_le_mul_right _ (by omega)
              rw [Nat.add_mul] at this; omega
            · have : (i' + 1) * sz' ≤ i * sz' := Nat.mul_le_mul_right _ (by omega)
              rw [Nat.add_mul] at this; omega
    · exact Fr.set fun b _ _ _ => rfl
end
end Go.Den
