/- An operation of the abstract code held against one of the machine's. -/
import Derived.Test.YtggelolphgcpgaaDenM3
namespace Go.Den
open Go

section
variable {P : Program} {tab : Nat → Nat}
def chkOp (P : Program) (tab : Nat → Nat) : Op → AOp → Bool
  | .move x, .mov y => chkOpd tab x y
  | .assign x, .mov y => chkOpd tab x y
  | .move x, .movp _ y => chkOpd tab x y
  | .assign x, .movp _ y => chkOpd tab x y
  | .pick c a b, .pick c' a' b' => chkOpd tab c c' && chkOpd tab a a' && chkOpd tab b b'
  | .alloc t, .alloc zs _ => zeroB P t zs
  | .box _ x, .box _ _ y => chkOpd tab x y
  | .build t ps, .build zs qs => zeroB P t zs && allInfo P t && (match placeOf P t with
    | some place => chkParts tab place ps.toList qs
    | none => false)
  | .build t ps, .buildp zs qs _ => zeroB P t zs && allInfo P t && (match placeOf P t with
    | some place => chkParts tab place ps.toList qs
    | none => false)
  | .buildSlice t len ps, .lit _ sz zs len' qs => len == len' && litB P t sz zs len && chkParts tab (fun i => some (i * sz, sz)) ps.toList (litParts sz qs)
  | .load t x, .load ag sz y => aggB P t ag && szB P t sz && chkOpd tab x y
  | .store t x y, .store sz x' y' => szB P t sz && chkOpd tab x x' && chkOpd tab y y'
  | .store t x y, .storep sz x' y' _ => szB P t sz && chkOpd tab x x' && chkOpd tab y y'
  | .nilCheck x, .nilchk y => chkOpd tab x y
  | .binOp op xt x y _, .bin op' kd x' y' => decide (op = op') && binB P kd xt && chkOpd tab x x' && chkOpd tab y y'
  | .unOp op _ x, .not y => decide (op = .not) && chkOpd tab x y
  | .convert s d x, .convi k y => (P.underlying s).isSome && (match P.underlying d with | some (.int k') => decide (k' = k) | _ => false) && chkOpd tab x y
  | .fieldAddr s x f, .fld off y => fldB P s f off && chkOpd tab x y
  | .field s x f, .field ag off sz y => fieldB P s f ag off sz && chkOpd tab x y
  | .indexAddr t x i, .idxa sz y j => (match elemB P t with | some e => szB P e sz | none => false) && chkOpd tab x y && chkOpd tab i j
  | .indexAddr t x i, .idxarr len sz y j => arrB P t len sz && chkOpd tab x y && chkOpd tab i j
  | .index t x i, .index y j => (match P.underlying t with | some .string => true | _ => false) && chkOpd tab x y && chkOpd tab i j
  | .extract x i, .extract y j => i == j && chkOpd tab x y
  | .slice t x lo hi mx, .slice sz y lo' hi' mx' => (match elemB P t with | some e => szB P e sz | none => false) && chkOpd tab x y && chkO tab lo lo' && chkO tab hi hi' && chkO tab mx mx' && (mx.isNone || hi.isSome)
  | .slice t x lo hi mx, .sstr y lo' hi' => (match P.underlying t with | some .string => true | _ => false) && chkOpd tab x y && chkO tab lo lo' && chkO tab hi hi' && mx.isNone
  | .makeMap t r, .mkmap r' => chkO tab r r' && (match P.underlying t with | some (.map _ _) => true | _ => false)
  | .lookup t x i ok, .lookup ag ks z ok' y j => mapB P t ag ks && mapZ P t z && ok == ok' && chkOpd tab x y && chkOpd tab i j
  | .mapUpdate t m k x, .mapupd ag ks m' k' x' => mapB P t ag ks && chkOpd tab m m' && chkOpd tab k k' && chkOpd tab x x'
  | .insert t m k x, .mapupd ag ks m' k' x' => mapB P t ag ks && chkOpd tab m m' && chkOpd tab k k' && chkOpd tab x x'
  | _, .bad => true
  | .convert s d x, .tobytes y => (match P.underlying s, elemB P d with
    | some .string, some e => (match P.underlying e with | some (.int .u8) => true | _ => false)
    | _, _ => false) && chkOpd tab x y
  | .makeFunc (.func g) first caps, .mkfn f caps' => tab f == g && first.isEmpty && chkOpds tab caps.toList caps'
  | .call c, .len str y => (match c.callee, c.args.toList, c.argTypes.toList with
    | .builtin .len, [x], [t] => chkOpd tab x y && (match P.underlying t with | some .string => str | some (.slice _) => !str | _ => false)
    | _, _, _ => false)
  | .call c, .append _ sz bytes y z => (match c.callee, c.args.toList, c.argTypes.toList with
    | .builtin .append, [x, x'], [t, t'] => chkOpd tab x y && chkOpd tab x' z && appB P t t' sz bytes
    | _, _, _ => false)
  | .call c, .clear _ zs y => (match c.callee, c.args.toList, c.argTypes.toList with
    | .builtin .clear, [x], [t] => chkOpd tab x y && clearB P t zs
    | _, _, _ => false)
  | .call c, .min y z => (match c.callee, c.args.toList with
    | .builtin .min, [x, x'] => chkOpd tab x y && chkOpd tab x' z
    | _, _ => false)
  | .call c, .max y z => (match c.callee, c.args.toList with
    | .builtin .max, [x, x'] => chkOpd tab x y && chkOpd tab x' z
    | _, _ => false)
  | _, _ => false

theorem movp_ok {base : Nat} {sz : Nat} {y : Opd} {env : Env} {σ σ' : St} {av : AV} {tt : Bool} {w : World} {F : Nat → Prop} {γ : List Gh} {v : Value} {r : Result Next} (I : Inv tab w F σ γ) (hb : base ≤ σ.length) (hx : RS tab w F σ γ (ev env y) v)
    (h : step base (.movp sz y) env σ = some (av, σ', tt)) (hr : r = .ok (.value v) w) : Done tab F base w σ γ r av σ' := by
  simp only [step] at h
  split at h
  · rename_i he
    rw [he] at hx
    split at h
    · rename_i h0
      simp at h; obtain ⟨rfl, rfl, _⟩ := h
      obtain ⟨a, rfl⟩ := nils_open hx
      have hl := I.len
      have hn : σ[σ.length]? = none := List.getElem?_eq_none (Nat.le_refl _)
      have e1 : (σ ++ [Ob.arr 0 sz []])[σ.length]? = some (.arr 0 sz []) := by simp
      have e2 : (γ ++ [(⟨0, 0, 0⟩ : Gh)])[σ.length]? = some ⟨0, 0, 0⟩ := by rw [← I.len]; simp
      obtain ⟨h1, h2⟩ := change (w1 := w) (σ1 := σ ++ [.arr 0 sz []]) (γ1 := γ ++ [⟨0, 0, 0⟩]) σ.length I rfl rfl rfl (Nat.le_refl _)
        (fun k hk => by
          rcases Nat.lt_or_ge k σ.length with h | h
          · exact ⟨List.getElem?_append_left h, List.getElem?_append_left (by omega)⟩
          · rw [List.getElem?_eq_none (by simp; omega), List.getElem?_eq_none h, List.getElem?_eq_none (by simp; omega), List.getElem?_eq_none (by omega)]; exact ⟨rfl, rfl⟩)
        (by simp) (by simp [hl]) (fun b hb => .inl rfl)
        (fun z g hz hg ho => by rw [e1] at hz; rw [e2] at hg; simp at hz hg; subst hz; subst hg; simp [owns] at ho)
        (fun z g hz => by rw [hn] at hz; exact absurd hz (by simp))
      refine ⟨_, w, _, .inl hr, h1, h2 fun z g hz hg => ?_, .osl _ _ _ _ _ _ ⟨_, _, _, rfl⟩ ⟨_, _, e1, e2, .inr ⟨rfl, by simp⟩, fun _ _ _ => ⟨a, rfl, fun h => by simp at h⟩⟩, Fr.push hb _⟩
      rw [e1] at hz; rw [e2] at hg; simp at hz hg; subst hz; subst hg
      exact ⟨h0, by simp, by simp, by simp⟩
    · exact absurd h (by simp)
  · exact absurd h (by simp)
theorem push_row {w : World} {F : Nat → Prop} {σ : St} {γ : List Gh} {sz : Nat} (I : Inv tab w F σ γ) (h0 : 0 < sz) :
    Step σ.length w σ γ w (σ ++ [Ob.arr 0 sz []]) (γ ++ [⟨0, 0, 0⟩]) ∧ Inv tab w F (σ ++ [Ob.arr 0 sz []]) (γ ++ [⟨0, 0, 0⟩]) := by
  have hl := I.len
  have hn : σ[σ.length]? = none := List.getElem?_eq_none (Nat.le_refl _)
  have e1 : (σ ++ [Ob.arr 0 sz []])[σ.length]? = some (.arr 0 sz []) := by simp
  have e2 : (γ ++ [(⟨0, 0, 0⟩ : Gh)])[σ.length]? = some ⟨0, 0, 0⟩ := by rw [← I.len]; simp
  obtain ⟨h1, h2⟩ := change (w1 := w) (σ1 := σ ++ [.arr 0 sz []]) (γ1 := γ ++ [⟨0, 0, 0⟩]) σ.length I rfl rfl rfl (Nat.le_refl _)
    (fun k hk => by
      rcases Nat.lt_or_ge k σ.length with h | h
      · exact ⟨List.getElem?_append_left h, List.getElem?_append_left (by omega)⟩
      · rw [List.getElem?_eq_none (by simp; omega), List.getElem?_eq_none h, List.getElem?_eq_none (by simp; omega), List.getElem?_eq_none (by omega)]; exact ⟨rfl, rfl⟩)
    (by simp) (by simp [hl]) (fun b hb => .inl rfl)
    (fun z g hz hg ho => by rw [e1] at hz; rw [e2] at hg; simp at hz hg; subst hz; subst hg; simp [owns] at ho)
    (fun z g hz => by rw [hn] at hz; exact absurd hz (by simp))
  refine ⟨h1, h2 fun z g hz hg => ?_⟩
  rw [e1] at hz; rw [e2] at hg; simp at hz hg; subst hz; subst hg
  exact ⟨h0, by simp, by simp, by simp⟩
theorem promos_ok {base : Nat} {w : World} {F : Nat → Prop} {v : Value} : ∀ {prs : List (Nat × Nat)} {cs cs' : List AV} {σ σ' : St} {γ : List Gh}, Inv tab w F σ γ → base ≤ σ.length → RS tab w F σ γ (.agg cs) v → promos prs cs σ = some (cs', σ') →
    ∃ γ', Step σ.length w σ γ w σ' γ' ∧ Inv tab w F σ' γ' ∧ RS tab w F σ' γ' (.agg cs') v ∧ Fr base σ σ'
  | [], cs, cs', σ, σ', γ, I, hb, hv, h => by
    simp [promos] at h; obtain ⟨rfl, rfl⟩ := h
    exact ⟨γ, Step.refl w γ (Nat.le_refl _), I, hv, Fr.refl _ _⟩
  | (i, sz) :: r, cs, cs', σ, σ', γ, I, hb, hv, h => by
    simp only [promos] at h
    split at h
    · rename_i hi
      split at h
      · rename_i h0
        obtain ⟨s1, I1⟩ := push_row I h0
        have hv0 := hv
        obtain ⟨us, rfl, ul, us1, us2⟩ := agg_open hv
        have hil : i < cs.length := (List.getElem?_eq_some_iff.1 hi).1
        have hu : us[i]? = some us[i] := List.getElem?_eq_getElem (by omega)
        obtain ⟨a, ha⟩ := nils_open (us2 i _ _ hi hu)
        have e1 : (σ ++ [Ob.arr 0 sz []])[σ.length]? = some (.arr 0 sz []) := by simp
        have e2 : (γ ++ [(⟨0, 0, 0⟩ : Gh)])[σ.length]? = some ⟨0, 0, 0⟩ := by rw [← I.len]; simp
        have hv1 : RS tab w F (σ ++ [Ob.arr 0 sz []]) (γ ++ [⟨0, 0, 0⟩]) (.agg (cs.set i (.osl σ.length 0 0 0 0))) (.agg us.toArray) := by
          refine .agg _ us (by simpa using ul) (fun j x hx => ?_) (fun j x u hx hu' => ?_)
          · rw [List.getElem?_set] at hx
            split at hx
            · rename_i e
              subst e
              simp at hx; subst hx; rfl
            · exact us1 j x hx
          · rw [List.getElem?_set] at hx
            split at hx
            · rename_i e
              subst e
              simp at hx; subst hx
              · rw [hu] at hu'; simp at hu'; subst hu'
                rw [ha]
                exact .osl _ _ _ _ _ _ ⟨_, _, _, rfl⟩ ⟨_, _, e1, e2, .inr ⟨rfl, by simp⟩, fun _ _ _ => ⟨a, rfl, fun h => by simp at h⟩⟩
            · have := us2 j x u hx hu'
              exact RV.step s1 this this.under
        obtain ⟨γ', s2, I2, hv2, f2⟩ := promos_ok (base := base) I1 (by simp; omega) hv1 h
        exact ⟨γ', s1.trans (s2.mono (by simp)), I2, hv2, (Fr.push hb _).trans f2⟩
      · exact absurd h (by simp)
    · exact absurd h (by simp)
theorem promos_len : ∀ {prs : List (Nat × Nat)} {cs cs' : List AV} {σ σ' : St}, promos prs cs σ = some (cs', σ') → σ.length ≤ σ'.length
  | [], cs, cs', σ, σ', h => by simp [promos] at h; obtain ⟨rfl, rfl⟩ := h; exact Nat.le_refl _
  | (i, sz) :: r, cs, cs', σ, σ', h => by
    simp only [promos] at h
    split at h
    · split at h
      · have := promos_len h; simp at this; omega
      · exact absurd h (by simp)
    · exact absurd h (by simp)
theorem allocp_ok {w : World} {F : Nat → Prop} {base : Nat} {σ σ' : St} {γ : List Gh} {t : TypeId} {zs cs : List AV} {prs : List (Nat × Nat)} (I : Inv tab w F σ γ) (hb : base ≤ σ.length) (hz : zeroB P t zs = true) (hp : promos prs zs σ = some (cs, σ')) :
    Done tab F base w σ γ ((do pure (Next.value (← Instr.alloc t true (.tuple #[]))) : Sem Next).run P w) (.ref σ'.length 0) (σ' ++ [.cells cs]) := by
  obtain ⟨z, hz, hc⟩ := run_zero (P := P) (w := w) hz
  obtain ⟨q1, q2, q3⟩ := constB_go tab (w := w) (S := Stab w F σ γ) hc
  have hv : RS tab w F σ γ (.agg zs) (.agg z.cells.toList.toArray) := .agg _ _ q1 q2 (fun j x v hx hv => .fz _ _ (q3 j x v hx hv))
  obtain ⟨γ2, s2, I2, hv2, f2⟩ := promos_ok (base := base) I hb hv hp
  have hl := promos_len hp
  obtain ⟨us, e, ul, us1, us2⟩ := agg_open hv2
  have e' : z.cells.toList = us := by have e0 : z.cells = us.toArray := by simpa using e
                                      rw [e0]
  subst e'
  obtain ⟨h1, h2, h3⟩ := new_push I2 (base := base) (by omega) (.cells z.cells t) (.cells cs) 0 fun st => by
    exact cells_obj (g := ⟨w.heap.size, 0, 0⟩) st (Array.getElem?_push_size) (by simpa using ul) us1 ((unders_iff _ _).2 fun j x hx => by
        obtain ⟨v, hv⟩ := get_of_len ul hx
        exact (us2 j x v hx hv).under) (fun j x v hx hv => us2 j x v hx (by simpa using hv))
  exact ⟨.pointer (some ⟨w.heap.size, 0, none⟩), _, _, .inl (by simp [Instr.alloc, hz, newVar, newRow]), s2.trans (h1.mono hl), h2, .ref σ'.length 0 ⟨w.heap.size, 0, 0⟩ cs (by simp) (by rw [← I2.len]; simp), f2.trans h3⟩
theorem mapArr {α β : Type} (A : Array α) (f : α → β) : (A.toList.map f).toArray = A.map f := by rw [← Array.toList_map]
theorem toArr {α : Type} {A : Array α} {l : List α} (h : A.toList = l) : A = l.toArray := by rw [← h]
theorem mapupd_all {base : Nat} {ag : Bool} {ks : List CK} {m k v : Opd} {env : Env} {σ σ' : St} {av : AV} {tt : Bool} {w : World} {F : Nat → Prop} {γ : List Gh} {t : TypeId} {a b c : Value} (I : Inv tab w F σ γ) (hB : mapB P t ag ks = true)
    (hx : RS tab w F σ γ (ev env m) a) (hk : RS tab w F σ γ (ev env k) b) (hv : RS tab w F σ γ (ev env v) c) (h : step base (.mapupd ag ks m k v) env σ = some (av, σ', tt)) :
    Done tab F base w σ γ ((do Instr.mapUpdate t a b c; pure Next.skip : Sem Next).run P w) av σ' := by
  simp only [step] at h
  split at h
  · rename_i o hev
    rw [hev] at hx
    split at h
    · rename_i es ho
      split at h
      · rename_i hko
        split at h
        · rename_i es' hp
          split at h
          · rename_i hst
            simp at h; obtain ⟨rfl, rfl, _⟩ := h
            exact mapupd_ok I hB hx hk hv ho hko hp hst
          · exact absurd h (by simp)
        · exact absurd h (by simp)
      · exact absurd h (by simp)
    · exact absurd h (by simp)
  · exact absurd h (by simp)
theorem op_sound {o : Oper} {ao : AOp} (hc : chkOp P tab o.op ao = true) {base : Nat} {env : Env} {σ σ' : St} {av : AV} {tt : Bool} (h : step base ao env σ = some (av, σ', tt))
    {a : Act} {w : World} {F : Nat → Prop} {γ : List Gh} (I : Inv tab w F σ γ) (E : EnvOk tab w F σ γ env a.tmps) (hb : base ≤ σ.length) : Done tab F base w σ γ ((execOp a.eval o).run P w) av σ' := by
  obtain ⟨dst, op, ty, pos, after, guard⟩ := o
  simp only [] at hc
  unfold chkOp at hc
  split at hc
  -- move, assign
  · simp [step] at h; obtain ⟨rfl, rfl, _⟩ := h
    exact done_same I (by simp [execOp]) (opd_ok E hc)
  · simp [step] at h; obtain ⟨rfl, rfl, _⟩ := h
    exact done_same I (by simp [execOp]) (opd_ok E hc)
  · rename_i x sz y
    exact movp_ok I hb (opd_ok E hc) h (by simp [execOp])
  · rename_i x sz y
    exact movp_ok I hb (opd_ok E hc) h (by simp [execOp])
  · -- pick
    simp only [Bool.and_eq_true] at hc
    obtain ⟨⟨h1, h2⟩, h3⟩ := hc
    simp only [step] at h
    split at h
    · rename_i b hbv
      simp at h; obtain ⟨rfl, rfl, _⟩ := h
      have := opd_ok E h1
      rw [hbv] at this
      exact pick_ok I this (opd_ok E h2) (opd_ok E h3)
    · exact absurd h (by simp)
  · -- alloc
    rename_i t zs prs
    simp only [step] at h
    rw [Option.map_eq_some_iff] at h
    obtain ⟨⟨cs, s'⟩, hpr, he⟩ := h
    simp at he; obtain ⟨rfl, rfl, _⟩ := he
    exact allocp_ok I hb hc hpr
  · -- box
    simp only [step] at h
    split at h
    · rename_i hcs
      split at h
      · split at h
        · rename_i hn
          simp at h; obtain ⟨rfl, rfl, _⟩ := h
          exact box_ro_ok I (opd_ok E hc) hcs.2 hn
        · exact absurd h (by simp)
      · simp at h; obtain ⟨rfl, rfl, _⟩ := h
        exact box_ok I hb (opd_ok E hc) hcs.2
    · exact absurd h (by simp)
  · -- build
    rename_i t ps zs qs
    simp only [Bool.and_eq_true] at hc
    obtain ⟨⟨h1, h2⟩, h3⟩ := hc
    split at h3
    · rename_i place hpl
      simp only [step] at h
      cases hf : fillParts env qs zs with
      | none => simp [hf] at h
      | some cs =>
        simp [hf] at h; obtain ⟨rfl, rfl, _⟩ := h
        have := build_ok (base := base) I E h1 h2 hpl h3 hf
        have e : (ps.toList.map fun (i, x) => (i, a.eval x)).toArray = ps.map fun (i, x) => (i, a.eval x) := mapArr _ _
        rw [e] at this
        exact this
    · exact absurd h3 (by simp)
  · -- buildp
    rename_i t ps zs qs prs
    simp only [Bool.and_eq_true] at hc
    obtain ⟨⟨h1, h2⟩, h3⟩ := hc
    split at h3
    · rename_i place hpl
      simp only [step] at h
      cases hf : fillParts env qs zs with
      | none => simp [hf] at h
      | some cs =>
        simp only [hf] at h
        rw [Option.map_eq_some_iff] at h
        obtain ⟨⟨cs', s'⟩, hpr, he⟩ := h
        simp at he; obtain ⟨rfl, rfl, _⟩ := he
        have := build_ok (base := base) I E h1 h2 hpl h3 hf
        have e : (ps.toList.map fun (i, x) => (i, a.eval x)).toArray = ps.map fun (i, x) => (i, a.eval x) := mapArr _ _
        rw [e] at this
        obtain ⟨v, w1, γ1, hr, hs, hI, hv, hfr⟩ := this
        obtain ⟨γ2, s2, I2, hv2, f2⟩ := promos_ok (base := base) hI hb hv hpr
        exact ⟨v, w1, γ2, hr, hs.trans s2, I2, hv2, hfr.trans f2⟩
    · exact absurd h3 (by simp)
  · -- buildSlice
    rename_i t len ps pr sz zs len' qs
    simp only [Bool.and_eq_true, beq_iff_eq] at hc
    obtain ⟨⟨rfl, h1⟩, h2⟩ := hc
    simp only [step] at h
    cases hf : fillParts env (litParts sz qs) (zerosN zs len) with
    | none => simp [hf] at h
    | some cs =>
      simp only [hf, Option.bind_some] at h
      cases he : frzElems (chop sz len cs) with
      | none => simp [he] at h
      | some es =>
        simp only [he] at h
        have e : (ps.toList.map fun (i, x) => (i, a.eval x)).toArray = ps.map fun (i, x) => (i, a.eval x) := mapArr _ _
        split at h
        · split at h
          · simp at h; obtain ⟨rfl, rfl, _⟩ := h
            have := lit_pr_ok (base := base) I hb E h1 h2 hf he
            rw [e] at this
            exact this
          · exact absurd h (by simp)
        · simp at h; obtain ⟨rfl, rfl, _⟩ := h
          have := lit_ok (base := base) I E h1 h2 hf he
          rw [e] at this
          exact this
  · -- load
    simp only [Bool.and_eq_true] at hc
    obtain ⟨⟨h1, h2⟩, h3⟩ := hc
    simp only [step] at h
    split at h
    · rename_i cs t hd
      cases hf : front _ _ cs with
      | none => rw [hf] at h; simp at h
      | some v =>
        rw [hf] at h; simp at h; obtain ⟨rfl, rfl, _⟩ := h
        exact load_ok I h1 h2 (opd_ok E h3) hd hf
    · exact absurd h (by simp)
  · -- store
    simp only [Bool.and_eq_true] at hc
    obtain ⟨⟨h1, h2⟩, h3⟩ := hc
    have hx := opd_ok E h2
    have hy := opd_ok E h3
    simp only [step] at h
    split at h
    · rename_i hcs
      split at h
      · rename_i o off hev
        rw [hev] at hx
        split at h
        · rename_i cs ho
          split at h
          · rename_i hst
            simp at h; obtain ⟨rfl, rfl, _⟩ := h
            exact store_ref_ok I h1 hx hy hcs.1 hcs.2 ho hst.1 hst.2
          · exact absurd h (by simp)
        · exact absurd h (by simp)
      · rename_i o ver n i off hev
        rw [hev] at hx
        split at h
        · rename_i ver' sz' es ho
          split at h
          · rename_i hv
            obtain ⟨rfl, hn⟩ := hv
            split at h
            · rename_i e he
              split at h
              · rename_i hle
                split at h
                · rename_i zs hz
                  simp at h; obtain ⟨rfl, rfl, _⟩ := h
                  exact store_eref_ok I h1 hx hy hcs.1 hcs.2 ho hn he hle hz
                · exact absurd h (by simp)
              · exact absurd h (by simp)
            · exact absurd h (by simp)
          · exact absurd h (by simp)
        · exact absurd h (by simp)
      · exact absurd h (by simp)
    · exact absurd h (by simp)
  · -- storep
    rename_i t x y sz x' y' prs
    simp only [Bool.and_eq_true] at hc
    obtain ⟨⟨h1, h2⟩, h3⟩ := hc
    have hx := opd_ok E h2
    have hy := opd_ok E h3
    simp only [step] at h
    split at h
    · rename_i ys hev
      rw [hev] at hy
      split at h
      · rename_i ys' σ2 hp
        obtain ⟨γ2, s2, I2, hv2, f2⟩ := promos_ok (base := base) I hb hy hp
        have hl := promos_len hp
        split at h
        · rename_i hcs
          split at h
          · rename_i o off hev2
            rw [hev2] at hx
            have hx2 := RV.step s2 hx hx.under
            split at h
            · rename_i cs ho
              split at h
              · rename_i hst
                simp at h; obtain ⟨rfl, rfl, _⟩ := h
                obtain ⟨v, w', γ', hr, hs, hI, hv, hfr⟩ := store_ref_ok I2 h1 hx2 hv2 (by exact hcs.1) (by exact hcs.2) ho hst.1 hst.2
                exact ⟨v, w', γ', hr, s2.trans (hs.mono hl), hI, hv, f2.trans hfr⟩
              · exact absurd h (by simp)
            · exact absurd h (by simp)
          · exact absurd h (by simp)
        · exact absurd h (by simp)
      · exact absurd h (by simp)
    · exact absurd h (by simp)
  · -- nilCheck
    rename_i x y
    have hx := opd_ok E hc
    simp only [step] at h
    split at h
    case h_5 => exact absurd h (by simp)
    all_goals
      rename_i hev
      simp at h; obtain ⟨rfl, rfl, _⟩ := h
      rw [hev] at hx
      exact nilchk_ok I rfl rfl hx rfl
  · -- binOp
    rename_i op xt x y yt op' kd x' y'
    simp only [Bool.and_eq_true, decide_eq_true_eq] at hc
    obtain ⟨⟨⟨rfl, h1⟩, h2⟩, h3⟩ := hc
    simp only [step] at h
    cases hb' : bin op kd (ev env x') (ev env y') with
    | none => simp [hb'] at h
    | some v =>
      simp [hb'] at h; obtain ⟨rfl, rfl, _⟩ := h
      exact bin_ok I h1 (opd_ok E h2) (opd_ok E h3) hb' x y
  · -- not
    rename_i op t x y
    simp only [Bool.and_eq_true, decide_eq_true_eq] at hc
    obtain ⟨rfl, h1⟩ := hc
    have hx := opd_ok E h1
    simp only [step] at h
    split at h
    · rename_i b hev
      simp at h; obtain ⟨rfl, rfl, _⟩ := h
      rw [hev] at hx
      exact not_ok I hx
    · exact absurd h (by simp)
  · -- convert
    rename_i s d x k y
    simp only [Bool.and_eq_true] at hc
    obtain ⟨⟨h1, h2⟩, h3⟩ := hc
    have hx := opd_ok E h3
    obtain ⟨ds, hds⟩ := Option.isSome_iff_exists.1 h1
    split at h2
    · rename_i k' hk
      have hk' : k' = k := by simpa using h2
      subst hk'
      simp only [step] at h
      split at h
      · rename_i k0 n hev
        simp at h; obtain ⟨rfl, rfl, _⟩ := h
        rw [hev] at hx
        exact convi_ok I hds hk hx
      · exact absurd h (by simp)
    · exact absurd h2 (by simp)
  · -- fieldAddr
    rename_i s x f off y
    simp only [Bool.and_eq_true] at hc
    obtain ⟨h1, h2⟩ := hc
    have hx := opd_ok E h2
    simp only [step] at h
    split at h
    · rename_i cs hev
      rw [hev] at hx
      split at h
      · rename_i hle
        simp at h; obtain ⟨rfl, rfl, _⟩ := h
        exact fld_ok I h1 hx (by simp [hle])
      · exact absurd h (by simp)
    · rename_i o g hev
      rw [hev] at hx
      simp at h; obtain ⟨rfl, rfl, _⟩ := h
      exact fld_ok I h1 hx rfl
    · rename_i o v n i g hev
      rw [hev] at hx
      simp at h; obtain ⟨rfl, rfl, _⟩ := h
      exact fld_ok I h1 hx rfl
    · exact absurd h (by simp)
  · -- field
    rename_i s x f ag off sz y
    simp only [Bool.and_eq_true] at hc
    obtain ⟨h1, h2⟩ := hc
    have hx := opd_ok E h2
    simp only [step] at h
    split at h
    · rename_i cs hev
      rw [hev] at hx
      cases hf : front ag sz (cs.drop off) with
      | none => simp [hf] at h
      | some v =>
        simp [hf] at h; obtain ⟨rfl, rfl, _⟩ := h
        exact field_ok I h1 hx hf
    · exact absurd h (by simp)
  · -- indexAddr of a slice
    rename_i t x i sz y j
    simp only [Bool.and_eq_true] at hc
    obtain ⟨⟨h1, h2⟩, h3⟩ := hc
    have hx := opd_ok E h2
    have hi := opd_ok E h3
    split at h1
    · rename_i e he
      have hu := elemB_ok he
      simp only [step] at h
      split at h
      · rename_i es k n hev hei
        rw [hev] at hx
        rw [hei] at hi
        split at h
        · rename_i h0
          split at h
          · rename_i el hel
            split at h
            · rename_i hl
              simp at h; obtain ⟨rfl, rfl, _⟩ := h
              exact idxa_sl I hu h1 hx hi h0 hel hl
            · exact absurd h (by simp)
          · exact absurd h (by simp)
        · exact absurd h (by simp)
      · rename_i o ver n off len k i' hev hei
        rw [hev] at hx
        rw [hei] at hi
        split at h
        · rename_i ver' sz' es ho
          split at h
          · rename_i hcnd
            obtain ⟨rfl, hn, rfl, h0, hl, hle⟩ := hcnd
            simp at h; obtain ⟨rfl, rfl, _⟩ := h
            exact idxa_osl I hu h1 hx hi h0 ho hn hl hle
          · exact absurd h (by simp)
        · exact absurd h (by simp)
      · exact absurd h (by simp)
    · exact absurd h1 (by simp)
  · -- indexAddr of an array
    rename_i t x i len sz y j
    simp only [Bool.and_eq_true] at hc
    obtain ⟨⟨h1, h2⟩, h3⟩ := hc
    have hx := opd_ok E h2
    have hi := opd_ok E h3
    simp only [step] at h
    split at h
    · rename_i cs k n hev hei
      rw [hev] at hx
      rw [hei] at hi
      split at h
      · rename_i hcnd
        simp at h; obtain ⟨rfl, rfl, _⟩ := h
        exact idxarr_ok I h1 hx hi (by simp [hcnd])
      · exact absurd h (by simp)
    · rename_i o f k n hev hei
      rw [hev] at hx
      rw [hei] at hi
      split at h
      · rename_i hcnd
        simp at h; obtain ⟨rfl, rfl, _⟩ := h
        exact idxarr_ok I h1 hx hi (by simp [hcnd])
      · exact absurd h (by simp)
    · exact absurd h (by simp)
  · -- index
    rename_i t x i y j
    simp only [Bool.and_eq_true] at hc
    obtain ⟨⟨h1, h2⟩, h3⟩ := hc
    have hx := opd_ok E h2
    have hi := opd_ok E h3
    split at h1
    · rename_i hu
      simp only [step] at h
      split at h
      · rename_i s k n hev hei
        rw [hev] at hx
        rw [hei] at hi
        split at h
        · rename_i h0
          split at h
          · rename_i b hbt
            simp at h; obtain ⟨rfl, rfl, _⟩ := h
            exact index_str I hu hx hi h0 hbt
          · exact absurd h (by simp)
        · exact absurd h (by simp)
      · exact absurd h (by simp)
    · exact absurd h1 (by simp)
  · -- extract
    rename_i x i y j
    simp only [Bool.and_eq_true, beq_iff_eq] at hc
    obtain ⟨rfl, h1⟩ := hc
    have hx := opd_ok E h1
    simp only [step] at h
    split at h
    · rename_i vs hev
      rw [hev] at hx
      cases hv : vs[i]? with
      | none => simp [hv] at h
      | some v =>
        simp [hv] at h; obtain ⟨rfl, rfl, _⟩ := h
        exact extract_ok I hx hv
    · exact absurd h (by simp)
  · -- slice of a slice
    rename_i t x lo hi mx sz y lo' hi' mx'
    simp only [Bool.and_eq_true] at hc
    obtain ⟨⟨⟨⟨⟨h1, h2⟩, h3⟩, h4⟩, h5⟩, h6⟩ := hc
    have hx := opd_ok E h2
    split at h1
    · rename_i e he
      have hu := elemB_ok he
      simp only [step] at h
      split at h
      · -- nil
        rename_i hev
        rw [hev] at hx
        obtain ⟨p, hp⟩ := nils_open hx
        split at h
        · rename_i hl1 hl2 hl3
          simp at h; obtain ⟨rfl, rfl, _⟩ := h
          have hres : (val (Instr.sliceAt t (a.eval x) (lo.map a.eval) (hi.map a.eval) (mx.map a.eval))).run P w = .ok (.value (.slice p 0 0)) w := by
            cases mx with
            | none =>
              have r := bounds_run (P := P) (sl := true) (cap := 0) E h3 h4 hl1 hl2 (Nat.le_refl _) (Nat.le_refl _)
              refine val_run ?_
              rw [hp, Option.map_none, slice_run hu h1 r]
              simp
            | some m =>
              cases mx' with
              | none => simp [chkO] at h5
              | some m' =>
                have r := bounds_run3 (P := P) (sl := true) (len := 0) (cap := 0) E h3 h4 (by simpa [chkO] using h5) (by simpa using h6) hl1 hl2 hl3 (Nat.le_refl _) (Nat.le_refl _) (Nat.le_refl _)
                refine val_run ?_
                rw [hp]
                rw [show (Option.map a.eval (some m)) = some (a.eval m) from rfl, slice_run hu h1 r]
                simp
          exact done_same I hres (.fz _ _ (.nils p))
        · exact absurd h (by simp)
      · rename_i es hev
        rw [hev] at hx
        obtain ⟨p, cap, hp, hcap⟩ := sl_open hx
        rw [hp] at hx
        split at h
        · rename_i l hh hl1 hl2
          split at h
          · rename_i hle
            obtain ⟨q1, q2, q3⟩ := hle
            split at h
            · rename_i hmx
              simp at h; obtain ⟨rfl, rfl, _⟩ := h
              cases mx with
              | some m => simp [chkO] at h5
              | none =>
                have r := bounds_run (P := P) (sl := true) (cap := cap) E h3 h4 hl1 hl2 q1 (by omega)
                exact done_same I (val_run (by rw [hp]; exact slice_run hu h1 r)) (slice_sl hx q3 q1 q2 (by omega))
            · rename_i m' hmx
              split at h
              · rename_i mv hmv
                split at h
                · rename_i hle2
                  simp at h; obtain ⟨rfl, rfl, _⟩ := h
                  cases mx with
                  | none => simp [chkO] at h5
                  | some m =>
                    have r := bounds_run3 (P := P) (sl := true) (len := es.length) (cap := cap) E h3 h4 (by simpa [chkO] using h5) (by simpa using h6) hl1 hl2 hmv q1 hle2.1 (by omega)
                    refine done_same I (val_run (by rw [hp]; exact slice_run hu h1 r)) ?_
                    by_cases hlm : l = mv
                    · subst hlm
                      have : hh = l := by omega
                      subst this
                      simp
                      exact .fz _ _ (.nils _)
                    · rw [if_neg hlm]
                      exact slice_sl hx q3 q1 q2 hle2.1
                · exact absurd h (by simp)
              · exact absurd h (by simp)
          · exact absurd h (by simp)
        · exact absurd h (by simp)
      · rename_i o ver n off len hev
        rw [hev] at hx
        split at h
        · rename_i ver' sz' es ho
          split at h
          · rename_i hcnd
            obtain ⟨rfl, hn, rfl, hle⟩ := hcnd
            split at h
            · rename_i l hh hl1 hl2
              split at h
              · rename_i hlh
                simp at h; obtain ⟨rfl, rfl, _⟩ := h
                cases mx with
                | some m => simp [chkO] at h5
                | none => exact slice_osl I hu h1 hx ho hn hle hlh.1 hlh.2 (fun cap hc => bounds_run (P := P) (sl := true) E h3 h4 hl1 hl2 hlh.1 hc)
              · exact absurd h (by simp)
            · exact absurd h (by simp)
          · exact absurd h (by simp)
        · exact absurd h (by simp)
      · exact absurd h (by simp)
    · exact absurd h1 (by simp)
  · -- slice of a string
    rename_i t x lo hi mx y lo' hi'
    simp only [Bool.and_eq_true] at hc
    obtain ⟨⟨⟨⟨h1, h2⟩, h3⟩, h4⟩, h5⟩ := hc
    have hx := opd_ok E h2
    split at h1
    · rename_i hu
      simp only [step] at h
      split at h
      · rename_i s hev
        rw [hev] at hx
        split at h
        · rename_i l hh hl1 hl2
          split at h
          · rename_i hle
            simp at h; obtain ⟨rfl, rfl, _⟩ := h
            cases mx with
            | some m => simp at h5
            | none => exact slice_str I E hu hx h3 h4 hl1 hl2 hle.1 hle.2
          · exact absurd h (by simp)
        · exact absurd h (by simp)
      · exact absurd h (by simp)
    · exact absurd h1 (by simp)
  · -- makeMap
    rename_i t r r'
    simp only [Bool.and_eq_true] at hc
    obtain ⟨h1, h2⟩ := hc
    obtain ⟨kt, e, hu⟩ : ∃ kt e, P.underlying t = some (.map kt e) := by
      split at h2
      · rename_i kt e hu; exact ⟨kt, e, hu⟩
      · exact absurd h2 (by simp)
    simp only [step] at h
    split at h
    · rename_i n hbd
      simp at h; obtain ⟨rfl, rfl, _⟩ := h
      refine mkmap_ok I hb fun v hv => ⟨?_, kt, e, hu⟩
      cases r with
      | none => simp at hv
      | some x =>
        simp at hv; subst hv
        cases r' with
        | none => simp [chkO] at h1
        | some x' =>
          have hx := opd_ok E (show chkOpd tab x x' = true from h1)
          simp only [bound] at hbd
          split at hbd
          · rename_i k i hev
            rw [hev] at hx
            exact ⟨k, i, int_eq hx⟩
          · exact absurd hbd (by simp)
    · exact absurd h (by simp)
  · -- lookup
    rename_i t x i ok ag ks z ok' y j
    simp only [Bool.and_eq_true, beq_iff_eq] at hc
    obtain ⟨⟨⟨⟨h1, h2⟩, rfl⟩, h3⟩, h4⟩ := hc
    simp only [step] at h
    split at h
    · rename_i es t' hm
      split at h
      · rename_i hk
        split at h
        · rename_i v hf
          simp at h; obtain ⟨rfl, rfl, _⟩ := h
          exact lookup_ok I h1 h2 (opd_ok E h3) (opd_ok E h4) hm hk hf ok
        · rename_i hf
          simp at h; obtain ⟨rfl, rfl, _⟩ := h
          exact lookup_ok I h1 h2 (opd_ok E h3) (opd_ok E h4) hm hk hf ok
        · exact absurd h (by simp)
      · exact absurd h (by simp)
    · exact absurd h (by simp)
  · -- mapUpdate
    simp only [Bool.and_eq_true] at hc
    obtain ⟨⟨⟨h1, h2⟩, h3⟩, h4⟩ := hc
    exact mapupd_all I h1 (opd_ok E h2) (opd_ok E h3) (opd_ok E h4) h
  · -- insert
    simp only [Bool.and_eq_true] at hc
    obtain ⟨⟨⟨h1, h2⟩, h3⟩, h4⟩ := hc
    exact mapupd_all I h1 (opd_ok E h2) (opd_ok E h3) (opd_ok E h4) h
  · -- bad
    simp [step] at h
  · -- tobytes
    rename_i sT d x y
    simp only [Bool.and_eq_true] at hc
    obtain ⟨h1, h2⟩ := hc
    have hx := opd_ok E h2
    simp only [step] at h
    split at h
    · rename_i s hev
      simp at h; obtain ⟨rfl, rfl, _⟩ := h
      rw [hev] at hx
      split at h1
      · rename_i e hs he
        split at h1
        · rename_i hu
          exact tobytes_ok I hs (elemB_ok he) hu hx
        · exact absurd h1 (by simp)
      · exact absurd h1 (by simp)
    · exact absurd h (by simp)
  · -- makeFunc
    rename_i g first caps f caps'
    simp only [Bool.and_eq_true, beq_iff_eq] at hc
    obtain ⟨⟨rfl, h1⟩, h2⟩ := hc
    have h1' : first = #[] := by simpa using h1
    subst h1'
    simp only [step] at h
    split at h
    · rename_i hs
      simp at h; obtain ⟨rfl, rfl, _⟩ := h
      have := mkfn_ok (P := P) (base := base) (f := f) I E h2 hs
      rw [mapArr] at this
      have e : execOp a.eval ⟨dst, .makeFunc (.func (tab f)) #[] caps, ty, pos, after, guard⟩ = val (Instr.makeFunc (.func (tab f)) #[] (caps.map a.eval)) := by simp [execOp, val]
      rw [e]
      exact this
    · exact absurd h (by simp)
  · -- len
    rename_i c str y
    split at hc
    · rename_i x t hca hcx hct
      simp only [Bool.and_eq_true] at hc
      obtain ⟨h1, h2⟩ := hc
      have hx := opd_ok E h1
      have hexec : execOp a.eval ⟨dst, .call c, ty, pos, after, guard⟩ = val (Builtin.len_ #[t] ty #[a.eval x]) := by
        have e1 := toArr hcx
        have e2 := toArr hct
        simp [execOp, resolve, hca, e1, e2, invoke, builtin, val]
      rw [hexec]
      simp only [step] at h
      split at h2
      · rename_i hu
        subst h2
        simp only [if_true] at h
        split at h
        · rename_i s hev
          simp at h; obtain ⟨rfl, rfl, _⟩ := h
          rw [hev] at hx
          exact len_str I hu hx
        · exact absurd h (by simp)
      · rename_i e hu
        simp at h2; subst h2
        simp only [Bool.false_eq_true, if_false] at h
        cases he : elems σ (ev env y) with
        | none => simp [he] at h
        | some r =>
          simp [he] at h; obtain ⟨rfl, rfl, _⟩ := h
          exact len_elems I hu hx he
      · exact absurd h2 (by simp)
    · exact absurd hc (by simp)
  · -- append
    rename_i c pr sz bytes y z
    split at hc
    · rename_i x x' t t' hca hcx hct
      simp only [Bool.and_eq_true] at hc
      obtain ⟨⟨h1, h2⟩, h3⟩ := hc
      have hx := opd_ok E h1
      have hy := opd_ok E h2
      have hexec : execOp a.eval ⟨dst, .call c, ty, pos, after, guard⟩ = val (Builtin.append_ #[t, t'] ty #[a.eval x, a.eval x']) := by
        have e1 := toArr hcx
        have e2 := toArr hct
        simp [execOp, resolve, hca, e1, e2, invoke, builtin, val]
      rw [hexec]
      simp only [step] at h
      split at h
      · exact absurd h (by simp)
      · rename_i ys tt' hys
        split at h
        · rename_i hsz
          obtain ⟨hsz, h0⟩ := hsz
          have hsrc : Src P tab w (Stab w F σ γ) sz (a.eval x') ys := by
            unfold srcOf at hys
            split at hys
            · rename_i s hev
              split at hys
              · rename_i h1s
                simp at hys; obtain ⟨rfl, _⟩ := hys
                subst h1s
                rw [hev] at hy
                rw [str_eq hy]
                exact src_str s
              · exact absurd hys (by simp)
            · exact src_elems I hy hys h0 hsz
          split at h
          · rename_i hev
            rw [hev] at hx
            split at h
            · rename_i hbb
              obtain ⟨q1, q2⟩ := append_nils (base := base) (ty := ty) I h3 hx hsrc h0 hsz hbb
              split at h
              · simp at h; obtain ⟨rfl, rfl, _⟩ := h
                exact q2 hb
              · simp at h; obtain ⟨rfl, rfl, _⟩ := h
                exact q1
            · exact absurd h (by simp)
          · rename_i o ver n off len hev
            rw [hev] at hx
            split at h
            · rename_i ver' sz' es ho
              split at h
              · rename_i hcnd
                obtain ⟨rfl, hn, rfl, hle, hbb⟩ := hcnd
                split at h
                · rename_i hfull
                  obtain ⟨rfl, rfl⟩ := hfull
                  simp at h; obtain ⟨rfl, rfl, _⟩ := h
                  exact append_osl I h3 hx ho hn hle hsrc hsz hbb (by rw [List.drop_zero, List.take_of_length_le (by omega)]) (.inl ⟨rfl, rfl, rfl⟩)
                · simp at h; obtain ⟨rfl, rfl, _⟩ := h
                  exact append_osl I h3 hx ho hn hle hsrc hsz hbb (by simp) (.inr rfl)
              · exact absurd h (by simp)
            · exact absurd h (by simp)
          · exact absurd h (by simp)
        · exact absurd h (by simp)
    · exact absurd hc (by simp)
  · -- clear
    rename_i c sz zs y
    split at hc
    · rename_i x t hca hcx hct
      simp only [Bool.and_eq_true] at hc
      obtain ⟨h1, h2⟩ := hc
      have hx := opd_ok E h1
      have hexec : execOp a.eval ⟨dst, .call c, ty, pos, after, guard⟩ = val (Builtin.clear_ #[t] ty #[a.eval x]) := by
        have e1 := toArr hcx
        have e2 := toArr hct
        simp [execOp, resolve, hca, e1, e2, invoke, builtin, val]
      rw [hexec]
      simp only [step] at h
      have none_ok : ∀ (a' : Option Addr) (cap : Nat), a.eval x = .slice a' 0 cap → Done tab F base w σ γ ((val (Builtin.clear_ #[t] ty #[a.eval x])).run P w) (.tup []) σ := by
        intro a' cap e
        rw [e]
        refine done_same I (val_run ?_) (.fz _ _ (.tup [] [] rfl (by simp)))
        have ht : ∃ e, P.underlying t = some (.slice e) := by
          unfold clearB at h2
          cases he : elemB P t with
          | none => simp [he] at h2
          | some e => exact ⟨e, elemB_ok he⟩
        obtain ⟨e, ht⟩ := ht
        simp only [Builtin.clear_, List.getElem?_toArray, List.getElem?_cons_zero, Sem.run_bind, run_underlying ht, Result.andThen_ok]
        cases a' <;> rfl
      split at h
      · rename_i hev
        simp at h; obtain ⟨rfl, rfl, _⟩ := h
        rw [hev] at hx
        obtain ⟨a', e⟩ := nils_open hx
        exact none_ok a' 0 e
      · rename_i hev
        simp at h; obtain ⟨rfl, rfl, _⟩ := h
        rw [hev] at hx
        obtain ⟨a', cap, e, _⟩ := sl_open hx
        exact none_ok a' cap e
      · rename_i o ver n off len hev
        rw [hev] at hx
        split at h
        · rename_i ver' sz' es ho
          split at h
          · rename_i hp
            obtain ⟨rfl, hn, rfl, hz, hle⟩ := hp
            split at h
            · rename_i z hf
              simp at h; obtain ⟨rfl, rfl, _⟩ := h
              have := clear_osl (base := base) (ty := ty) I h2 hx ho hn hz hle hf
              rw [List.append_assoc] at this
              exact this
            · exact absurd h (by simp)
          · exact absurd h (by simp)
        · exact absurd h (by simp)
      · exact absurd h (by simp)
    · exact absurd hc (by simp)
  · -- min
    rename_i c y z
    split at hc
    · rename_i x x' hca hcx
      simp only [Bool.and_eq_true] at hc
      obtain ⟨h1, h2⟩ := hc
      have hx := opd_ok E h1
      have hy := opd_ok E h2
      have hexec : execOp a.eval ⟨dst, .call c, ty, pos, after, guard⟩ = val (Builtin.min_ c.argTypes ty #[a.eval x, a.eval x']) := by
        have e1 := toArr hcx
        simp [execOp, resolve, hca, e1, invoke, builtin, val]
      rw [hexec]
      simp only [step] at h
      split at h
      · rename_i k n k' n' hev hev'
        split at h
        · rename_i e
          subst e
          simp at h; obtain ⟨rfl, rfl, _⟩ := h
          rw [hev] at hx
          rw [hev'] at hy
          exact (minmax_ok I hx hy).1
        · exact absurd h (by simp)
      · exact absurd h (by simp)
    · exact absurd hc (by simp)
  · -- max
    rename_i c y z
    split at hc
    · rename_i x x' hca hcx
      simp only [Bool.and_eq_true] at hc
      obtain ⟨h1, h2⟩ := hc
      have hx := opd_ok E h1
      have hy := opd_ok E h2
      have hexec : execOp a.eval ⟨dst, .call c, ty, pos, after, guard⟩ = val (Builtin.max_ c.argTypes ty #[a.eval x, a.eval x']) := by
        have e1 := toArr hcx
        simp [execOp, resolve, hca, e1, invoke, builtin, val]
      rw [hexec]
      simp only [step] at h
      split at h
      · rename_i k n k' n' hev hev'
        split at h
        · rename_i e
          subst e
          simp at h; obtain ⟨rfl, rfl, _⟩ := h
          rw [hev] at hx
          rw [hev'] at hy
          exact (minmax_ok I hx hy).2
        · exact absurd h (by simp)
      · exact absurd h (by simp)
    · exact absurd hc (by simp)
  · exact absurd hc (by simp)
theorem slot_shape {base : Nat} {op : AOp} {env : Env} {σ σ1 : St} {v : AV} {t : Bool} (hs : slotable op = true) (h : step base op env σ = some (v, σ1, t)) (hl : σ1.length ≠ σ.length) :
    ∃ ob, σ1 = σ ++ [ob] ∧ (v = .ref σ.length 0 ∨ ∃ n, v = .osl σ.length 0 n 0 n) := by
  cases op <;> simp only [slotable] at hs <;> first | (exact absurd hs (by decide)) | skip
  case alloc zs prs =>
    have : prs = [] := by simpa using hs
    subst this
    simp only [step, promos, Option.map_some, Option.some.injEq, Prod.mk.injEq] at h
    obtain ⟨rfl, rfl, _⟩ := h
    exact ⟨_, rfl, .inl rfl⟩
  case box ro sz x =>
    have : ro = false := by simpa using hs
    subst this
    simp only [step] at h
    split at h
    · simp at h; obtain ⟨rfl, rfl, _⟩ := h
      exact ⟨_, rfl, .inl rfl⟩
    · exact absurd h (by simp)
  case lit pr sz zs len ps =>
    subst hs
    simp only [step] at h
    split at h
    · simp only [if_true] at h
      split at h
      · simp at h; obtain ⟨rfl, rfl, _⟩ := h
        exact ⟨_, rfl, .inr ⟨_, rfl⟩⟩
      · exact absurd h (by simp)
    · exact absurd h (by simp)
  case append pr sz bytes x y =>
    subst hs
    simp only [step] at h
    split at h
    · exact absurd h (by simp)
    · split at h
      · split at h
        · split at h
          · simp at h; obtain ⟨rfl, rfl, _⟩ := h
            exact ⟨_, rfl, .inr ⟨_, rfl⟩⟩
          · exact absurd h (by simp)
        · split at h
          · split at h
            · split at h
              · simp at h; obtain ⟨rfl, rfl, _⟩ := h
                simp at hl
              · simp at h; obtain ⟨rfl, rfl, _⟩ := h
                simp at hl
            · exact absurd h (by simp)
          · exact absurd h (by simp)
        · exact absurd h (by simp)
      · exact absurd h (by simp)
  case movp sz x =>
    simp only [step] at h
    split at h
    · split at h
      · simp at h; obtain ⟨rfl, rfl, _⟩ := h
        exact ⟨_, rfl, .inr ⟨_, rfl⟩⟩
      · exact absurd h (by simp)
    · exact absurd h (by simp)
theorem slot_done {base d : Nat} {op : AOp} {env : Env} {σ σ1 σ' : St} {v x : AV} {t t' : Bool} {w : World} {F : Nat → Prop} {γ : List Gh} {r : Result Next} (I : Inv tab w F σ γ) (hs : slotable op = true) (hst : step base op env σ = some (v, σ1, t))
    (D : Done tab F base w σ γ r v σ1) (hf : fillAt base d σ (some (v, σ1, t)) = some (x, σ', t')) : Done tab F base w σ γ r x σ' := by
  simp only [fillAt] at hf
  split at hf
  · simp at hf; obtain ⟨rfl, rfl, _⟩ := hf; exact D
  · rename_i hl
    obtain ⟨ob, rfl, hv⟩ := slot_shape hs hst hl
    have e1 : (σ ++ [ob])[σ.length]? = some ob := by simp
    rw [e1] at hf
    cases hk : σ[σ.length - d]? with
    | none => rw [hk] at hf; simp at hf
    | some ob2 =>
      rw [hk] at hf
      cases ob2 with
      | res =>
        simp only [] at hf
        split at hf
        · rename_i hu
          obtain ⟨hbk, hu⟩ := hu
          obtain ⟨val, w', γ', hr, st, J, hx, fr⟩ := D
          have hkl : σ.length - d < σ.length := lt_of_get hk
          generalize hkd : σ.length - d = k at *
          have hgl : γ'.length = σ.length + 1 := by rw [J.len]; simp
          obtain ⟨g, hg⟩ : ∃ g, γ'[σ.length]? = some g := ⟨γ'[σ.length]'(by omega), List.getElem?_eq_getElem (by omega)⟩
          have q1 : ∀ o, o ≠ k → (σ.set k ob)[o]? = σ[o]? := fun o ho => by rw [List.getElem?_set]; simp [Ne.symm ho]
          have q2 : (σ.set k ob)[k]? = some ob := by rw [List.getElem?_set]; simp [hkl]
          have q3 : ∀ o, o ≠ k → o < σ.length → ((γ'.take σ.length).set k g)[o]? = γ'[o]? := fun o ho hl => by
            rw [List.getElem?_set]; simp [Ne.symm ho, hl]
          have q4 : ((γ'.take σ.length).set k g)[k]? = some g := by
            rw [List.getElem?_set]; simp [hkl, hgl]
          have q5 : ((γ'.take σ.length).set k g).length = σ.length := by simp [hgl]
          have q6 : ∀ o, o < σ.length → (σ ++ [ob])[o]? = σ[o]? := fun o ho => List.getElem?_append_left ho
          have hown : ∀ b, Owned (σ.set k ob) ((γ'.take σ.length).set k g) b → Owned (σ ++ [ob]) γ' b := by
            rintro b ⟨o, x, g0, h1, h2, h3, h4⟩
            by_cases ho : o = k
            · subst ho
              rw [q2] at h1; rw [q4] at h2
              simp at h1 h2; subst h1; subst h2
              exact ⟨σ.length, _, _, e1, hg, h3, h4⟩
            · rw [q1 o ho] at h1
              have hol := lt_of_get h1
              rw [q3 o ho hol] at h2
              exact ⟨o, x, g0, by rw [q6 o hol]; exact h1, h2, h3, h4⟩
          have st2 : Step σ.length w' (σ ++ [ob]) γ' w' (σ.set k ob) ((γ'.take σ.length).set k g) := by
            refine ⟨rfl, rfl, rfl, Nat.le_refl _, fun b hb hn => ⟨rfl, fun h => hn (hown b h)⟩, by simp, by simp, fun o x g0 ho hx hg0 => ?_⟩
            rw [q6 o ho] at hx
            by_cases hok : o = k
            · subst hok
              rw [hk] at hx; simp at hx; subst hx
              exact ⟨ob, g, q2, q4, .res _ _ _⟩
            · exact ⟨x, g0, by rw [q1 o hok]; exact hx, by rw [q3 o hok ho]; exact hg0, ObStep.refl _ _⟩
          have J2 : Inv tab w' F (σ.set k ob) ((γ'.take σ.length).set k g) := by
            have phi : ∀ (o : Nat) (x : Ob) (g0 : Gh), (σ.set k ob)[o]? = some x → ((γ'.take σ.length).set k g)[o]? = some g0 → ∃ o', (σ ++ [ob])[o']? = some x ∧ γ'[o']? = some g0 ∧ (o = k ∧ o' = σ.length ∨ o ≠ k ∧ o' = o ∧ o < σ.length) := by
              intro o x g0 h1 h2
              by_cases ho : o = k
              · subst ho
                rw [q2] at h1; rw [q4] at h2
                simp at h1 h2; subst h1; subst h2
                exact ⟨σ.length, e1, hg, .inl ⟨rfl, rfl⟩⟩
              · rw [q1 o ho] at h1
                have hol := lt_of_get h1
                rw [q3 o ho hol] at h2
                exact ⟨o, by rw [q6 o hol]; exact h1, h2, .inr ⟨ho, rfl, hol⟩⟩
            refine ⟨by rw [q5]; simp, J.fsz, fun o x g0 h1 h2 => ?_, fun o x g0 h1 h2 h3 => ?_, fun o o' x x' g0 g0' h1 h2 h3 h4 h5 h6 h7 => ?_⟩
            · obtain ⟨o', p1, p2, p3⟩ := phi o x g0 h1 h2
              refine ObOk.step st2 (J.ok o' x g0 p1 p2) ?_ (fun _ => rfl)
              rcases p3 with ⟨_, rfl⟩ | ⟨ho, rfl, hol⟩
              · rw [e1] at p1; simp at p1; subst p1; exact hu
              · rw [q6 o' hol] at p1
                obtain ⟨g1, hg1⟩ : ∃ g1, γ[o']? = some g1 := ⟨γ[o']'(by rw [I.len]; exact hol), List.getElem?_eq_getElem (by rw [I.len]; exact hol)⟩
                exact (I.ok o' x g1 p1 hg1).under
            · obtain ⟨o', p1, p2, _⟩ := phi o x g0 h1 h2
              exact J.own o' x g0 p1 p2 h3
            · obtain ⟨a, p1, p2, p3⟩ := phi o x g0 h1 h2
              obtain ⟨b, r1, r2, r3⟩ := phi o' x' g0' h4 h5
              have := J.inj a b x x' g0 g0' p1 p2 h3 r1 r2 h6 h7
              rcases p3 with ⟨rfl, rfl⟩ | ⟨_, rfl, _⟩ <;> rcases r3 with ⟨rfl, rfl⟩ | ⟨_, rfl, _⟩ <;> first | rfl | omega
          have fr2 : Fr base σ (σ.set k ob) := fun b hb hF o x ho hx => by
            rw [q1 o (by omega)] at hx
            exact hF o x ho hx
          rcases hv with rfl | ⟨n, rfl⟩
          · simp at hf; obtain ⟨rfl, rfl, _⟩ := hf
            refine ⟨val, w', _, hr, st.trans st2, J2, ?_, fr2⟩
            cases hx with
            | fz _ _ h => cases h
            | ref o off g0 cs h1 h2 =>
              rw [e1] at h1; simp at h1; subst h1
              rw [hg] at h2; simp at h2; subst h2
              exact .ref k 0 g cs q2 q4
          · simp at hf; obtain ⟨rfl, rfl, _⟩ := hf
            refine ⟨val, w', _, hr, st.trans st2, J2, ?_, fr2⟩
            cases hx with
            | fz _ _ h => cases h
            | osl o ver n' off len _ hv h =>
              obtain ⟨y, g0, h1, h2, h3⟩ := h
              rw [e1] at h1; simp at h1; subst h1
              rw [hg] at h2; simp at h2; subst h2
              exact .osl k 0 n 0 n _ hv ⟨ob, g, q2, q4, h3⟩
        · exact absurd hf (by simp)
      | _ => simp at hf
end
end Go.Den
