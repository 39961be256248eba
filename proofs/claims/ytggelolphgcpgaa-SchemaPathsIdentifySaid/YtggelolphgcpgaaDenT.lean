/- Regions whose order is drawn: what an operation depends on. -/
import Derived.Test.YtggelolphgcpgaaDenS
import Derived.Orders
namespace Go.Den
open Go

def opdT : Opd → List Nat
  | .t n => [n]
  | .c _ => []
def opdsT : List Opd → List Nat
  | [] => []
  | x :: r => opdT x ++ opdsT r
def optT : Option Opd → List Nat
  | none => []
  | some x => opdT x
def partsT : List (Nat × Nat × Opd) → List Nat
  | [] => []
  | (_, _, x) :: r => opdT x ++ partsT r
def litsT : List (Nat × Opd) → List Nat
  | [] => []
  | (_, x) :: r => opdT x ++ litsT r
/-- The slots that an operation reads. -/
def opT : AOp → List Nat
  | .mov x | .movp _ x | .box _ _ x | .load _ _ x | .nilchk x | .not x | .convi _ x | .fld _ x | .field _ _ _ x | .extract x _ | .len _ x | .clear _ _ x | .tobytes x => opdT x
  | .pick c a b => opdT c ++ opdT a ++ opdT b
  | .alloc _ _ | .bad => []
  | .mkmap r => optT r
  | .build _ ps => partsT ps
  | .buildp _ ps _ => partsT ps
  | .lit _ _ _ _ ps => litsT ps
  | .storep _ x y _ => opdT x ++ opdT y
  | .store _ x y | .bin _ _ x y | .idxa _ x y | .idxarr _ _ x y | .index x y | .append _ _ _ x y | .min x y | .max x y | .lookup _ _ _ _ x y => opdT x ++ opdT y
  | .slice _ x lo hi mx => opdT x ++ optT lo ++ optT hi ++ optT mx
  | .sstr x lo hi => opdT x ++ optT lo ++ optT hi
  | .mkfn _ cs => opdsT cs
  | .mapupd _ _ m k v => opdT m ++ opdT k ++ opdT v
  | .call _ _ args => opdsT args
  | .callv x args => opdT x ++ opdsT args
  | .slot _ op => opT op
  | .movf x => opdT x
theorem ev_congr {e e' : Env} {x : Opd} (h : ∀ t ∈ opdT x, e.get t = e'.get t) : ev e x = ev e' x := by
  cases x with
  | t n => exact h n (by simp [opdT])
  | c v => rfl
theorem evs_congr {e e' : Env} : ∀ {xs : List Opd}, (∀ t ∈ opdsT xs, e.get t = e'.get t) → evs e xs = evs e' xs
  | [], _ => rfl
  | x :: r, h => by
    simp only [evs]
    rw [ev_congr fun t ht => h t (by simp [opdsT, ht]), evs_congr fun t ht => h t (by simp [opdsT, ht])]
theorem bound_congr {e e' : Env} {x : Option Opd} (h : ∀ t ∈ optT x, e.get t = e'.get t) (d : Nat) : bound e d x = bound e' d x := by
  cases x with
  | none => rfl
  | some x => simp only [bound]; rw [ev_congr h]
theorem fill_parts_congr {e e' : Env} : ∀ {ps : List (Nat × Nat × Opd)} {zs : List AV}, (∀ t ∈ partsT ps, e.get t = e'.get t) → fillParts e ps zs = fillParts e' ps zs
  | [], _, _ => rfl
  | (off, size, x) :: r, zs, h => by
    simp only [fillParts]
    rw [ev_congr fun t ht => h t (by simp [partsT, ht])]
    split
    · exact fill_parts_congr fun t ht => h t (by simp [partsT, ht])
    · rfl
theorem litT_parts (sz : Nat) : ∀ ps : List (Nat × Opd), partsT (litParts sz ps) = litsT ps
  | [] => rfl
  | (i, x) :: r => by simp [litParts, partsT, litsT, litT_parts sz r]
theorem stepC_congr {call : CallF} {base : Nat} : ∀ {op : AOp} {e e' : Env} (_ : ∀ t ∈ opT op, e.get t = e'.get t) (σ : St), stepC call base op e σ = stepC call base op e' σ := by
  intro op e e' h σ
  cases op <;> simp only [opT, List.mem_append] at h <;> simp only [stepC, step]
  case slot d op =>
    have : step base op e σ = step base op e' σ := by
      cases op <;> first | rfl | exact stepC_congr (call := call) (base := base) h σ
    show fillAt base d σ (step base op e σ) = fillAt base d σ (step base op e' σ)
    rw [this]
  case movf x => rw [ev_congr h]
  case clear sz zs x => rw [ev_congr h]
  case tobytes x => rw [ev_congr h]
  case mov x => rw [ev_congr h]
  case movp sz x => rw [ev_congr h]
  case pick c a b => rw [ev_congr fun t ht => h t (.inl (.inl ht)), ev_congr fun t ht => h t (.inl (.inr ht)), ev_congr fun t ht => h t (.inr ht)]
  case box ro sz x => rw [ev_congr h]
  case build zs ps => rw [fill_parts_congr h]
  case buildp zs ps prs => rw [fill_parts_congr h]
  case lit pr sz zs len ps => rw [fill_parts_congr (by rw [litT_parts]; exact h)]
  case load ag sz x => rw [ev_congr h]
  case storep sz x y prs => rw [ev_congr fun t ht => h t (.inl ht), ev_congr fun t ht => h t (.inr ht)]
  case store sz x y => rw [ev_congr fun t ht => h t (.inl ht), ev_congr fun t ht => h t (.inr ht)]
  case nilchk x => rw [ev_congr h]
  case bin op kd x y => rw [ev_congr fun t ht => h t (.inl ht), ev_congr fun t ht => h t (.inr ht)]
  case not x => rw [ev_congr h]
  case convi k x => rw [ev_congr h]
  case fld off x => rw [ev_congr h]
  case field ag off sz x => rw [ev_congr h]
  case idxa sz x y => rw [ev_congr fun t ht => h t (.inl ht), ev_congr fun t ht => h t (.inr ht)]
  case idxarr len sz x y => rw [ev_congr fun t ht => h t (.inl ht), ev_congr fun t ht => h t (.inr ht)]
  case index x y => rw [ev_congr fun t ht => h t (.inl ht), ev_congr fun t ht => h t (.inr ht)]
  case extract x i => rw [ev_congr h]
  case len str x => rw [ev_congr h]
  case append pr sz bytes x y => rw [ev_congr fun t ht => h t (.inl ht), ev_congr fun t ht => h t (.inr ht)]
  case slice sz x lo hi mx =>
    have hmx : ∀ t ∈ optT mx, e.get t = e'.get t := fun t ht => h t (.inr ht)
    rw [ev_congr fun t ht => h t (.inl (.inl (.inl ht)))]
    have h1 := fun d => bound_congr (e := e) (e' := e') (x := lo) (fun t ht => h t (.inl (.inl (.inr ht)))) d
    have h2 := fun d => bound_congr (e := e) (e' := e') (x := hi) (fun t ht => h t (.inl (.inr ht))) d
    have h3 := fun d => bound_congr (e := e) (e' := e') (x := mx) hmx d
    cases mx with
    | none => simp only [h1, h2, h3]
    | some m => simp only [h1, h2, h3]
  case sstr x lo hi =>
    rw [ev_congr fun t ht => h t (.inl (.inl ht))]
    have h1 := fun d => bound_congr (e := e) (e' := e') (x := lo) (fun t ht => h t (.inl (.inr ht))) d
    have h2 := fun d => bound_congr (e := e) (e' := e') (x := hi) (fun t ht => h t (.inr ht)) d
    simp only [h1, h2]
  case min x y => rw [ev_congr fun t ht => h t (.inl ht), ev_congr fun t ht => h t (.inr ht)]
  case max x y => rw [ev_congr fun t ht => h t (.inl ht), ev_congr fun t ht => h t (.inr ht)]
  case mkfn f cs => rw [evs_congr h]
  case mkmap r => rw [bound_congr h]
  case lookup ag ks zero ok x y => rw [ev_congr fun t ht => h t (.inl ht), ev_congr fun t ht => h t (.inr ht)]
  case mapupd ag ks m k v => rw [ev_congr fun t ht => h t (.inl (.inl ht)), ev_congr fun t ht => h t (.inl (.inr ht)), ev_congr fun t ht => h t (.inr ht)]
  case call mode f args => rw [evs_congr h]
  case callv x args => rw [ev_congr fun t ht => h t (.inl ht), evs_congr fun t ht => h t (.inr ht)]
theorem deref_free {σ σ' : St} {x : AV} {cs : List AV} (h : deref σ x = some (cs, false)) : deref σ' x = some (cs, false) := by
  cases x with
  | rptr c => simpa [deref] using h
  | ref o off => simp only [deref] at h; split at h <;> simp at h
  | eref o ver n i off =>
    simp only [deref] at h
    split at h
    · split at h
      · split at h <;> simp at h
      · exact absurd h (by simp)
    · exact absurd h (by simp)
  | _ => simp [deref] at h
theorem elems_free {σ σ' : St} {x : AV} {es : List (List AV)} (h : elems σ x = some (es, false)) : elems σ' x = some (es, false) := by
  cases x with
  | nils => simpa [elems] using h
  | nil0 => simpa [elems] using h
  | nne => simpa [elems] using h
  | sl e => simpa [elems] using h
  | osl o ver n off len =>
    simp only [elems] at h
    split at h
    · split at h <;> simp at h
    · exact absurd h (by simp)
  | _ => simp [elems] at h
theorem srcOf_free {σ σ' : St} {sz : Nat} {x : AV} {es : List (List AV)} (h : srcOf σ sz x = some (es, false)) : srcOf σ' sz x = some (es, false) := by
  cases x with
  | osl o ver n off len =>
    have h' : elems σ (.osl o ver n off len) = some (es, false) := h
    exact elems_free h'
  | _ => exact h
theorem mapOf_free {σ σ' : St} {x : AV} {es : List (AV × AV)} (h : mapOf σ x = some (es, false)) : mapOf σ' x = some (es, false) := by
  cases x with
  | nilmap => exact h
  | fmap es => simpa [mapOf] using h
  | mapr o => simp only [mapOf] at h; split at h <;> simp at h
  | _ => simp [mapOf] at h
theorem frz_at {σ : St} : ∀ {x y : AV}, frz σ x = some y → ∀ τ : St, (∀ o ∈ oslIn x, τ[o]? = σ[o]?) → frz τ x = some y
  | .osl o ver n off len, y, h, τ, he => by
    simp only [frz, elems] at h ⊢
    rw [he o (by simp [oslIn])]; exact h
  | .agg cs, y, h, τ, he => by
    simp only [frz] at h ⊢
    cases hc : frz.frzs σ cs with
    | none => simp [hc] at h
    | some ds => rw [go cs hc τ he]; rw [hc] at h; exact h
  | .tup cs, y, h, τ, he => by
    simp only [frz] at h ⊢
    cases hc : frz.frzs σ cs with
    | none => simp [hc] at h
    | some ds => rw [go cs hc τ he]; rw [hc] at h; exact h
  | .int .., _, h, _, _ | .bool _, _, h, _, _ | .str _, _, h, _, _ | .nilp, _, h, _, _ | .rptr _, _, h, _, _ | .ref .., _, h, _, _ | .eref .., _, h, _, _ | .nils, _, h, _, _ | .sl _, _, h, _, _ | .fn .., _, h, _, _ | .nilfn, _, h, _, _ | .mapr _, _, h, _, _ | .nilmap, _, h, _, _ | .fmap _, _, h, _, _ | .iface .., _, h, _, _ | .nilif, _, h, _, _ | .nil0, _, h, _, _ | .nne, _, h, _, _ | .dead, _, h, _, _ => h
where go : ∀ (cs : List AV) {ds : List AV}, frz.frzs σ cs = some ds → ∀ τ : St, (∀ o ∈ oslIns cs, τ[o]? = σ[o]?) → frz.frzs τ cs = some ds
  | [], _, h, _, _ => h
  | x :: r, ds, h, τ, he => by
    simp only [frz.frzs] at h ⊢
    split at h
    · rename_i a b h1 h2
      rw [frz_at h1 τ fun o ho => he o (by simp [oslIns, oslIn.oslIns, ho]), go r h2 τ fun o ho => he o (by simp only [oslIns, oslIn.oslIns, List.mem_append]; exact .inr ho)]
      exact h
    · exact absurd h (by simp)
theorem frzs_at {σ : St} {xs ys : List AV} (h : frzs σ xs = some ys) (τ : St) (he : ∀ o ∈ oslIns xs, τ[o]? = σ[o]?) : frzs τ xs = some ys := frz_at.go xs h τ he
/-- An operation that touches no object leaves them, and does not look at them. -/
theorem stepC_free {call : CallF} {base : Nat} {op : AOp} {e : Env} {σ σ' : St} {x : AV} (h : stepC call base op e σ = some (x, σ', false)) : σ' = σ ∧ ∀ τ, stepC call base op e τ = some (x, τ, false) := by
  have co : ∀ {mode f : Nat} {args : List AV}, callOp call mode f args σ = some (x, σ', false) → σ' = σ ∧ ∀ τ, callOp call mode f args τ = some (x, τ, false) := by
    intro mode f args h
    rw [callOp_bind] at h
    simp only [callOp_bind]
    split at h
    · rename_i hm
      simp only [Option.bind_some] at h
      split at h
      · rename_i hn
        cases hq : call f args [] with
        | none => simp [hq] at h
        | some q =>
          rw [hq] at h
          simp only [Option.bind_some] at h
          split at h
          · rename_i hne
            simp at h; obtain ⟨rfl, rfl, _⟩ := h
            refine ⟨rfl, fun τ => ?_⟩
            rw [if_pos hm]
            simp only [Option.bind_some, if_pos hn, hq, if_pos hne]
            simp [hm]
          · exact absurd h (by simp)
      · cases hq : call f args σ with
        | none => simp [hq] at h
        | some q => rw [hq] at h; exact absurd h (by simp)
    · rename_i hm
      split at h
      · rename_i hm2
        cases hfz : frzs σ args with
        | none => simp [hfz] at h
        | some as =>
          rw [hfz] at h
          simp only [Option.map_some, Option.bind_some] at h
          split at h
          · cases hq : call f as [] with
            | none => simp [hq] at h
            | some q =>
              rw [hq] at h
              simp only [Option.bind_some] at h
              split at h
              · simp [hm2] at h
              · exact absurd h (by simp)
          · cases hq : call f as (kills σ args) with
            | none => simp [hq] at h
            | some q => rw [hq] at h; exact absurd h (by simp)
      · rename_i hm2
        simp only [Option.bind_some] at h
        split at h
        · rename_i hn
          cases hq : call f (norms args) [] with
          | none => simp [hq] at h
          | some q =>
            rw [hq] at h
            simp only [Option.bind_some] at h
            split at h
            · rename_i hne
              simp at h; obtain ⟨rfl, rfl, _⟩ := h
              refine ⟨rfl, fun τ => ?_⟩
              rw [if_neg hm, if_neg hm2]
              simp only [Option.bind_some, if_pos hn, hq, if_pos hne]
              simp [hm2]
            · exact absurd h (by simp)
        · cases hq : call f (norms args) σ with
          | none => simp [hq] at h
          | some q => rw [hq] at h; exact absurd h (by simp)
  cases op
  case slot d op =>
    simp only [stepC] at h
    cases hs : step base op e σ with
    | none => rw [hs] at h; simp [fillAt] at h
    | some q =>
      rw [hs] at h
      simp only [fillAt] at h
      repeat' (split at h)
      all_goals first | (simp at h; done) | skip
  case call mode f args =>
    simp only [stepC, callX] at h ⊢
    split at h
    · rename_i hm
      unfold viewOp at h ⊢
      split at h
      case isFalse => exact absurd h (by simp)
      rename_i hlen
      simp only [if_pos hm, if_pos hlen]
      cases hd : frzs σ (evs e args) with
      | none => simp [hd] at h
      | some as =>
        rw [hd] at h
        simp only [Option.bind_some] at h
        split at h
        · rename_i hn
          cases hc : call f as [] with
          | none => simp [hc] at h
          | some q =>
            rw [hc] at h
            simp only [Option.bind_some] at h
            split at h
            · rename_i hb
              simp at h; obtain ⟨rfl, rfl, he⟩ := h
              refine ⟨rfl, fun τ => ?_⟩
              rw [frzs_at hd τ fun o ho => by rw [he] at ho; simp at ho]
              simp only [Option.bind_some, if_pos hn, hc, if_pos hb]
              simp [he]
            · exact absurd h (by simp)
        · exact absurd h (by simp)
    · rename_i hm
      simp only [if_neg hm]
      exact co h
  case callv y args =>
    simp only [stepC] at h ⊢
    split at h
    · exact co h
    · exact absurd h (by simp)
  case load ag sz y =>
    simp only [stepC, step] at h ⊢
    cases hd : deref σ (ev e y) with
    | none => simp [hd] at h
    | some p =>
      obtain ⟨cs, t⟩ := p
      rw [hd] at h
      simp only [] at h
      obtain ⟨v, hv, he⟩ := Option.map_eq_some_iff.1 h
      simp at he; obtain ⟨rfl, rfl, rfl⟩ := he
      refine ⟨rfl, fun τ => ?_⟩
      rw [deref_free hd]
      simp [hv]
  case len str y =>
    simp only [stepC, step] at h ⊢
    split at h
    · rename_i hs
      split at h
      · rename_i s hev
        simp at h; obtain ⟨rfl, rfl⟩ := h
        exact ⟨rfl, fun τ => by simp [hs]⟩
      · exact absurd h (by simp)
    · rename_i hs
      obtain ⟨r, hr, he⟩ := Option.map_eq_some_iff.1 h
      simp at he; obtain ⟨rfl, rfl, hr2⟩ := he
      obtain ⟨es, t⟩ := r
      simp at hr2; subst hr2
      exact ⟨rfl, fun τ => by rw [if_neg hs, elems_free hr]; rfl⟩
  case append pr sz bytes y z =>
    simp only [stepC, step] at h ⊢
    split at h
    · exact absurd h (by simp)
    · rename_i ys t hys
      split at h
      · rename_i hc
        split at h
        · rename_i hev
          split at h
          · rename_i hb
            split at h
            · exact absurd h (by simp)
            · rename_i hpr
              simp at h; obtain ⟨rfl, rfl, rfl⟩ := h
              refine ⟨rfl, fun τ => ?_⟩
              rw [srcOf_free hys]
              simp [hc, hb, hpr]
          · exact absurd h (by simp)
        · split at h
          · split at h
            · split at h <;> exact absurd h (by simp)
            · exact absurd h (by simp)
          · exact absurd h (by simp)
        · exact absurd h (by simp)
      · exact absurd h (by simp)
  case min y z =>
    simp only [stepC, step] at h ⊢
    split at h
    · rename_i h1 h2
      split at h
      · rename_i hk
        simp at h; obtain ⟨rfl, rfl⟩ := h
        exact ⟨rfl, fun τ => by rw [if_pos hk]⟩
      · exact absurd h (by simp)
    · exact absurd h (by simp)
  case max y z =>
    simp only [stepC, step] at h ⊢
    split at h
    · rename_i h1 h2
      split at h
      · rename_i hk
        simp at h; obtain ⟨rfl, rfl⟩ := h
        exact ⟨rfl, fun τ => by rw [if_pos hk]⟩
      · exact absurd h (by simp)
    · exact absurd h (by simp)
  case lookup ag ks zero ok y z =>
    simp only [stepC, step] at h ⊢
    split at h
    · rename_i es t hes
      split at h
      case isFalse => exact absurd h (by simp)
      rename_i hk
      split at h <;> first | (simp at h; done) | skip
      all_goals
        rename_i hm
        simp at h; obtain ⟨rfl, rfl, rfl⟩ := h
        exact ⟨rfl, fun τ => by rw [mapOf_free hes]; simp [hm, hk]⟩
    · exact absurd h (by simp)
  all_goals
    simp only [stepC, step] at h ⊢
    try (repeat' (split at h))
    all_goals first
      | (simp at h; done)
      | (simp at h; obtain ⟨rfl, rfl⟩ := h; exact ⟨rfl, fun τ => by simp_all⟩)
      | (obtain ⟨v, hv, he⟩ := Option.map_eq_some_iff.1 h; simp at he; obtain ⟨rfl, rfl⟩ := he; exact ⟨rfl, fun τ => by simp_all⟩)
      | skip
end Go.Den
