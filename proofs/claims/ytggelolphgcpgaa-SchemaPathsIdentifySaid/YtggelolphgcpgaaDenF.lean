/- Memory runs, and single operations. -/
import Derived.Test.YtggelolphgcpgaaDenE
import Derived.Laws.Rows
import Derived.ChangeKeysEq
namespace Go.Den
open Go

section
variable {P : Program} {tab : Nat → Nat}
/-- What an operation's run must come to. -/
def Done (tab : Nat → Nat) (F : Nat → Prop) (base : Nat) (w : World) (σ : St) (γ : List Gh) (r : Result Next) (av : AV) (σ' : St) : Prop :=
  ∃ v w' γ', (r = .ok (.value v) w' ∨ (r = .ok .skip w' ∧ v = undef)) ∧ Step σ.length w σ γ w' σ' γ' ∧ Inv tab w' F σ' γ' ∧ RS tab w' F σ' γ' av v ∧ Fr base σ σ'
theorem done_same {F : Nat → Prop} {base : Nat} {w : World} {σ : St} {γ : List Gh} {r : Result Next} {av : AV} {v : Value} (I : Inv tab w F σ γ) (hr : r = .ok (.value v) w) (h : RS tab w F σ γ av v) : Done tab F base w σ γ r av σ :=
  ⟨v, w, γ, .inl hr, Step.refl w γ (Nat.le_refl _), I, h, Fr.refl _ _⟩

theorem run_sz {t : TypeId} {n : Nat} {w : World} (h : szB P t n = true) : (sizeOf t).run P w = .ok n w := by
  unfold szB at h
  split at h
  · rename_i i hi; simp at h; simp [sizeOf, run_typeInfo w hi, h]
  · exact absurd h (by simp)
theorem run_agg {t : TypeId} {b : Bool} {w : World} (h : aggB P t b = true) : (isAgg t).run P w = .ok b w := by
  unfold aggB at h
  split at h
  · rename_i hi; simp [isAgg, run_underlying hi, h]
  · rename_i hi; simp [isAgg, run_underlying hi, h]
  · rename_i d hn1 hn2 hi
    simp at h; subst h
    cases d <;> first | exact (hn1 _ rfl).elim | exact (hn2 _ _ rfl).elim | simp [isAgg, run_underlying hi]
  · exact absurd h (by simp)
theorem run_zero {t : TypeId} {zs : List AV} {w : World} (h : zeroB P t zs = true) : ∃ z, (zeroValue t).run P w = .ok z w ∧ constB.go z.cells.toList zs = true := by
  unfold zeroB at h
  split at h
  · rename_i i hi
    split at h
    · rename_i z hz; exact ⟨z, by simp [zeroValue, run_typeInfo w hi, hz], h⟩
    · exact absurd h (by simp)
  · exact absurd h (by simp)

/-- A variable is read. -/
theorem run_loadVar_front {w : World} {F : Nat → Prop} {σ : St} {γ : List Gh} {t : TypeId} {ag : Bool} {sz b off : Nat} {cs : List AV} {av : AV} (ha : aggB P t ag = true) (hz : szB P t sz = true)
    (hc : ∀ (j : Nat) (y : AV), cs[j]? = some y → ∃ u, w.cell? ⟨b, off + j, none⟩ = some u ∧ RS tab w F σ γ y u ∧ y.scalar = true) (hf : front ag sz cs = some av) :
    ∃ v, (loadVar t ⟨b, off, none⟩).run P w = .ok v w ∧ RS tab w F σ γ av v := by
  unfold front at hf
  split at hf
  · rename_i hle
    cases ag with
    | true =>
      simp at hf; subst hf
      have hcell : ∀ j, j < sz → w.cell? ((⟨b, off, none⟩ : Addr).add j) = some ((w.cell? ⟨b, off + j, none⟩).getD undef) := by
        intro j hj
        obtain ⟨u, hu, _⟩ := hc j cs[j] (List.getElem?_eq_getElem (by omega))
        rw [add_none, hu]; rfl
      refine ⟨.agg ((List.range sz).map fun j => (w.cell? ⟨b, off + j, none⟩).getD undef).toArray, ?_, ?_⟩
      · simp only [loadVar, Sem.run_bind, run_agg ha, Result.andThen_ok, if_true, run_sz hz, run_loadCells w _ sz _ hcell, Sem.run_pure]
      · refine .agg _ _ (by simp; omega) (fun j x hx => ?_) (fun j x v hx hv => ?_)
        · have hj : j < sz := by have := lt_of_get hx; simp at this; omega
          rw [List.getElem?_take_of_lt hj] at hx
          exact (hc j x hx).choose_spec.2.2
        · have hj : j < sz := by have := lt_of_get hx; simp at this; omega
          rw [List.getElem?_take_of_lt hj] at hx
          obtain ⟨u, hu, hr, _⟩ := hc j x hx
          simp [hj] at hv
          rw [hu] at hv; simp at hv; subst hv; exact hr
    | false =>
      cases cs with
      | nil => simp at hf
      | cons y ys =>
        simp at hf; subst hf
        obtain ⟨u, hu, hr, _⟩ := hc 0 y rfl
        exact ⟨u, by simp only [loadVar, Sem.run_bind, run_agg ha, Result.andThen_ok, Bool.false_eq_true, if_false, run_load]; simp at hu; rw [hu], hr⟩
  · exact absurd hf (by simp)
theorem load_ok {w : World} {F : Nat → Prop} {base : Nat} {σ : St} {γ : List Gh} {t : TypeId} {ag : Bool} {sz : Nat} {x : AV} {v : Value} {cs : List AV} {tt : Bool} {av : AV} (I : Inv tab w F σ γ)
    (ha : aggB P t ag = true) (hz : szB P t sz = true) (hx : RS tab w F σ γ x v) (hd : deref σ x = some (cs, tt)) (hf : front ag sz cs = some av) :
    Done tab F base w σ γ ((do pure (Next.value (← Instr.loadAt t v)) : Sem Next).run P w) av σ := by
  obtain ⟨b, off, rfl, hc⟩ := deref_ok I hx hd
  obtain ⟨u, hu, hr⟩ := run_loadVar_front ha hz hc hf
  exact done_same I (by simp [Instr.loadAt, Instr.sureAddr, hu]) hr

theorem push_lt (w : World) (o : Obj) (b : Nat) (h : b < w.heap.size) : (w.heap.push o)[b]? = w.heap[b]? := by rw [Array.getElem?_push, if_neg (by omega)]
/-- A new block that is no object of ours. -/
theorem free_push {w : World} {F : Nat → Prop} {σ : St} {γ : List Gh} (I : Inv tab w F σ γ) (o : Obj) : Step σ.length w σ γ { w with heap := w.heap.push o } σ γ ∧ Inv tab { w with heap := w.heap.push o } F σ γ :=
  still I rfl rfl rfl (by simp) (fun b hb => push_lt w o b hb)
theorem free_stab {w : World} {F : Nat → Prop} {σ : St} {γ : List Gh} (I : Inv tab w F σ γ) (o : Obj) : Stab { w with heap := w.heap.push o } F σ γ w.heap.size :=
  ⟨by simp, fun hF => by have := I.fsz _ hF; omega, fun ⟨k, x, g, h1, h2, h3, h4⟩ => by have := (I.own k x g h1 h2 h3).1; omega⟩
/-- A new object in a new block. -/
theorem new_push {w : World} {F : Nat → Prop} {base : Nat} {σ : St} {γ : List Gh} (I : Inv tab w F σ γ) (hb : base ≤ σ.length) (o : Obj) (x : Ob) (cap : Nat)
    (hok : Step σ.length w σ γ { w with heap := w.heap.push o } (σ ++ [x]) (γ ++ [⟨w.heap.size, 0, cap⟩]) →
      ObOk tab { w with heap := w.heap.push o } (Stab { w with heap := w.heap.push o } F (σ ++ [x]) (γ ++ [⟨w.heap.size, 0, cap⟩])) (σ ++ [x]) (γ ++ [⟨w.heap.size, 0, cap⟩]) x ⟨w.heap.size, 0, cap⟩) :
    Step σ.length w σ γ { w with heap := w.heap.push o } (σ ++ [x]) (γ ++ [⟨w.heap.size, 0, cap⟩]) ∧ Inv tab { w with heap := w.heap.push o } F (σ ++ [x]) (γ ++ [⟨w.heap.size, 0, cap⟩]) ∧ Fr base σ (σ ++ [x]) := by
  have hl := I.len
  have e1 : (σ ++ [x])[σ.length]? = some x := by simp
  have e2 : (γ ++ [(⟨w.heap.size, 0, cap⟩ : Gh)])[σ.length]? = some ⟨w.heap.size, 0, cap⟩ := by rw [← hl]; simp
  have hn : σ[σ.length]? = none := List.getElem?_eq_none (Nat.le_refl _)
  obtain ⟨h1, h2⟩ := change (w1 := { w with heap := w.heap.push o }) (σ1 := σ ++ [x]) (γ1 := γ ++ [⟨w.heap.size, 0, cap⟩]) σ.length I rfl rfl rfl (by simp)
    (fun k hk => by
      rcases Nat.lt_or_ge k σ.length with h | h
      · exact ⟨List.getElem?_append_left h, List.getElem?_append_left (by omega)⟩
      · rw [List.getElem?_eq_none (by simp; omega), List.getElem?_eq_none h, List.getElem?_eq_none (by simp; omega), List.getElem?_eq_none (by omega)]; exact ⟨rfl, rfl⟩)
    (by simp) (by simp [hl]) (fun b hb => .inl (push_lt w o b hb))
    (fun y g hy hg _ => by rw [e2] at hg; simp at hg; subst hg; exact .inl ⟨Nat.le_refl _, by simp⟩)
    (fun y g hy => by rw [hn] at hy; exact absurd hy (by simp))
  refine ⟨h1, h2 fun y g hy hg => ?_, Fr.push hb _⟩
  rw [e1] at hy; rw [e2] at hg
  simp at hy hg; subst hy; subst hg
  exact hok h1
theorem cells_obj {w w1 : World} {F : Nat → Prop} {σ σ1 : St} {γ γ1 : List Gh} {m : Nat} (st : Step m w σ γ w1 σ1 γ1) {cs : List AV} {vs : Array Value} {ty : TypeId} {g : Gh} (hb : w1.heap[g.b]? = some (.cells vs ty (0, 0)))
    (hl : vs.size = cs.length) (hs : ∀ (j : Nat) (x : AV), cs[j]? = some x → x.scalar = true) (hu : unders m cs = true) (hr : ∀ (j : Nat) (x : AV) (v : Value), cs[j]? = some x → vs[j]? = some v → RS tab w F σ γ x v) :
    ObOk tab w1 (Stab w1 F σ1 γ1) σ1 γ1 (.cells cs) g :=
  ⟨vs, ty, hb, hl, hs, fun j x v hx hv => (hr j x v hx hv).step st ((unders_iff m cs).1 hu j x hx)⟩

theorem box_ok {w : World} {F : Nat → Prop} {base : Nat} {σ : St} {γ : List Gh} {t : TypeId} {x : AV} {v : Value} (I : Inv tab w F σ γ) (hb : base ≤ σ.length) (hx : RS tab w F σ γ x v) (hs : x.cellsOf.all AV.scalar = true) :
    Done tab F base w σ γ ((do pure (Next.value (← Instr.box t v)) : Sem Next).run P w) (.ref σ.length 0) (σ ++ [.cells x.cellsOf]) := by
  have hs' : ∀ (j : Nat) (y : AV), x.cellsOf[j]? = some y → y.scalar = true := fun j y hy => (List.all_eq_true.1 hs) y (List.mem_of_getElem? hy)
  obtain ⟨q1, q2⟩ := cells_ok hx hs'
  obtain ⟨h1, h2, h3⟩ := new_push I hb (.cells v.cells t) (.cells x.cellsOf) 0 fun st =>
    cells_obj (g := ⟨w.heap.size, 0, 0⟩) st (Array.getElem?_push_size) q1 hs' ((unders_iff _ _).2 fun j y hy => by
      have hj : j < v.cells.size := by have := lt_of_get hy; omega
      exact (q2 j y v.cells[j] hy (Array.getElem?_eq_getElem hj)).under) q2
  exact ⟨.pointer (some ⟨w.heap.size, 0, none⟩), _, _, .inl (by simp [Instr.box, newVar, newRow]), h1, h2, .ref σ.length 0 ⟨w.heap.size, 0, 0⟩ x.cellsOf (by simp) (by rw [← I.len]; simp), h3⟩
theorem box_ro_ok {w : World} {F : Nat → Prop} {base : Nat} {σ : St} {γ : List Gh} {t : TypeId} {x : AV} {v : Value} (I : Inv tab w F σ γ) (hx : RS tab w F σ γ x v) (hs : x.cellsOf.all AV.scalar = true) (hn : norefs x.cellsOf = true) :
    Done tab F base w σ γ ((do pure (Next.value (← Instr.box t v)) : Sem Next).run P w) (.rptr x.cellsOf) σ := by
  have hs' : ∀ (j : Nat) (y : AV), x.cellsOf[j]? = some y → y.scalar = true := fun j y hy => (List.all_eq_true.1 hs) y (List.mem_of_getElem? hy)
  obtain ⟨q1, q2⟩ := cells_ok hx hs'
  obtain ⟨h1, h2⟩ := free_push I (.cells v.cells t)
  refine ⟨.pointer (some ⟨w.heap.size, 0, none⟩), _, _, .inl (by simp [Instr.box, newVar, newRow]), h1, h2, ?_, Fr.refl _ _⟩
  refine .fz _ _ (.rptr w.heap.size 0 x.cellsOf (fun j => v.cells.getD j undef) (free_stab I _) (fun j y hy => ?_) hs' (fun j y hy => ?_))
  · have hj : j < v.cells.size := by have := lt_of_get hy; omega
    simp [World.cell?, hj]
  · have hj : j < v.cells.size := by have := lt_of_get hy; omega
    have := (q2 j y v.cells[j] hy (Array.getElem?_eq_getElem hj)).frozen ((norefs_iff _).1 hn j y hy)
    simp [hj]
    exact this.mono fun b hb => h1.stab hb

/-- A store into a block of cells that the k-th object owns. -/
theorem set_row {w : World} {F : Nat → Prop} {σ : St} {γ : List Gh} (I : Inv tab w F σ γ) {k : Nat} {x x' : Ob} {g : Gh} (hx : σ[k]? = some x) (hg : γ[k]? = some g) (ho : owns x g = true) (hs : ObStep x g x' g) {ws : Array Value} :
    Step σ.length w σ γ (w.setRow g.b ws) (σ.set k x') γ ∧ ((ObOk tab (w.setRow g.b ws) (Stab (w.setRow g.b ws) F (σ.set k x') γ) (σ.set k x') γ x' g) → Inv tab (w.setRow g.b ws) F (σ.set k x') γ) := by
  have hk := lt_of_get hx
  obtain ⟨h1, h2⟩ := change (w1 := w.setRow g.b ws) (σ1 := σ.set k x') (γ1 := γ) k I rfl rfl rfl (by simp)
    (fun o ho => ⟨by rw [List.getElem?_set]; simp [Ne.symm ho], rfl⟩) (by simp) (by simp [I.len])
    (fun b hb' => by
      by_cases e : b = g.b
      · exact .inr ⟨x, g, hx, hg, ho, e.symm⟩
      · exact .inl (setRow_other w g.b b ws e))
    (fun y g' hy hg' _ => by
      rw [hg] at hg'; simp at hg'; subst hg'
      exact .inr ⟨x, g, hx, hg, ho, rfl⟩)
    (fun y g' hy hg' => by
      rw [hx] at hy; rw [hg] at hg'; simp at hy hg'; subst hy; subst hg'
      exact ⟨x', g, by simp [hk], hg, hs⟩)
  refine ⟨h1, fun hok => h2 fun y g' hy hg' => ?_⟩
  rw [hg] at hg'; simp [hk] at hy hg'; subst hy; subst hg'
  exact hok
theorem over_get (zs cs : List AV) (off j : Nat) (h : off + cs.length ≤ zs.length) : (over zs off cs)[j]? = if off ≤ j ∧ j < off + cs.length then cs[j - off]? else zs[j]? := by
  unfold over
  split
  · rename_i hj
    rw [List.getElem?_append_left (by simp; omega), List.getElem?_append_right (by simp; omega)]
    congr 1; simp; omega
  · rename_i hj
    rcases Nat.lt_or_ge j off with h1 | h1
    · rw [List.getElem?_append_left (by simp; omega), List.getElem?_append_left (by simp; omega), List.getElem?_take_of_lt h1]
    · rw [List.getElem?_append_right (by simp; omega), List.getElem?_drop]
      congr 1; simp; omega
theorem over_length (zs cs : List AV) (off : Nat) (h : off + cs.length ≤ zs.length) : (over zs off cs).length = zs.length := by
  unfold over; simp; omega
theorem overV_get (zs : Array Value) (cs : List Value) (off j : Nat) (h : off + cs.length ≤ zs.size) : ((zs.toList.take off ++ cs ++ zs.toList.drop (off + cs.length)).toArray)[j]? = if off ≤ j ∧ j < off + cs.length then cs[j - off]? else zs[j]? := by
  simp only [List.getElem?_toArray]
  split
  · rename_i hj
    rw [List.getElem?_append_left (by simp; omega), List.getElem?_append_right (by simp; omega)]
    congr 1; simp; omega
  · rename_i hj
    rcases Nat.lt_or_ge j off with h1 | h1
    · rw [List.getElem?_append_left (by simp; omega), List.getElem?_append_left (by simp; omega), List.getElem?_take_of_lt h1]; simp
    · rw [List.getElem?_append_right (by simp; omega), List.getElem?_drop]
      simp
      congr 1; omega
theorem overV_size (zs : Array Value) (cs : List Value) (off : Nat) (h : off + cs.length ≤ zs.size) : ((zs.toList.take off ++ cs ++ zs.toList.drop (off + cs.length)).toArray).size = zs.size := by
  simp; omega
theorem run_store_over {w : World} {t : TypeId} {b off : Nat} {v : Value} {vs : Array Value} {ty : TypeId} {sz : Nat} (hz : szB P t sz = true) (hsz : v.cells.size = sz) (hb : w.heap[b]? = some (.cells vs ty (0, 0))) (hle : off + v.cells.size ≤ vs.size)
    (h1 : ∀ u ∈ v.cells.toList, u.oneCell' = true) :
    (Instr.storeAt t (.pointer (some ⟨b, off, none⟩)) v).run P w = .ok () (w.setRow b (vs.toList.take off ++ v.cells.toList ++ vs.toList.drop (off + v.cells.toList.length)).toArray) := by
  have := run_storeCells_at (P := P) b off ty v.cells.toList 0 vs w hb (by simpa using hle) h1
  simp only [Instr.storeAt, Instr.sureAddr, storeVar, Sem.run_bind, Sem.run_pure, Result.andThen_ok, run_sz hz, hsz, ne_eq, not_true_eq_false, if_false]
  rw [this]; simp

mutual
theorem under_le {m k : Nat} (hmk : m ≤ k) : ∀ {x : AV}, x.under m = true → x.under k = true
  | .ref _ _, h | .eref _ _ _ _ _, h | .osl _ _ _ _ _, h | .mapr _, h => by simp [AV.under] at h ⊢; omega
  | .fn f caps, h => unders_le hmk caps h
  | .agg cs, h => unders_le hmk cs h
  | .tup cs, h => unders_le hmk cs h
  | .iface t v, h => under_le hmk (x := v) h
  | .int .., _ | .bool _, _ | .str _, _ | .nilp, _ | .rptr _, _ | .nils, _ | .sl _, _ | .nilfn, _ | .nilmap, _ | .fmap _, _ | .nilif, _ | .nil0, _ | .nne, _ | .dead, _ => rfl
theorem unders_le {m k : Nat} (hmk : m ≤ k) : ∀ l : List AV, unders m l = true → unders k l = true
  | [], _ => rfl
  | a :: r, h => by
    simp only [unders, AV.under.unders, Bool.and_eq_true] at h ⊢
    exact ⟨under_le hmk h.1, unders_le hmk r h.2⟩
end
theorem store_ref_ok {w : World} {F : Nat → Prop} {base : Nat} {σ : St} {γ : List Gh} {t : TypeId} {sz o off : Nat} {y : AV} {v u : Value} {cs : List AV} (I : Inv tab w F σ γ) (hz : szB P t sz = true) (hx : RS tab w F σ γ (.ref o off) u)
    (hy : RS tab w F σ γ y v) (hl : y.cellsOf.length = sz) (hs : y.cellsOf.all AV.scalar = true) (ho : σ[o]? = some (.cells cs)) (hle : off + sz ≤ cs.length) (hst : storable base o cs y.cellsOf) :
    Done tab F base w σ γ ((do Instr.storeAt t u v; pure Next.skip : Sem Next).run P w) .dead (σ.set o (.cells (over cs off y.cellsOf))) := by
  cases hx with
  | fz _ _ h => exact absurd h.noref (by simp [AV.noref])
  | ref _ _ g cs' hs' hg =>
    have hs0 : ∀ (j : Nat) (x : AV), y.cellsOf[j]? = some x → x.scalar = true := fun j x hx => (List.all_eq_true.1 hs) x (List.mem_of_getElem? hx)
    obtain ⟨q1, q2⟩ := cells_ok hy hs0
    have hok := I.ok o _ g ho hg
    obtain ⟨vs, ty, e1, e2, e3, e4⟩ := hok
    have hle' : off + v.cells.size ≤ vs.size := by omega
    have h1 : ∀ u ∈ v.cells.toList, u.oneCell' = true := by
      intro u hu
      obtain ⟨j, hj, e⟩ := List.getElem_of_mem hu
      have hj' : j < y.cellsOf.length := by simp at hj; omega
      exact one_ok (q2 j y.cellsOf[j] u (List.getElem?_eq_getElem hj') (by rw [← e]; simp at hj ⊢)) (hs0 j _ (List.getElem?_eq_getElem hj'))
    have hrun := run_store_over (P := P) (t := t) (sz := sz) hz (by omega) e1 hle' h1
    obtain ⟨s1, s2⟩ := set_row (x' := .cells (over cs off y.cellsOf)) (ws := (vs.toList.take off ++ v.cells.toList ++ vs.toList.drop (off + v.cells.toList.length)).toArray) I ho hg rfl (.cells _ _ _)
    have hun : ∀ b, (∀ (j : Nat) (x : AV), cs[j]? = some x → x.under b = true) → (∀ (j : Nat) (x : AV), y.cellsOf[j]? = some x → x.under b = true) → ∀ (j : Nat) (x : AV), (over cs off y.cellsOf)[j]? = some x → x.under b = true := by
      intro b k1 k2 j x hx
      rw [over_get _ _ _ _ (by omega)] at hx
      split at hx
      · exact k2 _ x hx
      · exact k1 _ x hx
    refine ⟨undef, _, γ, .inr ⟨by simp [hrun], rfl⟩, s1, s2 ⟨_, ty, setRow_heap w g.b vs _ ty _ e1, ?_, fun j x hx => ?_, fun j x v' hx hv => ?_⟩, .dead _, ?_⟩
    · rw [overV_size _ _ _ (by simpa using hle'), over_length _ _ _ (by omega)]; exact e2
    · rw [over_get _ _ _ _ (by omega)] at hx
      split at hx
      · exact hs0 _ x hx
      · exact e3 _ x hx
    · rw [over_get _ _ _ _ (by omega)] at hx
      rw [overV_get _ _ _ _ (by simpa using hle')] at hv
      have : v.cells.toList.length = y.cellsOf.length := by simp [q1]
      rw [this] at hv
      split at hx
      · rename_i hj
        rw [if_pos hj] at hv
        have := q2 _ x v' hx (by simpa using hv)
        exact this.step s1 this.under
      · rename_i hj
        rw [if_neg hj] at hv
        have := e4 _ x v' hx hv
        exact this.step s1 this.under
    · apply Fr.set
      intro b hob hbb hf
      have hcs := hf o _ hob ho
      simp only [Ob.under] at hcs ⊢
      rw [unders_iff] at hcs ⊢
      refine hun b hcs fun j x hx => ?_
      rcases hst with h | h
      · omega
      · have hx' := (List.all_eq_true.1 h) x (List.mem_of_getElem? hx)
        simp only [Bool.or_eq_true] at hx'
        rcases hx' with h' | h'
        · exact under_le (by omega) h'
        · cases x with
          | osl o1 ver n off len =>
            simp only [AV.refsIn] at h'
            rw [List.any_eq_true] at h'
            obtain ⟨z, hz, hzz⟩ := h'
            cases z <;> simp at hzz
            subst hzz
            obtain ⟨i, hi, e⟩ := List.getElem_of_mem hz
            have := hcs i _ (by rw [List.getElem?_eq_getElem hi, e])
            simpa [AV.under] using this
          | _ => exact noref_under _ h'
theorem under_leOb {m k : Nat} (hmk : m ≤ k) {x : Ob} (h : x.under m = true) : x.under k = true := by
  cases x with
  | cells cs => exact unders_le hmk cs h
  | map es =>
    simp only [Ob.under] at h ⊢
    rw [List.all_eq_true] at h ⊢
    intro p hp
    have := h p hp
    simp only [Bool.and_eq_true] at this ⊢
    exact ⟨under_le hmk this.1, under_le hmk this.2⟩
  | _ => rfl
end
end Go.Den
