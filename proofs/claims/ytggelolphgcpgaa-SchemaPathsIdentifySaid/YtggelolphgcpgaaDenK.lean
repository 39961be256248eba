/- append at objects; len, index, slicing. -/
import Derived.Test.YtggelolphgcpgaaDenJ
namespace Go.Den
open Go

section
variable {P : Program} {tab : Nat → Nat}
theorem src_mono {w : World} {S : Nat → Prop} {sz : Nat} (a : Option Addr) : Src P tab w S sz (.slice a 0 0) [] :=
  ⟨rfl, #[], by simp, fun d => by cases a <;> simp [Builtin.firstCells, loadCells, loadCellsFrom], by simp⟩
theorem append_nils {w : World} {F : Nat → Prop} {base : Nat} {σ : St} {γ : List Gh} {s y ty : TypeId} {sz bytes : Nat} {v u : Value} {ys : List (List AV)} (I : Inv tab w F σ γ) (hB : appB P s y sz bytes = true) (hx : RS tab w F σ γ .nils u)
    (hsrc : Src P tab w (Stab w F σ γ) sz v ys) (h0 : 0 < sz) (hz : szOK sz ys) (hb : ys.length * bytes ≤ 140737488355328) :
    Done tab F base w σ γ ((val (Builtin.append_ #[s, y] ty #[u, v])).run P w) (.sl ys) σ ∧
    (base ≤ σ.length → Done tab F base w σ γ ((val (Builtin.append_ #[s, y] ty #[u, v])).run P w) (.osl σ.length 0 ys.length 0 ys.length) (σ ++ [.arr 0 sz ys])) := by
  cases hx.frozen rfl with
  | nils a =>
    obtain ⟨A, hA1, hA3, r1, r2⟩ := run_append (ty := ty) hB hsrc (by simpa using hb) (src_mono a) rfl
    simp only [Nat.zero_add, List.nil_append, Nat.le_zero] at r1 r2
    by_cases hy : ys = []
    · subst hy
      have hA : A = #[] := by simpa using hA1
      subst hA
      have r1 : (Builtin.append_ #[s, y] ty #[.slice a 0 0, v]).run P w = .ok (.slice a 0 0) w := by
        rw [r1 rfl]; cases a <;> simp [storeCells]
      refine ⟨done_same I (val_run r1) (.fz _ _ (.sl0 a 0)), fun hbase => ?_⟩
      have hn : σ[σ.length]? = none := List.getElem?_eq_none (Nat.le_refl _)
      have e1 : (σ ++ [Ob.arr 0 sz []])[σ.length]? = some (.arr 0 sz []) := by simp
      have e2 : (γ ++ [(⟨0, 0, 0⟩ : Gh)])[σ.length]? = some ⟨0, 0, 0⟩ := by rw [← I.len]; simp
      obtain ⟨h1, h2⟩ := change (w1 := w) (σ1 := σ ++ [.arr 0 sz []]) (γ1 := γ ++ [⟨0, 0, 0⟩]) σ.length I rfl rfl rfl (Nat.le_refl _)
        (fun k hk => by
          have hl := I.len
          rcases Nat.lt_or_ge k σ.length with h | h
          · exact ⟨List.getElem?_append_left h, List.getElem?_append_left (by omega)⟩
          · rw [List.getElem?_eq_none (by simp; omega), List.getElem?_eq_none h, List.getElem?_eq_none (by simp; omega), List.getElem?_eq_none (by omega)]; exact ⟨rfl, rfl⟩)
        (by simp) (by simp [I.len]) (fun b hb => .inl rfl)
        (fun z g hz hg ho => by rw [e1] at hz; rw [e2] at hg; simp at hz hg; subst hz; subst hg; simp [owns] at ho)
        (fun z g hz => by rw [hn] at hz; exact absurd hz (by simp))
      refine ⟨_, w, _, .inl (val_run r1), h1, h2 fun z g hz hg => ?_, .osl _ _ _ _ _ _ ⟨_, _, _, rfl⟩ ⟨_, _, e1, e2, .inr ⟨rfl, by simp⟩, fun _ _ _ => ⟨a, rfl, fun h => by simp at h⟩⟩, Fr.push hbase _⟩
      rw [e1] at hz; rw [e2] at hg; simp at hz hg; subst hz; subst hg
      exact ⟨h0, by simp, by simp, by simp⟩
    · obtain ⟨nc, e, D, hnc, hD, hrun, hr⟩ := r2 (by simp; exact hy)
      have st0 : Step σ.length w σ γ { w with drawn := w.drawn + 1 } σ γ ∧ Inv tab { w with drawn := w.drawn + 1 } F σ γ := still I rfl rfl rfl (Nat.le_refl _) (fun _ _ => rfl)
      have hlen : ∀ (i : Nat) (e : List AV), ys[i]? = some e → ∀ (j : Nat) (x : AV), e[j]? = some x → j < sz := fun i e hi j x hj => by
        have := lt_of_get hj; have := hz e (List.mem_of_getElem? hi); omega
      constructor
      · obtain ⟨h1, h2⟩ := free_push st0.2 (.cells D e)
        refine ⟨_, _, γ, .inl (val_run hrun), st0.1.trans h1, h2, .fz _ _ ?_, Fr.refl _ _⟩
        refine row_sl (D := D) (sz := sz) (free_stab st0.2 _) ⟨e, (0, 0), Array.getElem?_push_size⟩ hz hnc (fun i el hi j x hx => ?_)
        obtain ⟨k, k1, k2, k3⟩ := hr i el hi j x hx (hlen i el hi j x hx)
        exact ⟨k, k1, k2, k3.mono fun b hb => (st0.1.trans h1).stab hb⟩
      · intro hbase
        obtain ⟨h1, h2, h3⟩ := new_push st0.2 hbase (.cells D e) (.arr 0 sz ys) nc fun st =>
          arr_obj (D := D) (ty := e) (g := ⟨w.heap.size, 0, nc⟩) (st0.1.trans st) h0 hnc hz (fun _ => ⟨Array.getElem?_push_size, by simp [hD]⟩) (fun i el hi j x hx => by simpa using hr i el hi j x hx (hlen i el hi j x hx))
        refine ⟨_, _, _, .inl (val_run hrun), st0.1.trans h1, h2, .osl _ _ _ _ _ _ ⟨_, _, _, rfl⟩ ⟨.arr 0 sz ys, ⟨w.heap.size, 0, nc⟩, by simp, by rw [← I.len]; simp, .inr ⟨rfl, by simp⟩, fun _ _ _ => ⟨_, rfl, fun _ => by simp⟩⟩, h3⟩

/-- append to a row that the run owns: the new row is in place or in a new block. -/
theorem append_osl {w : World} {F : Nat → Prop} {base : Nat} {σ : St} {γ : List Gh} {s y ty : TypeId} {sz bytes o ver ver' n off len : Nat} {v u : Value} {ys es es' : List (List AV)} (I : Inv tab w F σ γ) (hB : appB P s y sz bytes = true)
    (hx : RS tab w F σ γ (.osl o ver n off len) u) (ho : σ[o]? = some (.arr ver sz es)) (hn : es.length = n) (hle : off + len ≤ n)
    (hsrc : Src P tab w (Stab w F σ γ) sz v ys) (hz : szOK sz ys) (hb : (len + ys.length) * bytes ≤ 140737488355328)
    (hes : es' = (es.drop off).take len ++ ys) (hv : (off = 0 ∧ len = n ∧ ver' = ver) ∨ ver' = ver + 1) :
    Done tab F base w σ γ ((val (Builtin.append_ #[s, y] ty #[u, v])).run P w) (.osl o ver' (len + ys.length) 0 (len + ys.length)) (σ.set o (.arr ver' sz es')) := by
  have hxs : elems σ (.osl o ver n off len) = some ((es.drop off).take len, true) := by simp [elems, ho, hn, hle]
  cases hx with
  | fz _ _ h => exact absurd h.noref (by simp [AV.noref])
  | osl _ _ _ _ _ _ hv0 h =>
    have hx : RS tab w F σ γ (.osl o ver n off len) u := .osl _ _ _ _ _ _ hv0 h
    obtain ⟨x, g, h1, hg, h3⟩ := h
    rw [ho] at h1; simp at h1; subst h1
    obtain ⟨a, rfl, ha⟩ := h3.2 rfl hn.symm hle
    obtain ⟨k1, k2, k3, k4⟩ := I.ok o _ g ho hg
    have hol := lt_of_get ho
    have hgl := lt_of_get hg
    have hxl : ((es.drop off).take len).length = len := by simp; omega
    have hxz : szOK sz ((es.drop off).take len) := fun e he => k3 e (List.mem_of_mem_drop (List.mem_of_mem_take he))
    have hesl : es'.length = len + ys.length := by rw [hes, List.length_append, hxl]
    have hesz : szOK sz es' := fun e he => by
      rw [hes] at he
      rcases List.mem_append.1 he with h | h
      · exact hxz e h
      · exact hz e h
    have hlen : ∀ (i : Nat) (e : List AV), es'[i]? = some e → ∀ (j : Nat) (x : AV), e[j]? = some x → j < sz := fun i e hi j x hj => by
      have := lt_of_get hj; have := hesz e (List.mem_of_getElem? hi); omega
    have hsx := src_elems (P := P) I hx hxs k1 hxz
    obtain ⟨A, hA1, hA3, r1, r2⟩ := run_append (ty := ty) hB hsrc hb hsx hxl
    have hFr : Fr base σ (σ.set o (.arr ver' sz es')) := Fr.set fun b _ _ _ => rfl
    by_cases hroom : len + ys.length ≤ g.cap - off
    · have r1 := r1 hroom
      clear r2
      have hst : ∀ (g' : Gh), (off = 0 ∧ len = n ∧ ver' = ver → g' = g ∨ es.length < es'.length) → ObStep (.arr ver sz es) g (.arr ver' sz es') g' := by
        intro g' hg'
        rcases hv with ⟨rfl, rfl, rfl⟩ | rfl
        · rcases hg' ⟨rfl, rfl, rfl⟩ with rfl | h
          · by_cases h0 : ys = []
            · exact .same _ _ _ _ _ (by rw [hesl, h0]; simp; omega)
            · exact .more _ _ _ _ _ _ (by rw [hesl]; have := List.length_pos_iff.2 h0; omega)
          · exact .more _ _ _ _ _ _ h
        · exact .anew _ _ _ _ _ _ _ (by omega)
      let g' : Gh := ⟨g.b, g.base + off * sz, g.cap - off⟩
      have hgg : off = 0 ∧ len = n ∧ ver' = ver → g' = g ∨ es.length < es'.length := by
        rintro ⟨rfl, _, _⟩; left; simp [g']
      have e1 : (σ.set o (.arr ver' sz es'))[o]? = some (.arr ver' sz es') := by simp [hol]
      have e2 : (γ.set o g')[o]? = some g' := by simp [hgl]
      have hoslok : ∀ w1, RS tab w1 F (σ.set o (.arr ver' sz es')) (γ.set o g') (.osl o ver' (len + ys.length) 0 (len + ys.length)) (.slice a (len + ys.length) (g.cap - off)) := fun w1 =>
        .osl _ _ _ _ _ _ ⟨_, _, _, rfl⟩ ⟨_, g', e1, e2, .inr ⟨rfl, by omega⟩, fun _ _ _ => ⟨a, rfl, fun hc => by rw [ha (by simpa [g'] using hc)]; simp [g']⟩⟩
      by_cases hc : 0 < g.cap - off
      · have := ha hc; subst this
        obtain ⟨vs, ty', q1, q2, q3⟩ := k4 (by omega)
        have hsz : off * sz + (g.cap - off) * sz = g.cap * sz := by rw [← Nat.add_mul]; congr 1; omega
        have hls : (len + ys.length) * sz ≤ (g.cap - off) * sz := Nat.mul_le_mul_right _ hroom
        rw [Nat.add_mul] at hls
        have hfit : g.base + off * sz + len * sz + A.toList.length ≤ vs.size := by simp [hA1]; omega
        have hone := Src.one (tab := tab) (w := w) (S := Stab w F σ γ) k1 hz hA1 hA3
        have hrun := run_storeCells_at (P := P) g.b (g.base + off * sz + len * sz) ty' A.toList 0 vs w q1 (by simpa using hfit) hone
        simp only [Nat.add_zero] at hrun
        simp only [add_none] at r1
        rw [hrun] at r1
        simp only [Result.andThen_ok] at r1
        have hcapg : es'.length ≤ g'.cap := by simp only [g', hesl]; exact hroom
        have hfitg : g'.base + g'.cap * sz ≤ ((vs.toList.take (g.base + off * sz + len * sz) ++ A.toList ++ vs.toList.drop (g.base + off * sz + len * sz + A.toList.length)).toArray).size := by
          rw [overV_size _ _ _ hfit]; simp only [g']; omega
        have howng : owns (.arr ver sz es) g = true := by simp [owns]; omega
        obtain ⟨s1, s2⟩ := change (w1 := w.setRow g.b (vs.toList.take (g.base + off * sz + len * sz) ++ A.toList ++ vs.toList.drop (g.base + off * sz + len * sz + A.toList.length)).toArray) (σ1 := σ.set o (.arr ver' sz es')) (γ1 := γ.set o g') o I rfl rfl rfl (by simp)
          (fun k hk => ⟨by rw [List.getElem?_set]; simp [Ne.symm hk], by rw [List.getElem?_set]; simp [Ne.symm hk]⟩) (by simp) (by simp [I.len])
          (fun b hb' => by
            by_cases e : b = g.b
            · exact .inr ⟨_, g, ho, hg, howng, e.symm⟩
            · exact .inl (setRow_other w g.b b _ e))
          (fun z g2 hz hg2 _ => by
            rw [e2] at hg2; simp at hg2; subst hg2
            exact .inr ⟨_, g, ho, hg, howng, rfl⟩)
          (fun z g2 hz hg2 => by
            rw [ho] at hz; rw [hg] at hg2; simp at hz hg2; subst hz; subst hg2
            exact ⟨_, g', e1, e2, hst g' hgg⟩)
        refine ⟨_, _, _, .inl (val_run r1), s1, s2 fun z g2 hz hg2 => ?_, hoslok _, hFr⟩
        rw [e1] at hz; rw [e2] at hg2; simp at hz hg2; subst hz; subst hg2
        refine arr_obj (ty := ty') (D := (vs.toList.take (g.base + off * sz + len * sz) ++ A.toList ++ vs.toList.drop (g.base + off * sz + len * sz + A.toList.length)).toArray) s1 k1 hcapg hesz
          (fun _ => ⟨setRow_heap w g.b vs _ ty' _ q1, hfitg⟩) (fun i e hi j x hx => ?_)
        have hj := hlen i e hi j x hx
        rw [overV_get _ _ _ _ hfit]
        rw [hes] at hi
        rcases Nat.lt_or_ge i len with hil | hil
        · rw [List.getElem?_append_left (by omega), List.getElem?_take_of_lt hil, List.getElem?_drop] at hi
          obtain ⟨t, t1, t2, t3⟩ := q3 _ e hi j x hx
          have : (i + 1) * sz ≤ len * sz := Nat.mul_le_mul_right _ hil
          rw [Nat.add_mul] at this
          refine ⟨t, ?_, t2, t3⟩
          rw [if_neg (by simp [g']; omega), ← t1]
          congr 1; simp only [g']; rw [Nat.add_mul]; omega
        · rw [List.getElem?_append_right (by omega), hxl] at hi
          obtain ⟨t, t1, t2, t3⟩ := hA3 _ e hi j x hx
          have hlt := (Array.getElem?_eq_some_iff.1 t1).1
          have e3 : i * sz = len * sz + (i - len) * sz := by rw [← Nat.add_mul]; congr 1; omega
          refine ⟨t, ?_, t2, t3⟩
          rw [if_pos (by simp [g']; omega)]
          rw [show g'.base + i * sz + j - (g.base + off * sz + len * sz) = (i - len) * sz + j by simp only [g']; omega]
          simpa using t1
      · have hl0 : len = 0 := by omega
        have hy0 : ys = [] := List.eq_nil_of_length_eq_zero (by omega)
        subst hl0; subst hy0
        have hA0 : A = #[] := by simpa using hA1
        subst hA0
        have r1 : (Builtin.append_ #[s, y] ty #[.slice a 0 (g.cap - off), v]).run P w = .ok (.slice a 0 (g.cap - off)) w := by
          rw [r1]; cases a <;> simp [storeCells]
        obtain ⟨s1, s2⟩ := change (w1 := w) (σ1 := σ.set o (.arr ver' sz es')) (γ1 := γ.set o g') o I rfl rfl rfl (Nat.le_refl _)
          (fun k hk => ⟨by rw [List.getElem?_set]; simp [Ne.symm hk], by rw [List.getElem?_set]; simp [Ne.symm hk]⟩) (by simp) (by simp [I.len])
          (fun b _ => .inl rfl)
          (fun z g2 hz hg2 hown => by
            rw [e1] at hz; rw [e2] at hg2; simp at hz hg2; subst hz; subst hg2
            simp [owns, g'] at hown; omega)
          (fun z g2 hz hg2 => by
            rw [ho] at hz; rw [hg] at hg2; simp at hz hg2; subst hz; subst hg2
            exact ⟨_, g', e1, e2, hst g' hgg⟩)
        refine ⟨_, _, _, .inl (val_run r1), s1, s2 fun z g2 hz hg2 => ?_, hoslok _, hFr⟩
        rw [e1] at hz; rw [e2] at hg2; simp at hz hg2; subst hz; subst hg2
        exact ⟨k1, by simp [hesl], hesz, fun hcc => by simp [g'] at hcc; omega⟩
    · obtain ⟨nc, e, D, hnc, hD, hrun, hr⟩ := r2 hroom
      have st0 : Step σ.length w σ γ { w with drawn := w.drawn + 1 } σ γ ∧ Inv tab { w with drawn := w.drawn + 1 } F σ γ := still I rfl rfl rfl (Nat.le_refl _) (fun _ _ => rfl)
      let g' : Gh := ⟨w.heap.size, 0, nc⟩
      have e1 : (σ.set o (.arr ver' sz es'))[o]? = some (.arr ver' sz es') := by simp [hol]
      have e2 : (γ.set o g')[o]? = some g' := by simp [hgl]
      obtain ⟨s1, s2⟩ := change (w1 := { w with heap := w.heap.push (.cells D e), drawn := w.drawn + 1 }) (σ1 := σ.set o (.arr ver' sz es')) (γ1 := γ.set o g') o I rfl rfl rfl (by simp)
        (fun k hk => ⟨by rw [List.getElem?_set]; simp [Ne.symm hk], by rw [List.getElem?_set]; simp [Ne.symm hk]⟩) (by simp) (by simp [I.len])
        (fun b hb' => .inl (push_lt w _ b hb'))
        (fun z g2 hz hg2 hown => by
          rw [e2] at hg2; simp at hg2; subst hg2
          exact .inl ⟨Nat.le_refl _, by simp [g']⟩)
        (fun z g2 hz hg2 => by
          rw [ho] at hz; rw [hg] at hg2; simp at hz hg2; subst hz; subst hg2
          refine ⟨_, g', e1, e2, ?_⟩
          rcases hv with ⟨rfl, rfl, rfl⟩ | rfl
          · exact .more _ _ _ _ _ _ (by omega)
          · exact .anew _ _ _ _ _ _ _ (by omega))
      refine ⟨_, _, _, .inl (val_run hrun), s1, s2 fun z g2 hz hg2 => ?_, .osl _ _ _ _ _ _ ⟨_, _, _, rfl⟩ ⟨_, g', e1, e2, .inr ⟨rfl, by omega⟩, fun _ _ _ => ⟨_, rfl, fun _ => by simp [g']⟩⟩, hFr⟩
      rw [e1] at hz; rw [e2] at hg2; simp at hz hg2; subst hz; subst hg2
      refine arr_obj (ty := e) (D := D) s1 k1 (by simp [g', hesl]; omega) hesz (fun _ => ⟨Array.getElem?_push_size, by simp [g', hD]⟩) (fun i el hi j x hx => ?_)
      rw [hes] at hi
      simpa [g'] using hr i el hi j x hx (hlen i el (by rw [hes]; exact hi) j x hx)
end
end Go.Den
