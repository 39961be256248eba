/- Operations on maps. -/
import Derived.Test.YtljecilfdpgdbaaDenM2
namespace Go.Den
open Go

section
variable {P : Program} {tab : Nat → Nat}
theorem mapB_open {t : TypeId} {ag : Bool} {ks : List CK} (h : mapB P t ag ks = true) : ∃ k e d, P.underlying t = some (.map k e) ∧ P.underlying k = some d ∧ plainK P 50 k = some ks ∧ szB P k ks.length = true ∧ (match P.underlying k with | some (.struct _) => ag | some (.array _ _) => false | _ => !ag) = true := by
  unfold mapB at h
  split at h
  · rename_i k e hu
    simp only [Bool.and_eq_true, beq_iff_eq] at h
    obtain ⟨⟨h1, h2⟩, h3⟩ := h
    have hd : ∃ d, P.underlying k = some d := by
      cases hk : P.underlying k with
      | some d => exact ⟨d, rfl⟩
      | none => simp [plainK, hk] at h1
    obtain ⟨d, hd⟩ := hd
    exact ⟨k, e, d, hu, hd, h1, h2, h3⟩
  · exact absurd h (by simp)
theorem keyOk_open {ag : Bool} {ks : List CK} {x : AV} (h : keyOk ag ks x = true) : ∃ r, keyEq ag ks x x = some r := Option.isSome_iff_exists.1 h
theorem check_key {w w' : World} {S : Nat → Prop} {ag : Bool} {ks : List CK} {k : TypeId} (hp : plainK P 50 k = some ks) (ha : (match P.underlying k with | some (.struct _) => ag | some (.array _ _) => false | _ => !ag) = true) {x : AV} {u : Value} (h : keyOk ag ks x = true)
    (hx : RF tab w' S x u) (em : Bool) : (Instr.checkKey em 10000 k u).run P w = .ok () w := by
  obtain ⟨r, hr⟩ := keyOk_open h
  obtain ⟨us, ru, rfl⟩ := key_val ha hr hx
  exact check_plain (P := P) w w' S em 9950 50 k ks hp _ us ru (eqCells_len (keyEq_cells hr).2.2).1
theorem map_open {w : World} {F : Nat → Prop} {σ : St} {γ : List Gh} {o : Nat} {v : Value} {es : List (AV × AV)} (I : Inv tab w F σ γ) (hx : RS tab w F σ γ (.mapr o) v) (ho : σ[o]? = some (.map es)) :
    ∃ g ms clock, γ[o]? = some g ∧ v = .map (some g.b) ∧ w.heap[g.b]? = some (.map ms clock) ∧ ms.size = es.length ∧ ∀ (j : Nat) (p : AV × AV) (m : MapEntry), es[j]? = some p → ms[j]? = some m → RF tab w (Stab w F σ γ) p.1 m.key ∧ RS tab w F σ γ p.2 m.val := by
  cases hx with
  | fz _ _ h => exact absurd h.noref (by simp [AV.noref])
  | mapr _ g es' hs hg =>
    obtain ⟨ms, clock, h1, h2, h3⟩ := I.ok o _ g ho hg
    exact ⟨g, ms, clock, hg, rfl, h1, h2, h3⟩
/-- What a map holds. -/
theorem mapOf_ok {w : World} {F : Nat → Prop} {σ : St} {γ : List Gh} {x : AV} {v : Value} {es : List (AV × AV)} {t : Bool} (I : Inv tab w F σ γ) (hx : RS tab w F σ γ x v) (h : mapOf σ x = some (es, t)) :
    ∃ ms : Array MapEntry, ((v = .map none ∧ ms = #[]) ∨ ∃ r clock, v = .map (some r) ∧ w.heap[r]? = some (.map ms clock)) ∧ ms.size = es.length ∧ ∀ (j : Nat) (p : AV × AV) (m : MapEntry), es[j]? = some p → ms[j]? = some m → RF tab w (Stab w F σ γ) p.1 m.key ∧ RS tab w F σ γ p.2 m.val := by
  cases x with
  | nilmap =>
    simp [mapOf] at h
    obtain ⟨rfl, rfl⟩ := h
    cases hx.frozen rfl
    exact ⟨#[], .inl ⟨rfl, rfl⟩, rfl, by simp⟩
  | fmap es0 =>
    simp [mapOf] at h
    obtain ⟨rfl, rfl⟩ := h
    cases hx.frozen rfl with
    | fmap b _ ms clock hb hh hl hk hr => exact ⟨ms, .inr ⟨b, clock, rfl, hh⟩, hl, fun j p m hp hm => ⟨hk j p m hp hm, .fz _ _ (hr j p m hp hm)⟩⟩
  | mapr o =>
    simp only [mapOf] at h
    split at h
    · rename_i es' ho
      simp at h
      obtain ⟨rfl, rfl⟩ := h
      obtain ⟨g, ms, clock, hg, rfl, h1, h2, h3⟩ := map_open I hx ho
      exact ⟨ms, .inr ⟨g.b, clock, rfl, h1⟩, h2, h3⟩
    · exact absurd h (by simp)
  | _ => simp [mapOf] at h
theorem getObj_m {w : World} {r : Nat} {es : Array MapEntry} {clock : Nat} (hb : w.heap[r]? = some (.map es clock)) : (getObj r).run P w = .ok (.map es clock) w := by
  simp [getObj, Sem.run, hb]
theorem setObj_m {w : World} {r : Nat} {es : Array MapEntry} {clock : Nat} (o : Obj) (hb : w.heap[r]? = some (.map es clock)) : (setObj r o).run P w = .ok () { w with heap := w.heap.setIfInBounds r o } := by
  simp [setObj, Sem.run, hb]
theorem lookup_ok {w : World} {F : Nat → Prop} {base : Nat} {σ : St} {γ : List Gh} {t : TypeId} {ag : Bool} {ks : List CK} {zero x i : AV} {u v : Value} {es : List (AV × AV)} {tt : Bool} {o : Option AV} (I : Inv tab w F σ γ) (hB : mapB P t ag ks = true) (hZ : mapZ P t zero = true)
    (hx : RS tab w F σ γ x u) (hi : RS tab w F σ γ i v) (hm : mapOf σ x = some (es, tt)) (hk : keyOk ag ks i = true) (hf : mfind ag ks i es = some o) (ok : Bool) :
    Done tab F base w σ γ ((val (Instr.lookup t u v ok)).run P w) (match o with
      | some z => if ok then .tup [z, .bool true] else z
      | none => if ok then .tup [zero, .bool false] else zero) σ := by
  obtain ⟨k, e, d, hu, hd, hp, hs, ha⟩ := mapB_open hB
  obtain ⟨ms, hms, hl, hr⟩ := mapOf_ok I hx hm
  obtain ⟨r, hr0⟩ := keyOk_open hk
  have hi' := hi.frozen (keyEq_noref hr0).1
  have hchk := check_key (P := P) (w := w) hp ha hk hi' ms.isEmpty
  obtain ⟨j, hj, hj2⟩ := mfind_idx hf
  have hmaps : MapsTo tab w (Stab w F σ γ) es ms.toList := ⟨by simpa using hl, fun j p m hp hm => (hr j p m hp (by simpa using hm)).1⟩
  have hfind := find_key (P := P) hd hp ha hi' w hmaps hj
  obtain ⟨z, hz, hzz⟩ : ∃ z, (zeroValue e).run P w = .ok z w ∧ constB z zero = true := by
    unfold mapZ at hZ
    rw [hu] at hZ
    simp only [] at hZ
    split at hZ
    · rename_i inf hinf
      split at hZ
      · rename_i z hz
        exact ⟨z, by simp [zeroValue, run_typeInfo w hinf, hz], hZ⟩
      · exact absurd hZ (by simp)
    · exact absurd hZ (by simp)
  have key : ∀ (a : Value) (b : Bool) (y : AV), RS tab w F σ γ y a → RS tab w F σ γ (if ok then .tup [y, .bool b] else y) (if ok then .tuple #[a, .bool b] else a) := by
    intro a b y hy
    cases ok with
    | false => exact hy
    | true =>
      refine .tup [y, .bool b] [a, .bool b] rfl fun j x v hx hv => ?_
      cases j with
      | zero => simp at hx hv; subst hx; subst hv; exact hy
      | succ j => cases j with
        | zero => simp at hx hv; subst hx; subst hv; exact .fz _ _ (.bool b)
        | succ j => simp at hx
  rcases hj2 with ⟨rfl, rfl⟩ | ⟨n, p, rfl, h3, rfl, h5⟩
  · refine done_same I (v := if ok then .tuple #[z, .bool false] else z) (val_run ?_) (key z false zero (.fz _ _ (constB_ok tab hzz)))
    rcases hms with ⟨rfl, rfl⟩ | ⟨b, clock, rfl, hb⟩
    · simp only [Instr.lookup, Sem.run_bind, run_underlying hu, Result.andThen_ok, hchk, hfind, Option.bind_none, hz, Sem.run_pure]
    · simp only [Instr.lookup, Sem.run_bind, run_underlying hu, Result.andThen_ok, getObj_m hb, hchk, hfind, Option.bind_none, hz, Sem.run_pure]
  · obtain ⟨m, hm2⟩ := get_of_len (l := es) (l' := ms.toList) (by simpa using hl) h3
    refine done_same I (v := if ok then .tuple #[m.val, .bool true] else m.val) (val_run ?_) (key m.val true p.2 (hr n p m h3 (by simpa using hm2)).2)
    rcases hms with ⟨rfl, rfl⟩ | ⟨b, clock, rfl, hb⟩
    · simp at hm2
    · simp only [Instr.lookup, Sem.run_bind, run_underlying hu, Result.andThen_ok, getObj_m hb, hchk, hfind, Option.bind_some, hm2, Option.map_some, Sem.run_pure]
theorem mkmap_ok {w : World} {F : Nat → Prop} {base : Nat} {σ : St} {γ : List Gh} {t : TypeId} {r : Option Value} (I : Inv tab w F σ γ) (hb : base ≤ σ.length) (hr : ∀ v, r = some v → (∃ k n, v = .int k n) ∧ ∃ k e, P.underlying t = some (.map k e)) :
    Done tab F base w σ γ ((val (Instr.makeMap t r)).run P w) (.mapr σ.length) (σ ++ [.map []]) := by
  have hrun : (Instr.makeMap t r).run P w = .ok (.map (some w.heap.size)) (w.alloc (.map #[] 0)) := by
    cases r with
    | none => rfl
    | some v =>
      obtain ⟨⟨k, n, rfl⟩, k', e, hu⟩ := hr v rfl
      simp [Instr.makeMap, run_underlying hu, Go.asInt, asIntOf, Result.andThen]
  obtain ⟨h1, h2, h3⟩ := new_push I (base := base) hb (.map #[] 0) (.map []) 0 fun st => ⟨#[], 0, by simp, rfl, by simp⟩
  exact ⟨.map (some w.heap.size), _, _, .inl (by simp [val, hrun]), h1, h2, .mapr σ.length ⟨w.heap.size, 0, 0⟩ [] (by simp) (by rw [← I.len]; simp), h3⟩
/-- A change of the block that the k-th object owns. -/
theorem set_obj {w : World} {F : Nat → Prop} {σ : St} {γ : List Gh} (I : Inv tab w F σ γ) {k : Nat} {x x' : Ob} {g : Gh} (hx : σ[k]? = some x) (hg : γ[k]? = some g) (ho : owns x g = true) (hs : ObStep x g x' g) (ob : Obj) :
    Step σ.length w σ γ { w with heap := w.heap.setIfInBounds g.b ob } (σ.set k x') γ ∧ ((ObOk tab { w with heap := w.heap.setIfInBounds g.b ob } (Stab { w with heap := w.heap.setIfInBounds g.b ob } F (σ.set k x') γ) (σ.set k x') γ x' g) → Inv tab { w with heap := w.heap.setIfInBounds g.b ob } F (σ.set k x') γ) := by
  have hk := lt_of_get hx
  obtain ⟨h1, h2⟩ := change (w1 := { w with heap := w.heap.setIfInBounds g.b ob }) (σ1 := σ.set k x') (γ1 := γ) k I rfl rfl rfl (by simp)
    (fun o ho => ⟨by rw [List.getElem?_set]; simp [Ne.symm ho], rfl⟩) (by simp) (by simp [I.len])
    (fun b hb' => by
      by_cases e : b = g.b
      · exact .inr ⟨x, g, hx, hg, ho, e.symm⟩
      · exact .inl (by simp [Ne.symm e]))
    (fun y g' hy hg' _ => by
      rw [hg] at hg'; simp at hg'; subst hg'
      exact .inr ⟨x, g, hx, hg, ho, rfl⟩)
    (fun y g' hy hg' => by
      rw [hx] at hy; rw [hg] at hg'; simp at hy hg'; subst hy; subst hg'
      exact ⟨x', g, by simp [hk], hg, hs⟩)
  refine ⟨h1, fun hok => h2 fun y g' hy hg' => ?_⟩
  rw [hg] at hg'; simp [hk] at hy hg'; subst hy; subst hg'
  exact hok
theorem same_str (a : ByteArray) : (a == a) = true := by
  obtain ⟨a⟩ := a
  show ((a == a) : Bool) = true
  simp
theorem scal_det {w : World} {S : Nat → Prop} {k : CK} {x y : AV} {r : Bool} (h : eqB k x y = some r) {u v : Value} (hu : RF tab w S x u) (hv : RF tab w S x v) : u = v ∧ ∀ n, Instr.sameBits n u u = true := by
  cases k <;> cases x <;> (try (simp [eqB] at h; done)) <;> cases hu <;> cases hv
  · exact ⟨rfl, fun n => by cases n <;> simp [Instr.sameBits]⟩
  · exact ⟨rfl, fun n => by cases n <;> simp [Instr.sameBits]⟩
  · exact ⟨rfl, fun n => by cases n <;> simp [Instr.sameBits, same_str]⟩
theorem cells_det {w : World} {S : Nat → Prop} : ∀ {ks : List CK} {xs ys : List AV} {r : Bool}, eqCells ks xs ys = some r → ∀ {us vs : List Value}, Reads tab w S xs us → Reads tab w S xs vs → us = vs ∧ ∀ u ∈ us, ∀ n, Instr.sameBits n u u = true
  | [], [], _, _, _, us, vs, hu, hv => by
    have e1 : us = [] := List.eq_nil_of_length_eq_zero hu.1
    have e2 : vs = [] := List.eq_nil_of_length_eq_zero hv.1
    subst e1; subst e2; exact ⟨rfl, by simp⟩
  | [], _ :: _, _, _, h, _, _, _, _ => by simp [eqCells] at h
  | k :: ks, [], _, r, h, _, _, _, _ => by simp [eqCells] at h
  | k :: ks, _ :: _, [], r, h, _, _, _, _ => by simp [eqCells] at h
  | k :: ks, x :: xs, y :: ys, r, h, us, vs, hu, hv => by
    simp only [eqCells] at h
    split at h
    · rename_i a b h1 h2
      cases us with
      | nil => have := hu.1; simp at this
      | cons u us =>
        cases vs with
        | nil => have := hv.1; simp at this
        | cons v vs =>
          obtain ⟨q1, q2⟩ := scal_det h1 (hu.2 0 x u rfl rfl) (hv.2 0 x v rfl rfl)
          obtain ⟨p1, p2⟩ := cells_det h2 (us := us) (vs := vs) ⟨by have := hu.1; simpa using this, fun j x u hx hu' => hu.2 (j + 1) x u (by simpa using hx) (by simpa using hu')⟩ ⟨by have := hv.1; simpa using this, fun j x u hx hu' => hv.2 (j + 1) x u (by simpa using hx) (by simpa using hu')⟩
          refine ⟨by rw [q1, p1], fun z hz => ?_⟩
          rcases List.mem_cons.1 hz with rfl | hz
          · exact q2
          · exact p2 z hz
    · exact absurd h (by simp)
theorem key_stays {w : World} {S : Nat → Prop} {ag : Bool} {ks : List CK} {k : TypeId} (ha : (match P.underlying k with | some (.struct _) => ag | some (.array _ _) => false | _ => !ag) = true) {x y : AV} {r : Bool} (h : keyEq ag ks x y = some r) {u v : Value} (hu : RF tab w S x u) (hv : RF tab w S x v) :
    (Instr.keyThatStays u v).run P w = .ok v w := by
  obtain ⟨us, ru, rfl⟩ := key_val ha h hu
  obtain ⟨vs, rv, rfl⟩ := key_val ha h hv
  obtain ⟨q1, q2⟩ := cells_det (keyEq_cells h).2.2 ru rv
  subst q1
  have : Instr.sameBits 10000 (valOf P k us) (valOf P k us) = true := by
    unfold valOf
    have hag : ∀ us : List Value, (∀ u ∈ us, ∀ n, Instr.sameBits n u u = true) → Instr.sameBits 10000 (.agg us.toArray) (.agg us.toArray) = true := by
      intro us q2
      simp only [Instr.sameBits, Bool.and_eq_true, List.all_eq_true]
      refine ⟨by simp, fun p hp => ?_⟩
      have : p.1 = p.2 ∧ p.1 ∈ us := by
        have hz : ∀ {l : List Value} {p : Value × Value}, p ∈ l.zip l → p.1 = p.2 ∧ p.1 ∈ l := by
          intro l
          induction l with
          | nil => simp
          | cons a l ih =>
            intro p hp
            simp only [List.zip_cons_cons, List.mem_cons] at hp
            rcases hp with rfl | hp
            · exact ⟨rfl, by simp⟩
            · obtain ⟨h1, h2⟩ := ih hp; exact ⟨h1, by simp [h2]⟩
        exact hz (by simpa using hp)
      obtain ⟨p1, p2⟩ := p
      simp only at this ⊢
      rw [← this.1]
      exact q2 _ this.2 9999
    split
    · exact hag us q2
    · exact hag us q2
    · rename_i hn1 hn2
      cases us with
      | nil =>
        have := ru.1
        split at this
        · rename_i hag'
          exfalso
          revert ha
          split
          · rename_i hu'; exact (hn1 _ hu').elim
          · simp
          · simp [hag']
        · simp at this
      | cons u us => exact q2 u (by simp) _
  simp [Instr.keyThatStays, this]
theorem mapupd_ok {w : World} {F : Nat → Prop} {base : Nat} {σ : St} {γ : List Gh} {t : TypeId} {ag : Bool} {ks : List CK} {o : Nat} {k v : AV} {u a b : Value} {es es' : List (AV × AV)} (I : Inv tab w F σ γ) (hB : mapB P t ag ks = true)
    (hx : RS tab w F σ γ (.mapr o) u) (hk' : RS tab w F σ γ k a) (hv : RS tab w F σ γ v b) (ho : σ[o]? = some (.map es)) (hk : keyOk ag ks k = true) (hp : mput ag ks k v es = some es') (hst : v.noref = true ∨ base ≤ o) :
    Done tab F base w σ γ ((do Instr.mapUpdate t u a b; pure Next.skip : Sem Next).run P w) .dead (σ.set o (.map es')) := by
  obtain ⟨kt, e, d, hu, hd, hpl, hs, ha⟩ := mapB_open hB
  obtain ⟨g, ms, clock, hg, rfl, h1, h2, h3⟩ := map_open I hx ho
  obtain ⟨r, hr0⟩ := keyOk_open hk
  have hi' := hk'.frozen (keyEq_noref hr0).1
  have hchk := check_key (P := P) (w := w) hpl ha hk hi' false
  obtain ⟨j, hj, hj2⟩ := mput_idx hp
  have hmaps : MapsTo tab w (Stab w F σ γ) es ms.toList := ⟨by simpa using h2, fun j p m hp hm => (h3 j p m hp (by simpa using hm)).1⟩
  have hfind := find_key (P := P) hd hpl ha hi' w hmaps hj
  have hfr : ∀ b', (∀ p ∈ es', p.1.under b' = true ∧ p.2.under b' = true) → (Ob.map es').under b' = true := fun b' h => by
    simp only [Ob.under, List.all_eq_true]
    intro p hp
    simp [h p hp]
  have hkn : k.noref = true := (keyEq_noref hr0).1
  have fr : (∀ p ∈ es', p ∈ es ∨ p = (k, v)) → Fr base σ (σ.set o (.map es')) := fun hsub => Fr.set fun b' hb1 hb2 hF => hfr b' fun p hp => by
    rcases hsub p hp with q | rfl
    · have := hF o _ hb1 ho
      simp only [Ob.under, List.all_eq_true] at this
      simpa using this p q
    · refine ⟨noref_under _ hkn, ?_⟩
      rcases hst with q | q
      · exact noref_under _ q
      · omega
  rcases hj2 with ⟨rfl, rfl⟩ | ⟨n, p, rfl, h4, h5, rfl⟩
  · -- a new key
    have hrun : (Instr.mapUpdate t (.map (some g.b)) a b).run P w = .ok () { w with heap := w.heap.setIfInBounds g.b (.map (ms.push { key := a, val := b, born := clock }) (clock + 1)) } := by
      simp only [Instr.mapUpdate, Sem.run_bind, run_underlying hu, Result.andThen_ok, getObj_m h1, hchk, hfind, Option.bind_none, setObj_m _ h1]
    obtain ⟨s1, s2⟩ := set_obj I ho hg rfl (.map es (es ++ [(k, v)]) g) (.map (ms.push { key := a, val := b, born := clock }) (clock + 1))
    refine ⟨undef, _, γ, .inr ⟨by simp [hrun], rfl⟩, s1, s2 ⟨_, _, (MapKept.heap_set h1).1, by simp [h2], fun j p m hp hm => ?_⟩, .dead _, fr fun p hp => by simpa using hp⟩
    rw [List.getElem?_append] at hp
    rw [Array.getElem?_push] at hm
    rw [h2] at hm
    split at hp
    · rename_i hlt
      rw [if_neg (by omega)] at hm
      obtain ⟨q1, q2⟩ := h3 j p m hp hm
      exact ⟨q1.mono fun b hb => s1.stab hb, q2.step s1 q2.under⟩
    · rename_i hge
      have : j = es.length := by have := lt_of_get hp; simp at this; omega
      subst this
      simp at hp hm
      subst hp; subst hm
      exact ⟨hi'.mono fun b hb => s1.stab hb, hv.step s1 hv.under⟩
  · -- a known key
    obtain ⟨m, hm⟩ := get_of_len (l := es) (l' := ms.toList) (by simpa using h2) h4
    have hm' : ms[n]? = some m := by simpa using hm
    have hstay : (Instr.keyThatStays m.key a).run P w = .ok a w := key_stays ha hr0 (h5 ▸ (h3 n p m h4 hm').1) hi'
    have hrun : (Instr.mapUpdate t (.map (some g.b)) a b).run P w = .ok () { w with heap := w.heap.setIfInBounds g.b (.map (ms.modify n fun e => { e with key := a, val := b }) clock) } := by
      simp only [Instr.mapUpdate, Sem.run_bind, run_underlying hu, Result.andThen_ok, getObj_m h1, hchk, hfind, Option.bind_some, hm, Option.map_some, hm', Option.getD_some, hstay, setObj_m _ h1]
    obtain ⟨s1, s2⟩ := set_obj I ho hg rfl (.map es (es.set n (k, v)) g) (.map (ms.modify n fun e => { e with key := a, val := b }) clock)
    refine ⟨undef, _, γ, .inr ⟨by simp [hrun], rfl⟩, s1, s2 ⟨_, _, (MapKept.heap_set h1).1, by simp [h2], fun j p m hp hm => ?_⟩, .dead _, fr fun p hp => by
      rcases List.mem_or_eq_of_mem_set hp with h | h
      · exact .inl h
      · exact .inr h⟩
    rw [List.getElem?_set] at hp
    rw [Array.getElem?_modify] at hm
    split at hp
    · rename_i e
      subst e
      simp at hm hp
      obtain ⟨m0, hm0, rfl⟩ := hm
      obtain ⟨hlt, rfl⟩ := hp
      exact ⟨hi'.mono fun b hb => s1.stab hb, hv.step s1 hv.under⟩
    · rename_i e
      rw [if_neg e] at hm
      obtain ⟨q1, q2⟩ := h3 j p m hp hm
      exact ⟨q1.mono fun b hb => s1.stab hb, q2.step s1 q2.under⟩
end
end Go.Den
