import Derived.Test.YtghipgdajgeoiaaGreatDoorS07C
/-! Rows and changes, in plain words: what fits goes on fitting. -/
namespace Go.Den
open Go
set_option linter.unusedSimpArgs false
set_option linter.unusedVariables false
set_option maxRecDepth 100000
set_option maxHeartbeats 1000000
/-! Rows by their fields. -/
def Srt (r : List Cell) : Prop := r.Pairwise fun a b => a.id < b.id
def nz (v : Val) : Val := bif v.null then nullV else v
theorem nz_null (v : Val) : (nz v).null = v.null := by
  unfold nz; cases h : v.null <;> simp [h, nullV]
theorem nz_of {v : Val} (h : v.null = false) : nz v = v := by unfold nz; rw [h]; rfl
theorem getC_not {r : List Cell} {id : Int} (h : ∀ c ∈ r, c.id ≠ id) : getC r id = nullV := by
  induction r with
  | nil => rfl
  | cons c r ih => rw [getC, if_neg (h c (by simp)), ih fun x hx => h x (by simp [hx])]
theorem getC_mem {r : List Cell} {id : Int} (h : (getC r id).null = false) : ∃ c ∈ r, c.id = id ∧ c.v = getC r id := by
  induction r with
  | nil => rw [getC] at h; exact absurd h (by decide)
  | cons c r ih =>
    rw [getC] at h ⊢
    split at h
    · rename_i e; rw [if_pos e]; exact ⟨c, by simp, e, rfl⟩
    · rename_i e; rw [if_neg e]
      obtain ⟨x, x1, x2, x3⟩ := ih h
      exact ⟨x, by simp [x1], x2, x3⟩
theorem getC_of {r : List Cell} (s : Srt r) {c : Cell} (h : c ∈ r) : getC r c.id = c.v := by
  induction r with
  | nil => simp at h
  | cons x r ih =>
    obtain ⟨s1, s2⟩ := List.pairwise_cons.1 s
    rw [getC]
    rcases List.mem_cons.1 h with rfl | h
    · rw [if_pos rfl]
    · rw [if_neg (by have := s1 c h; omega)]
      exact ih s2 h
theorem putL_mem {r : List Cell} (s : Srt r) {id : Int} {v : Val} : ∀ {c : Cell}, c ∈ putL r id v → (c = ⟨id, v⟩ ∧ v.null = false) ∨ (c ∈ r ∧ c.id ≠ id) := by
  induction r with
  | nil =>
    intro c h
    rw [putL] at h
    cases hv : v.null with
    | true => rw [hv] at h; simp at h
    | false => rw [hv] at h; simp at h; exact .inl ⟨h, rfl⟩
  | cons x r ih =>
    intro c h
    obtain ⟨s1, s2⟩ := List.pairwise_cons.1 s
    rw [putL] at h
    split at h
    · rename_i hx
      rcases List.mem_cons.1 h with rfl | h
      · exact .inr ⟨by simp, by omega⟩
      · rcases ih s2 h with h | ⟨h1, h2⟩
        · exact .inl h
        · exact .inr ⟨by simp [h1], h2⟩
    · rename_i hx
      rcases List.mem_append.1 h with h | h
      · cases hv : v.null with
        | true => rw [hv] at h; simp at h
        | false => rw [hv] at h; simp at h; exact .inl ⟨h, rfl⟩
      · split at h
        · rename_i e
          exact .inr ⟨by simp [h], by have := s1 c h; omega⟩
        · rename_i e
          rcases List.mem_cons.1 h with rfl | h'
          · exact .inr ⟨by simp, e⟩
          · exact .inr ⟨h, by have := s1 c h'; omega⟩
theorem putL_srt {r : List Cell} (s : Srt r) (id : Int) (v : Val) : Srt (putL r id v) := by
  induction r with
  | nil => rw [putL]; cases v.null <;> simp [Srt]
  | cons x r ih =>
    obtain ⟨s1, s2⟩ := List.pairwise_cons.1 s
    rw [putL]
    split
    · rename_i hx
      refine List.pairwise_cons.2 ⟨fun c hc => ?_, ih s2⟩
      rcases putL_mem s2 hc with ⟨rfl, _⟩ | ⟨h, _⟩
      · exact hx
      · exact s1 c h
    · rename_i hx
      have tail : Srt (if x.id = id then r else x :: r) := by split; exact s2; exact s
      have gt : ∀ c ∈ (if x.id = id then r else x :: r), id < c.id := by
        intro c hc
        split at hc
        · have := s1 c hc; omega
        · rcases List.mem_cons.1 hc with rfl | hc
          · omega
          · have := s1 c hc; omega
      cases v.null with
      | true => exact tail
      | false => exact List.pairwise_cons.2 ⟨fun c hc => gt c hc, tail⟩
theorem getC_put {r : List Cell} (s : Srt r) (id : Int) (v : Val) (j : Int) : getC (putL r id v) j = if j = id then nz v else getC r j := by
  induction r with
  | nil =>
    rw [putL]
    unfold nz
    cases hv : v.null with
    | true => simp only [cond_true, getC]; split <;> rfl
    | false => simp only [cond_false, getC, eq_comm]
  | cons x r ih =>
    obtain ⟨s1, s2⟩ := List.pairwise_cons.1 s
    rw [putL]
    split
    · rename_i hx
      rw [getC, getC, ih s2]
      by_cases e : x.id = j
      · rw [if_pos e, if_pos e, if_neg (by omega)]
      · rw [if_neg e, if_neg e]
    · rename_i hx
      have tl : j ≠ id → getC (if x.id = id then r else x :: r) j = getC (x :: r) j := by
        intro hj
        split
        · rename_i e; rw [getC, if_neg (by omega)]
        · rfl
      have tid : getC (if x.id = id then r else x :: r) id = nullV := by
        refine getC_not fun c hc => ?_
        split at hc
        · have := s1 c hc; omega
        · rcases List.mem_cons.1 hc with rfl | hc
          · omega
          · have := s1 c hc; omega
      unfold nz
      cases hv : v.null with
      | true =>
        simp only [cond_true, List.nil_append]
        by_cases e : j = id
        · rw [if_pos e, e, tid]
        · rw [if_neg e]; exact tl e
      | false =>
        simp only [cond_false, List.cons_append, List.nil_append]
        rw [getC]
        by_cases e : id = j
        · rw [if_pos e, if_pos e.symm]
        · rw [if_neg e, if_neg (Ne.symm e)]; exact tl (Ne.symm e)
def NN (r : List Cell) : Prop := ∀ c ∈ r, c.v.null = false
theorem putL_nn {r : List Cell} (s : Srt r) (h : NN r) (id : Int) (v : Val) : NN (putL r id v) := fun c hc => by
  rcases putL_mem s hc with ⟨rfl, h1⟩ | ⟨h1, _⟩
  · exact h1
  · exact h c h1
/-- Rows with the same fields are the same. -/
theorem row_ext : ∀ {r q : List Cell}, Srt r → Srt q → NN r → NN q → (∀ j, getC r j = getC q j) → r = q
  | [], [], _, _, _, _, _ => rfl
  | [], c :: q, _, s, _, n, h => by
    have := h c.id
    rw [getC_of s (by simp), getC] at this
    have h2 := n c (by simp)
    rw [← this] at h2; exact absurd h2 (by decide)
  | c :: r, [], s, _, n, _, h => by
    have := h c.id
    rw [getC_of s (by simp), getC] at this
    have h2 := n c (by simp)
    rw [this] at h2; exact absurd h2 (by decide)
  | c :: r, d :: q, s, t, n, m, h => by
    obtain ⟨s1, s2⟩ := List.pairwise_cons.1 s
    obtain ⟨t1, t2⟩ := List.pairwise_cons.1 t
    have hc := h c.id
    rw [getC_of s (by simp)] at hc
    have hd := h d.id
    rw [getC_of t (by simp)] at hd
    have nc := n c (by simp)
    have nd := m d (by simp)
    obtain ⟨x, x1, x2, x3⟩ := getC_mem (r := d :: q) (id := c.id) (by rw [← hc]; exact nc)
    obtain ⟨y, y1, y2, y3⟩ := getC_mem (r := c :: r) (id := d.id) (by rw [hd]; exact nd)
    have e : c.id = d.id := by
      rcases List.mem_cons.1 x1 with rfl | hx <;> rcases List.mem_cons.1 y1 with rfl | hy
      · exact x2.symm
      · exact x2.symm
      · exact y2
      · have := t1 x hx; have := s1 y hy; omega
    have ev : c.v = d.v := by rw [hc, e, getC_of t (by simp)]
    have ecd : c = d := by cases c; cases d; simp at e ev; rw [e, ev]
    subst ecd
    congr 1
    refine row_ext s2 t2 (fun x hx => n x (by simp [hx])) (fun x hx => m x (by simp [hx])) fun j => ?_
    by_cases hj : j = c.id
    · rw [hj, getC_not fun x hx => by have := s1 x hx; omega, getC_not fun x hx => by have := t1 x hx; omega]
    · have := h j
      rw [getC, getC, if_neg (Ne.symm hj), if_neg (Ne.symm hj)] at this
      exact this
/-! Schemas by the types of their fields. -/
def tyF (fs : List Fld) (id : Int) : Option Int := bif hasF fs id then some (getF fs id).type else none
def okT (o : Option Int) (v : Val) : Bool := match o with
  | none => false
  | some t => typeOk t && (!v.null && okV v t)
theorem fitC_ty (fs : List Fld) (c : Cell) : fitC fs c = okT (tyF fs c.id) c.v := by
  unfold fitC okT tyF
  cases hasF fs c.id with
  | false => rfl
  | true =>
    simp only [cond_true, Bool.true_and]
    cases h : typeOk (getF fs c.id).type with
    | false => simp
    | true =>
      have : decide ((getF fs c.id).type = 6) = false := by simp only [typeOk, Bool.and_eq_true, decide_eq_true_eq] at h; simp; omega
      rw [this]; simp
/-- A row fits. -/
structure Ft (T : Int → Option Int) (r : List Cell) : Prop where
  srt : Srt r
  nn : NN r
  ok : ∀ j, (getC r j).null = false → okT (T j) (getC r j) = true
theorem ft_of {fs : List Fld} {r : List Cell} {p : Int} (h : fitsS fs p r = true) : Ft (tyF fs) r := by
  have hall : ∀ {r : List Cell} {p : Int}, fitsS fs p r = true → ∀ c ∈ r, fitC fs c = true := by
    intro r
    induction r with
    | nil => simp
    | cons c r ih =>
      intro p h x hx
      rw [fitsS, Bool.and_eq_true, Bool.and_eq_true] at h
      rcases List.mem_cons.1 hx with rfl | hx
      · exact h.1.1
      · exact ih h.2 x hx
  obtain ⟨h1, h2⟩ := fits_rise h
  have hs : Srt r := by unfold Srt; rw [List.pairwise_map] at h1; exact h1
  refine ⟨hs, fun c hc => ?_, fun j hj => ?_⟩
  · have := hall h c hc
    simp only [fitC, Bool.and_eq_true, Bool.not_eq_true'] at this
    exact this.2.2.1
  · obtain ⟨c, hc, rfl, hv⟩ := getC_mem hj
    have := hall h c hc
    rw [fitC_ty, hv] at this
    exact this
theorem of_ft {fs : List Fld} (hp : ∀ f ∈ fs, 1 ≤ f.id) {r : List Cell} (h : Ft (tyF fs) r) : fitsS fs 0 r = true := by
  have key : ∀ (q : List Cell) (p : Int), Srt q → (∀ c ∈ q, p < c.id ∧ fitC fs c = true) → fitsS fs p q = true := by
    intro q
    induction q with
    | nil => intro p _ _; rfl
    | cons c q ih =>
      intro p s hq
      obtain ⟨s1, s2⟩ := List.pairwise_cons.1 s
      rw [fitsS, (hq c (by simp)).2, ih c.id s2 fun x hx => ⟨s1 x hx, (hq x (by simp [hx])).2⟩]
      have := (hq c (by simp)).1
      simpa using this
  refine key r 0 h.srt fun c hc => ?_
  have hg := getC_of h.srt hc
  have hf : fitC fs c = true := by
    rw [fitC_ty, ← hg]
    exact h.ok c.id (by rw [hg]; exact h.nn c hc)
  refine ⟨?_, hf⟩
  simp only [fitC, Bool.and_eq_true] at hf
  have := hasF_pos hp hf.1
  omega
end Go.Den

/-! What a change does to the types of the fields. -/
namespace Go.Den
open Go
set_option linter.unusedSimpArgs false
set_option linter.unusedVariables false
set_option maxRecDepth 100000
set_option maxHeartbeats 1000000
theorem tyF_app (fs gs : List Fld) (j : Int) : tyF (fs ++ gs) j = match tyF fs j with
    | some t => some t
    | none => tyF gs j := by
  unfold tyF
  rw [hasF_app]
  cases h : hasF fs j with
  | true => rw [getF_app gs h]; rfl
  | false =>
    simp only [Bool.false_or, cond_false]
    cases hasF gs j with
    | false => rfl
    | true =>
      simp only [cond_true]
      congr 2
      induction fs with
      | nil => rfl
      | cons f r ih =>
        simp only [hasF, List.any_cons, Bool.or_eq_false_iff, decide_eq_false_iff_not] at h
        rw [List.cons_append, getF, if_neg h.1]
        exact ih h.2
theorem tyF_one (n ty pa : Int) (nm : ByteArray) (j : Int) : tyF [⟨n, nm, ty, pa⟩] j = if j = n then some ty else none := by
  unfold tyF hasF
  simp only [List.any_cons, List.any_nil, Bool.or_false, getF]
  by_cases h : n = j
  · rw [if_pos h, if_pos h.symm]; simp [h]
  · rw [if_neg (Ne.symm h)]; simp [h]
theorem tyF_keep (fs : List Fld) (a b j : Int) : tyF (fs.filter (keepB a b)) j = if j = a ∨ j = b then none else tyF fs j := by
  unfold tyF
  by_cases h : j = a ∨ j = b
  · rw [if_pos h]
    have : hasF (fs.filter (keepB a b)) j = false := by
      unfold hasF
      rw [List.any_eq_false]
      intro f hf
      have := (List.mem_filter.1 hf).2
      simp [keepB] at this
      simp only [decide_eq_true_eq]
      omega
    rw [this]; rfl
  · rw [if_neg h]
    obtain ⟨h1, h2⟩ := hasF_keep fs (a := a) (b := b) (id := j) (fun e => h (.inl e)) (fun e => h (.inr e))
    rw [h1, h2]
theorem tyF_put (fs : List Fld) (g : Fld) (j : Int) : tyF (fs.map (putF g)) j = if j = g.id ∧ hasF fs j = true then some g.type else tyF fs j := by
  unfold tyF
  rw [hasF_put]
  cases h : hasF fs j with
  | false => simp
  | true =>
    rw [getF_put2 j h]
    by_cases e : j = g.id
    · rw [if_pos e, if_pos ⟨e, rfl⟩]; rfl
    · rw [if_neg e, if_neg (fun x => e x.1)]
theorem tyF_some {fs : List Fld} {j t : Int} (h : tyF fs j = some t) : hasF fs j = true ∧ (getF fs j).type = t := by
  unfold tyF at h
  cases hh : hasF fs j with
  | false => rw [hh] at h; exact absurd h (by simp)
  | true => rw [hh] at h; simp at h; exact ⟨rfl, h⟩
def Bd (T : Int → Option Int) (n : Int) : Prop := ∀ j t, T j = some t → 1 ≤ j ∧ j < n
theorem SV.bd {fs : List Fld} {next : Int} (s : SV fs next) : Bd (tyF fs) next := fun j t h => by
  obtain ⟨h1, _⟩ := tyF_some h
  obtain ⟨h2, h3⟩ := getF_id h1
  have := s.n.q.pos _ h3
  have := s.n.lt _ h3
  omega
def Eff (T T' : Int → Option Int) (c : Chg) (n : Int) : Prop :=
  (c.kind = 1 ∧ ∃ t, ∀ j, T' j = if j = n then some t else T j) ∨
  (c.kind = 2 ∧ ∀ j, T' j = if j = c.id then none else T j) ∨
  ((c.kind = 3 ∨ c.kind = 5) ∧ ∀ j, T' j = T j) ∨
  (c.kind = 4 ∧ T c.id = some 2 ∧ ∀ j, T' j = if j = c.id then some 3 else T j) ∨
  (c.kind = 6 ∧ T c.id = some 4 ∧ ∀ j, T' j = if j = n ∨ j = n + 1 then some 4 else if j = c.id then none else T j) ∨
  (c.kind = 7 ∧ T c.id = some 4 ∧ T c.wi = some 4 ∧ c.id ≠ c.wi ∧ ∀ j, T' j = if j = n then some 4 else if j = c.id ∨ j = c.wi then none else T j)
theorem tyF_has {fs : List Fld} {j : Int} (h : hasF fs j = true) : tyF fs j = some (getF fs j).type := by unfold tyF; rw [h]; rfl
theorem eff_of {fs : List Fld} {next : Int} {c : Chg} (s : SV fs next) : (applyC fs next c).e = 0 → Eff (tyF fs) (tyF (applyC fs next c).fs) c next := by
  have bd := s.bd
  let P : SR → Prop := fun r => Eff (tyF fs) (tyF r.fs) c next
  show _ → P (applyC fs next c)
  have hb : ∀ {e : Int}, e ≠ 0 → (bad e).e = 0 → P (bad e) := fun he => bad_case he
  have new : tyF fs next = none := by
    cases h : tyF fs next with
    | none => rfl
    | some t => have := bd _ _ h; omega
  have new1 : tyF fs (next + 1) = none := by
    cases h : tyF fs (next + 1) with
    | none => rfl
    | some t => have := bd _ _ h; omega
  have app1 : ∀ (gs : List Fld) (nm : ByteArray) (ty pa j n : Int), tyF gs n = none → tyF (gs ++ [⟨n, nm, ty, pa⟩]) j = if j = n then some ty else tyF gs j := by
    intro gs nm ty pa j n hn
    rw [tyF_app, tyF_one]
    by_cases e : j = n
    · rw [e, hn]
    · rw [if_neg e]
      cases tyF gs j <;> simp [e]
  unfold applyC
  split
  · rename_i hk
    unfold addS
    refine bif_case2 (fun _ => hb (by decide)) fun b1 => bif_case2 (fun _ => hb (by decide)) fun b2 => bif_case2 (fun _ => hb (by decide)) fun b3 => bif_case2 (fun _ => hb (by decide)) fun b4 _ => ?_
    exact .inl ⟨hk, c.type, fun j => app1 fs _ _ _ j next new⟩
  · split
    · rename_i hk1 hk
      unfold oneS moveS
      refine bif_case2 (fun _ => hb (by decide)) fun b1 => ?_
      have hd : hasF fs c.id = true := by simpa using b1
      obtain ⟨hid, hmem⟩ := getF_id hd
      have hty := tyF_has hd
      generalize getF fs c.id = G at *
      have same : ∀ g : Fld, g.id = c.id → g.type = G.type → ∀ j, tyF (fs.map (putF g)) j = tyF fs j := by
        intro g g1 g2 j
        rw [tyF_put, g1, g2]
        split
        · rename_i h; rw [h.1, hty]
        · rfl
      refine bif_case2 (fun h2 => ?_) fun n2 => bif_case2 (fun h3 => ?_) fun n3 => bif_case2 (fun h4 => ?_) fun n4 => ?_
      · refine bif_case2 (fun _ => hb (by decide)) fun b2 _ => ?_
        refine .inr (.inl ⟨by simpa using h2, fun j => ?_⟩)
        show tyF (fs.filter (keepB G.id G.id)) j = _
        rw [tyF_keep, hid]
        simp only [or_self]
      · refine bif_case2 (fun _ => hb (by decide)) fun b2 _ => ?_
        exact .inr (.inr (.inl ⟨.inl (by simpa using h3), same { G with name := c.name } hid rfl⟩))
      · refine bif_case2 (fun _ => hb (by decide)) fun b2 _ => ?_
        have h2 : G.type = 2 := by simpa using b2
        refine .inr (.inr (.inr (.inl ⟨by simpa using h4, by rw [hty, h2], fun j => ?_⟩)))
        show tyF (fs.map (putF { G with type := 3 })) j = _
        rw [tyF_put]
        simp only [hid]
        by_cases e : j = c.id
        · rw [if_pos ⟨e, by rw [e]; exact hd⟩, if_pos e]
        · rw [if_neg (fun x => e x.1), if_neg e]
      · refine bif_case2 (fun _ => hb (by decide)) fun b2 => bif_case2 (fun _ => hb (by decide)) fun b3 => bif_case2 (fun _ => hb (by decide)) fun b4 _ => ?_
        simp only [decide_eq_false_iff_not] at n2 n3 n4
        exact .inr (.inr (.inl ⟨.inr (by omega), same { G with par := c.par } hid rfl⟩))
    · split
      · rename_i hk1 hk2 hk
        unfold splitS
        refine bif_case2 (fun _ => hb (by decide)) fun b1 => ?_
        have hd : hasF fs c.id = true := by simpa using b1
        obtain ⟨hid, hmem⟩ := getF_id hd
        have hty := tyF_has hd
        generalize getF fs c.id = G at *
        refine bif_case2 (fun _ => hb (by decide)) fun b2 => bif_case2 (fun _ => hb (by decide)) fun b3 => bif_case2 (fun _ => hb (by decide)) fun b4 => bif_case2 (fun _ => hb (by decide)) fun b5 _ => ?_
        have h4 : G.type = 4 := by simpa using b2
        refine .inr (.inr (.inr (.inr (.inl ⟨hk, by rw [hty, h4], fun j => ?_⟩))))
        show tyF (_ ++ [_] ++ [_]) j = _
        have k1 : ∀ i, tyF fs i = none → tyF (fs.filter (keepB G.id G.id)) i = none := fun i hi => by rw [tyF_keep, hi]; split <;> rfl
        rw [app1 _ _ _ _ j (next + 1) (by rw [app1 _ _ _ _ _ next (k1 _ new), if_neg (by omega)]; exact k1 _ new1), app1 _ _ _ _ j next (k1 _ new), tyF_keep, hid]
        simp only [or_self]
        by_cases e1 : j = next + 1
        · rw [if_pos e1, if_pos (.inr e1)]
        · by_cases e2 : j = next
          · rw [if_neg e1, if_pos e2, if_pos (.inl e2)]
          · simp only [e1, e2, or_self, if_false]
      · split
        · rename_i hk1 hk2 hk3 hk
          unfold joinS
          refine bif_case2 (fun _ => hb (by decide)) fun b1 => ?_
          simp only [Bool.or_eq_false_iff, Bool.not_eq_false', decide_eq_false_iff_not] at b1
          obtain ⟨hd, hdw, hne⟩ := b1
          obtain ⟨hid, hmem⟩ := getF_id hd
          obtain ⟨hiw, hmew⟩ := getF_id hdw
          have hty := tyF_has hd
          have htw := tyF_has hdw
          generalize getF fs c.id = G at *
          generalize getF fs c.wi = W at *
          refine bif_case2 (fun _ => hb (by decide)) fun b2 => bif_case2 (fun _ => hb (by decide)) fun b3 => bif_case2 (fun _ => hb (by decide)) fun b4 => bif_case2 (fun _ => hb (by decide)) fun b5 => bif_case2 (fun _ => hb (by decide)) fun b6 _ => ?_
          simp only [Bool.or_eq_false_iff, Bool.not_eq_false', decide_eq_true_eq] at b2
          refine .inr (.inr (.inr (.inr (.inr ⟨hk, by rw [hty, b2.1], by rw [htw, b2.2], by omega, fun j => ?_⟩))))
          show tyF (_ ++ [_]) j = _
          rw [app1 _ _ _ _ j next (by rw [tyF_keep, new]; split <;> rfl), tyF_keep, hid, hiw]
        · exact hb (by decide)
end Go.Den

/-! Translated rows fit. -/
namespace Go.Den
open Go
set_option linter.unusedSimpArgs false
set_option linter.unusedVariables false
set_option maxRecDepth 100000
set_option maxHeartbeats 1000000
theorem okT_some {o : Option Int} {v : Val} (h : okT o v = true) : ∃ t, o = some t ∧ typeOk t = true ∧ v.null = false ∧ okV v t = true := by
  cases o with
  | none => exact absurd h (by simp [okT])
  | some t =>
    simp only [okT, Bool.and_eq_true, Bool.not_eq_true'] at h
    exact ⟨t, rfl, h.1, h.2.1, h.2.2⟩
/-- A text that fits. -/
def TextOk (v : Val) : Prop := v.null = false ∧ v.n = 0 ∧ v.s.size ≤ 200
theorem okT_text {v : Val} : okT (some 4) v = true ↔ TextOk v := by
  simp only [okT, okV, TextOk, decide_true, cond_true, Bool.and_eq_true, Bool.not_eq_true', decide_eq_true_eq]
  constructor
  · rintro ⟨_, h1, h2⟩
    rw [h1, cond_false, Bool.and_eq_true, decide_eq_true_eq, decide_eq_true_eq] at h2
    exact ⟨h1, h2.1, by omega⟩
  · rintro ⟨h1, h2, h3⟩
    refine ⟨by decide, h1, ?_⟩
    rw [h1, cond_false, Bool.and_eq_true, decide_eq_true_eq, decide_eq_true_eq]
    exact ⟨h2, by omega⟩
theorem divV_ok {s t : ByteArray} (h : s.size ≤ 200) : TextOk (divV s t).1 ∧ ((divV s t).2.null = false → TextOk (divV s t).2) := by
  unfold divV
  cases decide (0 ≤ ixS s t) with
  | false => exact ⟨⟨rfl, rfl, h⟩, fun h => absurd h (by simp [nullV])⟩
  | true =>
    simp only [cond_true]
    refine ⟨⟨rfl, rfl, ?_⟩, fun _ => ⟨rfl, rfl, ?_⟩⟩ <;> (show (ByteArray.extract _ _ _).size ≤ 200; rw [ByteArray.size_extract]; omega)
theorem conV_ok {a b : Val} {t : ByteArray} (h : (conV a b t).null = false) : TextOk (conV a b t) := by
  unfold conV at *
  cases hn : a.null && b.null with
  | true => rw [hn] at h; exact absurd h (by simp [nullV])
  | false =>
    simp only [cond_false]
    have := cutS_size (a.s ++ t ++ b.s)
    exact ⟨rfl, rfl, by show (cutS 200 _).size ≤ 200; omega⟩
theorem Ft.put {T T' : Int → Option Int} {r : List Cell} (f : Ft T r) (id : Int) (v : Val) (h0 : v.null = false → okT (T' id) v = true) (h1 : ∀ j, j ≠ id → (getC r j).null = false → okT (T' j) (getC r j) = true) : Ft T' (putL r id v) :=
  ⟨putL_srt f.srt id v, putL_nn f.srt f.nn id v, fun j hj => by
    rw [getC_put f.srt] at hj ⊢
    by_cases e : j = id
    · rw [if_pos e] at hj ⊢
      rw [nz_null] at hj
      rw [nz_of hj, e]
      exact h0 hj
    · rw [if_neg e] at hj ⊢
      exact h1 j e hj⟩
theorem Ft.mono {T T' : Int → Option Int} {r : List Cell} (f : Ft T r) (h : ∀ j, (getC r j).null = false → okT (T' j) (getC r j) = true) : Ft T' r := ⟨f.srt, f.nn, h⟩
theorem nv : nullV.null = true := rfl
/-- Which types a row without some fields fits. -/
theorem Ft.cut {T : Int → Option Int} {r : List Cell} (f : Ft T r) (id : Int) : Ft (fun j => if j = id then none else T j) (putL r id nullV) :=
  f.put id nullV (fun h => absurd h (by decide)) fun j hj h => by simp only [if_neg hj]; exact f.ok j h
theorem apart_ft {T T' : Int → Option Int} {r : List Cell} {a x y : Int} {t : ByteArray} (f : Ft T r) (ha : T a = some 4) (hx : T' x = some 4) (hy : T' y = some 4) (hT : ∀ j, j ≠ a → T' j = T j ∨ j = x ∨ j = y) (hTa : T' a = none ∨ a = x ∨ a = y)
    (hxa : T x = none) (hya : T y = none) : Ft T' (apartL r a x y t) := by
  have c := f.cut a
  have base : ∀ j, (getC (putL r a nullV) j).null = false → okT (T' j) (getC (putL r a nullV) j) = true := by
    intro j hj
    have h := c.ok j hj
    obtain ⟨u, h1, _⟩ := okT_some h
    by_cases e : j = a
    · rw [if_pos e] at h1; exact absurd h1 (by simp)
    · simp only [if_neg e] at h h1
      rcases hT j e with h' | h' | h'
      · rw [h']; exact h
      · rw [h', hxa] at h1; exact absurd h1 (by simp)
      · rw [h', hya] at h1; exact absurd h1 (by simp)
  have f0 : Ft T' (putL r a nullV) := c.mono base
  unfold apartL
  cases hn : (getC r a).null with
  | true => exact f0
  | false =>
    have ht := f.ok a hn
    rw [ha, okT_text] at ht
    obtain ⟨d1, d2⟩ := divV_ok (t := t) ht.2.2
    have f1 : Ft T' (putL (putL r a nullV) x (divV (getC r a).s t).1) := f0.put x _ (fun _ => by rw [hx, okT_text]; exact d1) fun j _ h => f0.ok j h
    exact f1.put y _ (fun h => by rw [hy, okT_text]; exact d2 h) fun j _ h => f1.ok j h
theorem fwd_ft {T T' : Int → Option Int} {c : Chg} {n : Int} (e : Eff T T' c n) (bd : Bd T n) {r : List Cell} (f : Ft T r) : Ft T' (fwdL c n r) := by
  have tn : ∀ j t, T j = some t → j ≠ n ∧ j ≠ n + 1 := fun j t h => by have := bd j t h; omega
  have tN : T n = none := by cases h : T n with | none => rfl | some t => exact absurd rfl (tn _ _ h).1
  have tN1 : T (n + 1) = none := by cases h : T (n + 1) with | none => rfl | some t => exact absurd rfl (tn _ _ h).2
  unfold fwdL
  rcases e with ⟨k, t, h⟩ | ⟨k, h⟩ | ⟨k, h⟩ | ⟨k, h2, h⟩ | ⟨k, h4, h⟩ | ⟨k, h4, w4, hne, h⟩
  · have e2 : decide (c.kind = 2) = false := by simp; omega
    have e6 : decide (c.kind = 6) = false := by simp; omega
    have e7 : decide (c.kind = 7) = false := by simp; omega
    simp only [e2, e6, e7, cond_false]
    refine f.mono fun j hj => ?_
    have ok := f.ok j hj
    obtain ⟨u, h1, _⟩ := okT_some ok
    rw [h, if_neg (tn j u h1).1]; exact ok
  · have e2 : decide (c.kind = 2) = true := by simpa using k
    simp only [e2, cond_true]
    refine (f.cut c.id).mono fun j hj => ?_
    rw [h]; exact (f.cut c.id).ok j hj
  · have e2 : decide (c.kind = 2) = false := by simp; omega
    have e6 : decide (c.kind = 6) = false := by simp; omega
    have e7 : decide (c.kind = 7) = false := by simp; omega
    simp only [e2, e6, e7, cond_false]
    exact f.mono fun j hj => by rw [h]; exact f.ok j hj
  · have e2 : decide (c.kind = 2) = false := by simp; omega
    have e6 : decide (c.kind = 6) = false := by simp; omega
    have e7 : decide (c.kind = 7) = false := by simp; omega
    simp only [e2, e6, e7, cond_false]
    refine f.mono fun j hj => ?_
    have ok := f.ok j hj
    rw [h]
    by_cases ej : j = c.id
    · rw [if_pos ej]
      rw [ej, h2] at ok
      rw [ej]
      obtain ⟨u, h1, _, h3, h5⟩ := okT_some ok
      cases h1
      simp only [okV, h3, decide_true, dt24, dt23, cond_false, Bool.and_eq_true] at h5
      simp only [okT, okV, h3, decide_true, dt34, dt33, cond_false, cond_true, Bool.not_false, Bool.true_and]
      exact h5.1.1
    · rw [if_neg ej]; exact ok
  · have e2 : decide (c.kind = 2) = false := by simp; omega
    have e6 : decide (c.kind = 6) = true := by simpa using k
    simp only [e2, e6, cond_true, cond_false]
    have hc := tn _ _ h4
    refine apart_ft f h4 (by rw [h, if_pos (.inl rfl)]) (by rw [h, if_pos (.inr rfl)]) (fun j hj => ?_) (.inl (by rw [h, if_neg (fun x => x.elim hc.1 hc.2), if_pos rfl])) tN tN1
    by_cases e1 : j = n
    · exact .inr (.inl e1)
    · by_cases e1' : j = n + 1
      · exact .inr (.inr e1')
      · exact .inl (by rw [h, if_neg (fun x => x.elim e1 e1'), if_neg hj])
  · have e2 : decide (c.kind = 2) = false := by simp; omega
    have e6 : decide (c.kind = 6) = false := by simp; omega
    have e7 : decide (c.kind = 7) = true := by simpa using k
    simp only [e2, e6, e7, cond_true, cond_false]
    have c2 := (f.cut c.id).cut c.wi
    refine c2.put n _ (fun hn => by rw [h, if_pos rfl, okT_text]; exact conV_ok hn) fun j hj hnn => ?_
    have ok := c2.ok j hnn
    obtain ⟨u, h1, _⟩ := okT_some ok
    rw [h, if_neg hj]
    by_cases ew : j = c.wi
    · simp only [if_pos ew] at h1; exact absurd h1 (by simp)
    · by_cases ei : j = c.id
      · simp only [if_neg ew, if_pos ei] at h1; exact absurd h1 (by simp)
      · simp only [if_neg ew, if_neg ei] at ok
        rw [if_neg (fun x => x.elim ei ew)]; exact ok
theorem bak_ft {T T' : Int → Option Int} {c : Chg} {n : Int} (e : Eff T T' c n) (bd : Bd T n) {r : List Cell} (f : Ft T' r) : Ft T (bakL c n r) := by
  have tn : ∀ j t, T j = some t → j ≠ n ∧ j ≠ n + 1 := fun j t h => by have := bd j t h; omega
  have tN : T n = none := by cases h : T n with | none => rfl | some t => exact absurd rfl (tn _ _ h).1
  have tN1 : T (n + 1) = none := by cases h : T (n + 1) with | none => rfl | some t => exact absurd rfl (tn _ _ h).2
  unfold bakL
  rcases e with ⟨k, t, h⟩ | ⟨k, h⟩ | ⟨k, h⟩ | ⟨k, h2, h⟩ | ⟨k, h4, h⟩ | ⟨k, h4, w4, hne, h⟩
  · have e1 : decide (c.kind = 1) = true := by simpa using k
    simp only [e1, cond_true]
    refine (f.cut n).mono fun j hj => ?_
    have ok := (f.cut n).ok j hj
    by_cases ej : j = n
    · simp only [if_pos ej] at ok; exact absurd ok (by simp [okT])
    · simp only [if_neg ej, h] at ok; exact ok
  · have e1 : decide (c.kind = 1) = false := by simp; omega
    have e4 : decide (c.kind = 4) = false := by simp; omega
    have e6 : decide (c.kind = 6) = false := by simp; omega
    have e7 : decide (c.kind = 7) = false := by simp; omega
    simp only [e1, e4, e6, e7, cond_false]
    refine f.mono fun j hj => ?_
    have ok := f.ok j hj
    rw [h] at ok
    split at ok
    · exact absurd ok (by simp [okT])
    · exact ok
  · have e1 : decide (c.kind = 1) = false := by simp; omega
    have e4 : decide (c.kind = 4) = false := by simp; omega
    have e6 : decide (c.kind = 6) = false := by simp; omega
    have e7 : decide (c.kind = 7) = false := by simp; omega
    simp only [e1, e4, e6, e7, cond_false]
    exact f.mono fun j hj => by rw [← h]; exact f.ok j hj
  · have e1 : decide (c.kind = 1) = false := by simp; omega
    have e4 : decide (c.kind = 4) = true := by simpa using k
    simp only [e1, e4, cond_true, cond_false]
    have other : ∀ j, j ≠ c.id → (getC r j).null = false → okT (T j) (getC r j) = true := fun j hj hn => by
      have := f.ok j hn
      rw [h, if_neg hj] at this; exact this
    unfold narrowL
    cases hr : decide ((getC r c.id).n < -2147483648) || decide (2147483647 < (getC r c.id).n) with
    | true => exact f.put c.id nullV (fun h => absurd h (by decide)) other
    | false =>
      simp only [cond_false]
      refine f.mono fun j hn => ?_
      by_cases ej : j = c.id
      · have ok := f.ok j hn
        rw [ej] at ok hn ⊢
        rw [h, if_pos rfl] at ok
        rw [h2]
        obtain ⟨u, q1, _, _, q5⟩ := okT_some ok
        cases q1
        simp only [okV, hn, decide_true, dt34, dt33, cond_false, cond_true, decide_eq_true_eq] at q5
        simp only [Bool.or_eq_false_iff, decide_eq_false_iff_not] at hr
        simp only [okT, okV, hn, loT, hiT, decide_true, dt21, dt22, dt24, dt23, cond_false, cond_true, Bool.not_false, Bool.true_and, Bool.and_eq_true, decide_eq_true_eq]
        exact ⟨by decide, ⟨q5, by omega⟩, by omega⟩
      · exact other j ej hn
  · have e1 : decide (c.kind = 1) = false := by simp; omega
    have e4 : decide (c.kind = 4) = false := by simp; omega
    have e6 : decide (c.kind = 6) = true := by simpa using k
    simp only [e1, e4, e6, cond_true, cond_false]
    have c2 := (f.cut n).cut (n + 1)
    refine c2.put c.id _ (fun hn => ?_) fun j hj hnn => ?_
    · rw [h4, okT_text]
      unfold conL at hn ⊢
      cases hb : (getC r (n + 1)).null with
      | true =>
        rw [hb, cond_true] at hn
        have := f.ok n hn
        rw [h, if_pos (.inl rfl), okT_text] at this
        exact this
      | false =>
        rw [hb, cond_false] at hn
        exact conV_ok hn
    · have ok := c2.ok j hnn
      by_cases ea : j = n + 1
      · simp only [if_pos ea] at ok; exact absurd ok (by simp [okT])
      · by_cases eb : j = n
        · simp only [if_neg ea, if_pos eb] at ok; exact absurd ok (by simp [okT])
        · simp only [h, ea, eb, hj, or_self, if_false] at ok
          exact ok
  · have e1 : decide (c.kind = 1) = false := by simp; omega
    have e4 : decide (c.kind = 4) = false := by simp; omega
    have e6 : decide (c.kind = 6) = false := by simp; omega
    have e7 : decide (c.kind = 7) = true := by simpa using k
    simp only [e1, e4, e6, e7, cond_true, cond_false]
    have h1 := tn _ _ h4
    have h2 := tn _ _ w4
    refine apart_ft f (by rw [h, if_pos rfl]) h4 w4 (fun j hj => ?_) (.inl tN) (by rw [h, if_neg h1.1, if_pos (.inl rfl)]) (by rw [h, if_neg h2.1, if_pos (.inr rfl)])
    by_cases ei : j = c.id
    · exact .inr (.inl ei)
    · by_cases ew : j = c.wi
      · exact .inr (.inr ew)
      · exact .inl (by rw [h, if_neg hj, if_neg (fun x => x.elim ei ew)])
end Go.Den
