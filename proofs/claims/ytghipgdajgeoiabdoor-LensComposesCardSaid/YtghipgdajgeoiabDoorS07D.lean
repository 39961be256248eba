/- Rows and changes, in plain words: what fits goes on fitting. -/
import Derived.Test.YtghipgdajgeoiabDoorS07C
namespace Go.Den
open Go
set_option linter.unusedSimpArgs false
set_option linter.unusedVariables false
set_option maxRecDepth 100000
set_option maxHeartbeats 1000000
/-! Rows by their fields. -/
def Srt (r : List Cell) : Prop := r.Pairwise fun a b => a.id < b.id
def nz (v : Val) : Val := bif v.null then nullV else v
theorem nz_null (v : Val) : (nz v).null = v.null := by
  unfold nz; cases h : v.null <;> simp [h, nullV]
theorem nz_of {v : Val} (h : v.null = false) : nz v = v := by unfold nz; rw [h]; rfl
theorem getC_not {r : List Cell} {id : Int} (h : ∀ c ∈ r, c.id ≠ id) : getC r id = nullV := by
  induction r with
  | nil => rfl
  | cons c r ih => rw [getC, if_neg (h c (by simp)), ih fun x hx => h x (by simp [hx])]
theorem getC_mem {r : List Cell} {id : Int} (h : (getC r id).null = false) : ∃ c ∈ r, c.id = id ∧ c.v = getC r id := by
  induction r with
  | nil => rw [getC] at h; exact absurd h (by decide)
  | cons c r ih =>
    rw [getC] at h ⊢
    split at h
    · rename_i e; rw [if_pos e]; exact ⟨c, by simp, e, rfl⟩
    · rename_i e; rw [if_neg e]
      obtain ⟨x, x1, x2, x3⟩ := ih h
      exact ⟨x, by simp [x1], x2, x3⟩
theorem getC_of {r : List Cell} (s : Srt r) {c : Cell} (h : c ∈ r) : getC r c.id = c.v := by
  induction r with
  | nil => simp at h
  | cons x r ih =>
    obtain ⟨s1, s2⟩ := List.pairwise_cons.1 s
    rw [getC]
    rcases List.mem_cons.1 h with rfl | h
    · rw [if_pos rfl]
    · rw [if_neg (by have := s1 c h; omega)]
      exact ih s2 h
theorem putL_mem {r : List Cell} (s : Srt r) {id : Int} {v : Val} : ∀ {c : Cell}, c ∈ putL r id v → (c = ⟨id, v⟩ ∧ v.null = false) ∨ (c ∈ r ∧ c.id ≠ id) := by
  induction r with
  | nil =>
    intro c h
    rw [putL] at h
    cases hv : v.null with
    | true => rw [hv] at h; simp at h
    | false => rw [hv] at h; simp at h; exact .inl ⟨h, rfl⟩
  | cons x r ih =>
    intro c h
    obtain ⟨s1, s2⟩ := List.pairwise_cons.1 s
    rw [putL] at h
    split at h
    · rename_i hx
      rcases List.mem_cons.1 h with rfl | h
      · exact .inr ⟨by simp, by omega⟩
      · rcases ih s2 h with h | ⟨h1, h2⟩
        · exact .inl h
        · exact .inr ⟨by simp [h1], h2⟩
    · rename_i hx
      rcases List.mem_append.1 h with h | h
      · cases hv : v.null with
        | true => rw [hv] at h; simp at h
        | false => rw [hv] at h; simp at h; exact .inl ⟨h, rfl⟩
      · split at h
        · rename_i e
          exact .inr ⟨by simp [h], by have := s1 c h; omega⟩
        · rename_i e
          rcases List.mem_cons.1 h with rfl | h'
          · exact .inr ⟨by simp, e⟩
          · exact .inr ⟨h, by have := s1 c h'; omega⟩
theorem putL_srt {r : List Cell} (s : Srt r) (id : Int) (v : Val) : Srt (putL r id v) := by
  induction r with
  | nil => rw [putL]; cases v.null <;> simp [Srt]
  | cons x r ih =>
    obtain ⟨s1, s2⟩ := List.pairwise_cons.1 s
    rw [putL]
    split
    · rename_i hx
      refine List.pairwise_cons.2 ⟨fun c hc => ?_, ih s2⟩
      rcases putL_mem s2 hc with ⟨rfl, _⟩ | ⟨h, _⟩
      · exact hx
      · exact s1 c h
    · rename_i hx
      have tail : Srt (if x.id = id then r else x :: r) := by split; exact s2; exact s
      have gt : ∀ c ∈ (if x.id = id then r else x :: r), id < c.id := by
        intro c hc
        split at hc
        · have := s1 c hc; omega
        · rcases List.mem_cons.1 hc with rfl | hc
          · omega
          · have := s1 c hc; omega
      cases v.null with
      | true => exact tail
      | false => exact List.pairwise_cons.2 ⟨fun c hc => gt c hc, tail⟩
theorem getC_put {r : List Cell} (s : Srt r) (id : Int) (v : Val) (j : Int) : getC (putL r id v) j = if j = id then nz v else getC r j := by
  induction r with
  | nil =>
    rw [putL]
    unfold nz
    cases hv : v.null with
    | true => simp only [cond_true, getC]; split <;> rfl
    | false => simp only [cond_false, getC, eq_comm]
  | cons x r ih =>
    obtain ⟨s1, s2⟩ := List.pairwise_cons.1 s
    rw [putL]
    split
    · rename_i hx
      rw [getC, getC, ih s2]
      by_cases e : x.id = j
      · rw [if_pos e, if_pos e, if_neg (by omega)]
      · rw [if_neg e, if_neg e]
    · rename_i hx
      have tl : j ≠ id → getC (if x.id = id then r else x :: r) j = getC (x :: r) j := by
        intro hj
        split
        · rename_i e; rw [getC, if_neg (by omega)]
        · rfl
      have tid : getC (if x.id = id then r else x :: r) id = nullV := by
        refine getC_not fun c hc => ?_
        split at hc
        · have := s1 c hc; omega
        · rcases List.mem_cons.1 hc with rfl | hc
          · omega
          · have := s1 c hc; omega
      unfold nz
      cases hv : v.null with
      | true =>
        simp only [cond_true, List.nil_append]
        by_cases e : j = id
        · rw [if_pos e, e, tid]
        · rw [if_neg e]; exact tl e
      | false =>
        simp only [cond_false, List.cons_append, List.nil_append]
        rw [getC]
        by_cases e : id = j
        · rw [if_pos e, if_pos e.symm]
        · rw [if_neg e, if_neg (Ne.symm e)]; exact tl (Ne.symm e)
def NN (r : List Cell) : Prop := ∀ c ∈ r, c.v.null = false
theorem putL_nn {r : List Cell} (s : Srt r) (h : NN r) (id : Int) (v : Val) : NN (putL r id v) := fun c hc => by
  rcases putL_mem s hc with ⟨rfl, h1⟩ | ⟨h1, _⟩
  · exact h1
  · exact h c h1
/-- Rows with the same fields are the same. -/
theorem row_ext : ∀ {r q : List Cell}, Srt r → Srt q → NN r → NN q → (∀ j, getC r j = getC q j) → r = q
  | [], [], _, _, _, _, _ => rfl
  | [], c :: q, _, s, _, n, h => by
    have := h c.id
    rw [getC_of s (by simp), getC] at this
    have h2 := n c (by simp)
    rw [← this] at h2; exact absurd h2 (by decide)
  | c :: r, [], s, _, n, _, h => by
    have := h c.id
    rw [getC_of s (by simp), getC] at this
    have h2 := n c (by simp)
    rw [this] at h2; exact absurd h2 (by decide)
  | c :: r, d :: q, s, t, n, m, h => by
    obtain ⟨s1, s2⟩ := List.pairwise_cons.1 s
    obtain ⟨t1, t2⟩ := List.pairwise_cons.1 t
    have hc := h c.id
    rw [getC_of s (by simp)] at hc
    have hd := h d.id
    rw [getC_of t (by simp)] at hd
    have nc := n c (by simp)
    have nd := m d (by simp)
    obtain ⟨x, x1, x2, x3⟩ := getC_mem (r := d :: q) (id := c.id) (by rw [← hc]; exact nc)
    obtain ⟨y, y1, y2, y3⟩ := getC_mem (r := c :: r) (id := d.id) (by rw [hd]; exact nd)
    have e : c.id = d.id := by
      rcases List.mem_cons.1 x1 with rfl | hx <;> rcases List.mem_cons.1 y1 with rfl | hy
      · exact x2.symm
      · exact x2.symm
      · exact y2
      · have := t1 x hx; have := s1 y hy; omega
    have ev : c.v = d.v := by rw [hc, e, getC_of t (by simp)]
    have ecd : c = d := by cases c; cases d; simp at e ev; rw [e, ev]
    subst ecd
    congr 1
    refine row_ext s2 t2 (fun x hx => n x (by simp [hx])) (fun x hx => m x (by simp [hx])) fun j => ?_
    by_cases hj : j = c.id
    · rw [hj, getC_not fun x hx => by have := s1 x hx; omega, getC_not fun x hx => by have := t1 x hx; omega]
    · have := h j
      rw [getC, getC, if_neg (Ne.symm hj), if_neg (Ne.symm hj)] at this
      exact this
/-! Schemas by the types of their fields. -/
def tyF (fs : List Fld) (id : Int) : Option Int := bif hasF fs id then some (getF fs id).type else none
def okT (o : Option Int) (v : Val) : Bool := match o with
  | none => false
  | some t => typeOk t && (!v.null && okV v t)
theorem fitC_ty (fs : List Fld) (c : Cell) : fitC fs c = okT (tyF fs c.id) c.v := by
  unfold fitC okT tyF
  cases hasF fs c.id with
  | false => rfl
  | true =>
    simp only [cond_true, Bool.true_and]
    cases h : typeOk (getF fs c.id).type with
    | false => simp
    | true =>
      have : decide ((getF fs c.id).type = 6) = false := by simp only [typeOk, Bool.and_eq_true, decide_eq_true_eq] at h; simp; omega
      rw [this]; simp
/-- A row fits. -/
structure Ft (T : Int → Option Int) (r : List Cell) : Prop where
  srt : Srt r
  nn : NN r
  ok : ∀ j, (getC r j).null = false → okT (T j) (getC r j) = true
theorem ft_of {fs : List Fld} {r : List Cell} {p : Int} (h : fitsS fs p r = true) : Ft (tyF fs) r := by
  have hall : ∀ {r : List Cell} {p : Int}, fitsS fs p r = true → ∀ c ∈ r, fitC fs c = true := by
    intro r
    induction r with
    | nil => simp
    | cons c r ih =>
      intro p h x hx
      rw [fitsS, Bool.and_eq_true, Bool.and_eq_true] at h
      rcases List.mem_cons.1 hx with rfl | hx
      · exact h.1.1
      · exact ih h.2 x hx
  obtain ⟨h1, h2⟩ := fits_rise h
  have hs : Srt r := by unfold Srt; rw [List.pairwise_map] at h1; exact h1
  refine ⟨hs, fun c hc => ?_, fun j hj => ?_⟩
  · have := hall h c hc
    simp only [fitC, Bool.and_eq_true, Bool.not_eq_true'] at this
    exact this.2.2.1
  · obtain ⟨c, hc, rfl, hv⟩ := getC_mem hj
    have := hall h c hc
    rw [fitC_ty, hv] at this
    exact this
theorem of_ft {fs : List Fld} (hp : ∀ f ∈ fs, 1 ≤ f.id) {r : List Cell} (h : Ft (tyF fs) r) : fitsS fs 0 r = true := by
  have key : ∀ (q : List Cell) (p : Int), Srt q → (∀ c ∈ q, p < c.id ∧ fitC fs c = true) → fitsS fs p q = true := by
    intro q
    induction q with
    | nil => intro p _ _; rfl
    | cons c q ih =>
      intro p s hq
      obtain ⟨s1, s2⟩ := List.pairwise_cons.1 s
      rw [fitsS, (hq c (by simp)).2, ih c.id s2 fun x hx => ⟨s1 x hx, (hq x (by simp [hx])).2⟩]
      have := (hq c (by simp)).1
      simpa using this
  refine key r 0 h.srt fun c hc => ?_
  have hg := getC_of h.srt hc
  have hf : fitC fs c = true := by
    rw [fitC_ty, ← hg]
    exact h.ok c.id (by rw [hg]; exact h.nn c hc)
  refine ⟨?_, hf⟩
  simp only [fitC, Bool.and_eq_true] at hf
  have := hasF_pos hp hf.1
  omega
end Go.Den
