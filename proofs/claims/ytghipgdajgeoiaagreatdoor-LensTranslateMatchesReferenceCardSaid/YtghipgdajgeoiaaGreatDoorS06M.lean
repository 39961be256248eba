/- Valid schemas stay valid. -/
import Derived.Test.YtghipgdajgeoiaaGreatDoorS06J
namespace Go.Den
open Go
set_option linter.unusedSimpArgs false
set_option linter.unusedVariables false
set_option maxRecDepth 100000
set_option maxHeartbeats 1000000
/-- From a field the top is reached in at most so many steps. -/
def Dp (fs : List Fld) : Nat → Int → Prop
  | 0, id => id = 0
  | k + 1, id => id = 0 ∨ (hasF fs id = true ∧ Dp fs k (getF fs id).par)
theorem Dp_zero (fs : List Fld) : ∀ k, Dp fs k 0
  | 0 => rfl
  | _ + 1 => .inl rfl
theorem Dp_succ {fs : List Fld} : ∀ {k : Nat} {id : Int}, Dp fs k id → Dp fs (k + 1) id
  | 0, id, h => .inl h
  | k + 1, id, h => h.imp (fun h => h) fun ⟨h1, h2⟩ => ⟨h1, Dp_succ h2⟩
theorem depth_dp (fs : List Fld) : ∀ (K : Nat) (n : Int) (j : Nat) (id : Int), j < K → n + K = 9 → (depth fs K id n ≤ n + j ↔ Dp fs j id)
  | 0, n, j, id, h, _ => absurd h (by omega)
  | K + 1, n, j, id, hj, hn => by
    rw [depth]
    by_cases h0 : id = 0
    · subst h0; rw [if_pos rfl]; exact ⟨fun _ => Dp_zero fs j, fun _ => by omega⟩
    · rw [if_neg h0]
      cases j with
      | zero =>
        refine ⟨fun h => ?_, fun h => absurd h h0⟩
        split at h
        · have key : ∀ (K : Nat) (id m : Int), m + K = 9 → m ≤ depth fs K id m := by
            intro K
            induction K with
            | zero => intro id m _; rw [depth]; omega
            | succ K ih =>
              intro id m hm
              rw [depth]
              split
              · omega
              · split
                · have := ih (getF fs id).par (m + 1) (by omega); omega
                · omega
          have := key K (getF fs id).par (n + 1) (by omega)
          omega
        · omega
      | succ j =>
        have ih := depth_dp fs K (n + 1) j (getF fs id).par (by omega) (by omega)
        cases hf : hasF fs id with
        | true =>
          simp only [if_true]
          rw [show n + ((j + 1 : Nat) : Int) = n + 1 + (j : Nat) by simp; omega, ih]
          exact ⟨fun h => .inr ⟨hf, h⟩, fun h => h.elim (fun h => absurd h h0) fun h => h.2⟩
        | false =>
          simp only [Bool.false_eq_true, if_false]
          exact ⟨fun h => by omega, fun h => h.elim (fun h => absurd h h0) fun h => by rw [hf] at h; exact absurd h.1 (by simp)⟩
theorem deep_dp (fs : List Fld) (id : Int) : depth fs 9 id 0 ≤ 8 ↔ Dp fs 8 id := by
  have := depth_dp fs 9 0 8 id (by omega) (by omega)
  simpa using this
theorem low_dp (fs : List Fld) (id : Int) : depth fs 9 id 0 ≤ 7 ↔ Dp fs 7 id := by
  have := depth_dp fs 9 0 7 id (by omega) (by omega)
  simpa using this
theorem Dp_congr {fs gs : List Fld} (h : ∀ id, hasF fs id = true → hasF gs id = true ∧ (getF gs id).par = (getF fs id).par) : ∀ {k : Nat} {id : Int}, Dp fs k id → Dp gs k id
  | 0, id, hd => hd
  | k + 1, id, hd => hd.imp (fun h => h) fun ⟨h1, h2⟩ => ⟨(h id h1).1, by rw [(h id h1).2]; exact Dp_congr h h2⟩
theorem hasF_app (fs gs : List Fld) (id : Int) : hasF (fs ++ gs) id = (hasF fs id || hasF gs id) := List.any_append ..
theorem getF_app {fs : List Fld} (gs : List Fld) {id : Int} (h : hasF fs id = true) : getF (fs ++ gs) id = getF fs id := by
  induction fs with
  | nil => simp [hasF] at h
  | cons x r ih =>
    rw [List.cons_append, getF, getF]
    by_cases hx : x.id = id
    · rw [if_pos hx, if_pos hx]
    · rw [if_neg hx, if_neg hx]
      exact ih (by unfold hasF at h ⊢; rw [List.any_cons] at h; simpa [hx] using h)
theorem hasF_keep (fs : List Fld) {a b id : Int} (ha : id ≠ a) (hb : id ≠ b) : hasF (fs.filter (keepB a b)) id = hasF fs id ∧ getF (fs.filter (keepB a b)) id = getF fs id := by
  induction fs with
  | nil => exact ⟨rfl, rfl⟩
  | cons x r ih =>
    rw [List.filter_cons]
    by_cases hx : x.id = id
    · have : keepB a b x = true := by unfold keepB; simp [hx, ha, hb]
      rw [this, if_pos rfl]
      exact ⟨by simp [hasF, hx], by rw [getF, getF, if_pos hx, if_pos hx]⟩
    · split
      · refine ⟨?_, by rw [getF, getF, if_neg hx, if_neg hx]; exact ih.2⟩
        have := ih.1
        unfold hasF at this ⊢
        rw [List.any_cons, List.any_cons, this]
      · refine ⟨?_, by rw [getF, if_neg hx]; exact ih.2⟩
        have h1 := ih.1
        unfold hasF at h1 ⊢
        rw [h1, List.any_cons]; simp [hx]
theorem Dp_keep {fs : List Fld} {a b : Int} (h : ∀ f ∈ fs, f.par ≠ a ∧ f.par ≠ b) : ∀ {k : Nat} {id : Int}, id ≠ a → id ≠ b → Dp fs k id → Dp (fs.filter (keepB a b)) k id
  | 0, id, _, _, hd => hd
  | k + 1, id, ha, hb, hd => hd.imp (fun h => h) fun ⟨h1, h2⟩ => by
    obtain ⟨q1, q2⟩ := hasF_keep fs ha hb
    obtain ⟨r1, r2⟩ := h _ (getF_id h1).2
    exact ⟨by rw [q1]; exact h1, by rw [q2]; exact Dp_keep h r1 r2 h2⟩
/-- A valid schema. -/
structure SV (fs : List Fld) (next : Int) : Prop where
  i : SInv fs next
  n : UN fs next
  nm : ∀ f ∈ fs, nameOk f.name = true
  ty : ∀ f ∈ fs, 1 ≤ f.type ∧ f.type ≤ 6
  dp : ∀ f ∈ fs, Dp fs 8 f.id
  gr : ∀ f ∈ fs, groupOk fs f.par = true
  un : fs.Pairwise fun a b => ¬ (a.par = b.par ∧ a.name = b.name)
theorem SV.nil : SV [] 1 := ⟨SInv.nil, UN.nil, by simp, by simp, by simp, by simp, .nil⟩
theorem group_par {fs : List Fld} {p : Int} (h : groupOk fs p = true) (h0 : p ≠ 0) : hasF fs p = true ∧ (getF fs p).type = 6 := by
  unfold groupOk at h
  have : decide (p = 0) = false := by simpa using h0
  rw [this, Bool.false_or, Bool.and_eq_true] at h
  exact ⟨h.1, by simpa using h.2⟩
theorem group_app {fs : List Fld} (gs : List Fld) {p : Int} (h : groupOk fs p = true) : groupOk (fs ++ gs) p = true := by
  by_cases h0 : p = 0
  · subst h0; rfl
  · obtain ⟨h1, h2⟩ := group_par h h0
    unfold groupOk
    rw [hasF_app, h1, getF_app gs h1, h2]; simp
theorem group_keep {fs : List Fld} {a b p : Int} (ha : p ≠ a) (hb : p ≠ b) (h : groupOk fs p = true) : groupOk (fs.filter (keepB a b)) p = true := by
  obtain ⟨q1, q2⟩ := hasF_keep fs ha hb
  unfold groupOk at h ⊢
  rw [q1, q2]; exact h
theorem taken_no {fs : List Fld} {f : Fld} {a b : Int} (h : taken fs f a b = false) : nameOk f.name = true ∧ ∀ g ∈ fs, g.par = f.par → g.name = f.name → g.id = a ∨ g.id = b := by
  unfold taken at h
  simp only [Bool.or_eq_false_iff, Bool.not_eq_false'] at h
  refine ⟨h.2, fun g hg h1 h2 => ?_⟩
  have := List.any_eq_false.1 h.1 g hg
  simp only [takenB, h1, h2, decide_true, Bool.true_and, Bool.and_eq_true, Bool.not_eq_true', decide_eq_false_iff_not, not_and, Decidable.not_not] at this
  by_cases ha : g.id = a
  · exact .inl ha
  · exact .inr (this ha)
/-- One field more. -/
theorem SV.plus {fs : List Fld} {next : Int} (s : SV fs next) {nm : ByteArray} {ty pa : Int} (hi : SInv (fs ++ [⟨next, nm, ty, pa⟩]) (next + 1)) (h1 : 1 ≤ ty ∧ ty ≤ 6) (h2 : nameOk nm = true) (h3 : groupOk fs pa = true) (h4 : Dp fs 7 pa)
    (h5 : ∀ g ∈ fs, ¬ (g.par = pa ∧ g.name = nm)) : SV (fs ++ [⟨next, nm, ty, pa⟩]) (next + 1) := by
  have up : ∀ {k : Nat} {id : Int}, Dp fs k id → Dp (fs ++ [⟨next, nm, ty, pa⟩]) k id := Dp_congr fun id h => ⟨by rw [hasF_app, h]; rfl, by rw [getF_app _ h]⟩
  have hnew : hasF fs next = false := by
    cases h : hasF fs next with
    | false => rfl
    | true =>
      obtain ⟨e, hm⟩ := getF_id h
      have := s.n.lt _ hm; omega
  refine ⟨hi, s.n.add _ _ _, ?_, ?_, ?_, ?_, ?_⟩
  · intro f hf
    rcases List.mem_append.1 hf with hf | hf
    · exact s.nm f hf
    · simp at hf; subst hf; exact h2
  · intro f hf
    rcases List.mem_append.1 hf with hf | hf
    · exact s.ty f hf
    · simp at hf; subst hf; exact h1
  · intro f hf
    rcases List.mem_append.1 hf with hf | hf
    · exact up (s.dp f hf)
    · simp at hf; subst hf
      refine .inr ⟨by rw [hasF_app]; simp [hasF], ?_⟩
      have : getF (fs ++ [(⟨next, nm, ty, pa⟩ : Fld)]) next = ⟨next, nm, ty, pa⟩ := by
        have key : ∀ L : List Fld, hasF L next = false → getF (L ++ [(⟨next, nm, ty, pa⟩ : Fld)]) next = ⟨next, nm, ty, pa⟩ := by
          intro L
          induction L with
          | nil => intro _; simp [getF]
          | cons x r ih =>
            intro h
            unfold hasF at h
            rw [List.any_cons, Bool.or_eq_false_iff] at h
            have hx : x.id ≠ next := by simpa using h.1
            rw [List.cons_append, getF, if_neg hx]
            exact ih h.2
        exact key fs hnew
      rw [this]; exact up h4
  · intro f hf
    rcases List.mem_append.1 hf with hf | hf
    · exact group_app _ (s.gr f hf)
    · simp at hf; subst hf; exact group_app _ h3
  · rw [List.pairwise_append]
    refine ⟨s.un, List.pairwise_singleton _ _, fun a ha b hb => ?_⟩
    simp at hb; subst hb; exact h5 a ha
/-- Fields that are no groups with fields, taken out. -/
theorem SV.keep {fs : List Fld} {next : Int} (s : SV fs next) {a b : Int} (h : ∀ f ∈ fs, f.par ≠ a ∧ f.par ≠ b) : SV (fs.filter (keepB a b)) next := by
  have hm : ∀ {f}, f ∈ fs.filter (keepB a b) → f ∈ fs ∧ f.id ≠ a ∧ f.id ≠ b := fun hf => by
    obtain ⟨h1, h2⟩ := List.mem_filter.1 hf
    simp [keepB] at h2
    exact ⟨h1, h2.1, h2.2⟩
  refine ⟨filter_inv s.i _, s.n.filter _, fun f hf => s.nm f (hm hf).1, fun f hf => s.ty f (hm hf).1, fun f hf => ?_, fun f hf => ?_, s.un.sublist List.filter_sublist⟩
  · obtain ⟨h1, h2, h3⟩ := hm hf
    exact Dp_keep h h2 h3 (s.dp f h1)
  · obtain ⟨h1, h2, h3⟩ := hm hf
    exact group_keep (h f h1).1 (h f h1).2 (s.gr f h1)
theorem getF_put2 {fs : List Fld} {g : Fld} (id : Int) (hd : hasF fs id = true) : getF (fs.map (putF g)) id = if id = g.id then g else getF fs id := by
  split
  · rename_i h; subst h; exact getF_put hd
  · rename_i h
    clear hd
    induction fs with
    | nil => rfl
    | cons x r ih =>
      rw [List.map_cons, getF, getF, putF_id]
      by_cases hx : x.id = id
      · rw [if_pos hx, if_pos hx]; unfold putF; rw [if_neg (by omega)]
      · rw [if_neg hx, if_neg hx]; exact ih
theorem uniq_mem {fs : List Fld} (u : UQ fs) {a b : Fld} (ha : a ∈ fs) (hb : b ∈ fs) (h : a.id = b.id) : a = b := by
  have h1 := u.rise
  clear u
  induction fs with
  | nil => simp at ha
  | cons x r ih =>
    obtain ⟨p1, p2⟩ := List.pairwise_cons.1 h1
    rcases List.mem_cons.1 ha with e1 | ha' <;> rcases List.mem_cons.1 hb with e2 | hb'
    · rw [e1, e2]
    · have := p1 b hb'; rw [e1] at h; omega
    · have := p1 a ha'; rw [e2] at h; omega
    · exact ih ha' hb' p2
theorem mem_put {fs : List Fld} {g x : Fld} (h : x ∈ fs.map (putF g)) : x = g ∨ (x ∈ fs ∧ x.id ≠ g.id) := by
  obtain ⟨y, hy, rfl⟩ := List.mem_map.1 h
  unfold putF
  split
  · exact .inl rfl
  · rename_i hne; exact .inr ⟨hy, hne⟩
/-- One field changed: its kind of group stays. -/
theorem SV.put {fs : List Fld} {next : Int} (s : SV fs next) {g : Fld} (hd : hasF fs g.id = true) (hn : g.name.size < 1000000000000000) (h1 : 1 ≤ g.type ∧ g.type ≤ 6) (h2 : nameOk g.name = true)
    (ht : (getF fs g.id).type = 6 ↔ g.type = 6) (hg : groupOk fs g.par = true) (hdp : ∀ f ∈ fs.map (putF g), Dp (fs.map (putF g)) 8 f.id)
    (hu : ∀ x ∈ fs, x.id ≠ g.id → ¬ (x.par = g.par ∧ x.name = g.name)) : SV (fs.map (putF g)) next := by
  have gk : ∀ {p : Int}, groupOk fs p = true → groupOk (fs.map (putF g)) p = true := by
    intro p hp
    by_cases h0 : p = 0
    · subst h0; rfl
    · obtain ⟨q1, q2⟩ := group_par hp h0
      unfold groupOk
      rw [hasF_put, q1, getF_put2 p q1]
      split
      · rename_i e; subst e; simp [ht.1 q2]
      · simp [q2]
  refine ⟨put_inv s.i g hn, s.n.put g, fun f hf => ?_, fun f hf => ?_, hdp, fun f hf => ?_, ?_⟩
  · rcases mem_put hf with rfl | ⟨hf, _⟩
    · exact h2
    · exact s.nm f hf
  · rcases mem_put hf with rfl | ⟨hf, _⟩
    · exact h1
    · exact s.ty f hf
  · rcases mem_put hf with rfl | ⟨hf, _⟩
    · exact gk hg
    · exact gk (s.gr f hf)
  · rw [List.pairwise_map]
    have key : ∀ L : List Fld, (∀ x ∈ L, x ∈ fs) → L.Pairwise (fun a b => a.id < b.id) → L.Pairwise (fun a b => ¬ (a.par = b.par ∧ a.name = b.name)) → L.Pairwise fun a b => ¬ ((putF g a).par = (putF g b).par ∧ (putF g a).name = (putF g b).name) := by
      intro L
      induction L with
      | nil => intro _ _ _; exact .nil
      | cons x r ih =>
        intro hm hr hp
        obtain ⟨r1, r2⟩ := List.pairwise_cons.1 hr
        obtain ⟨p1, p2⟩ := List.pairwise_cons.1 hp
        refine List.pairwise_cons.2 ⟨fun y hy => ?_, ih (fun z hz => hm z (by simp [hz])) r2 p2⟩
        have hlt := r1 y hy
        unfold putF
        by_cases hx : x.id = g.id
        · have hy2 : y.id ≠ g.id := by omega
          rw [if_pos hx, if_neg hy2]
          intro ⟨e1, e2⟩
          exact hu y (hm y (by simp [hy])) hy2 ⟨e1.symm, e2.symm⟩
        · rw [if_neg hx]
          by_cases hy2 : y.id = g.id
          · rw [if_pos hy2]; exact hu x (hm x (by simp)) hx
          · rw [if_neg hy2]; exact p1 y hy
    exact key fs (fun x hx => hx) s.n.q.rise s.un
/-- Depths stay where groups stay. -/
theorem Dp_put {fs : List Fld} {g : Fld} (h : g.par = (getF fs g.id).par) {k : Nat} {id : Int} : Dp fs k id → Dp (fs.map (putF g)) k id := Dp_congr fun id hf => ⟨by rw [hasF_put]; exact hf, by
  rw [getF_put2 id hf]
  split
  · rename_i e; rw [e]; exact h
  · rfl⟩
/-- Which fields can have none below them. -/
theorem SV.noPar {fs : List Fld} {next : Int} (s : SV fs next) {id : Int} (h0 : hasF fs id = true) (ht : (getF fs id).type ≠ 6) : ∀ f ∈ fs, f.par ≠ id := by
  intro f hf e
  have h1 : id ≠ 0 := by
    obtain ⟨e1, e2⟩ := getF_id h0
    have := s.n.q.pos _ e2; omega
  have := s.gr f hf
  rw [e] at this
  exact ht (group_par this h1).2
theorem bif_case2 {P : SR → Prop} {b : Bool} {x y : SR} (h1 : b = true → x.e = 0 → P x) (h2 : b = false → y.e = 0 → P y) : (bif b then x else y).e = 0 → P (bif b then x else y) := by
  cases b with
  | true => exact h1 rfl
  | false => exact h2 rfl
theorem un_ne {fs : List Fld} (h : fs.Pairwise fun a b => ¬ (a.par = b.par ∧ a.name = b.name)) {x y : Fld} (hx : x ∈ fs) (hy : y ∈ fs) (hne : x.id ≠ y.id) : ¬ (x.par = y.par ∧ x.name = y.name) := by
  induction fs with
  | nil => simp at hx
  | cons a r ih =>
    obtain ⟨p1, p2⟩ := List.pairwise_cons.1 h
    rcases List.mem_cons.1 hx with e1 | hx' <;> rcases List.mem_cons.1 hy with e2 | hy'
    · rw [e1, e2] at hne; exact absurd rfl hne
    · rw [e1]; exact p1 y hy'
    · rw [e2]; intro ⟨q1, q2⟩; exact p1 x hx' ⟨q1.symm, q2.symm⟩
    · exact ih p2 hx' hy'
theorem Dp_app {fs : List Fld} (gs : List Fld) {k : Nat} {id : Int} : Dp fs k id → Dp (fs ++ gs) k id := Dp_congr fun id h => ⟨by rw [hasF_app, h]; rfl, by rw [getF_app _ h]⟩
theorem SInv.pre {L : List Fld} {b : Fld} {n : Int} (h : SInv (L ++ [b]) (n + 1)) (h1 : 1 ≤ n) : SInv L n :=
  ⟨by have := h.len; rw [List.length_append] at this; omega, h1, by have := h.n1; omega, fun f hf => h.nm f (by simp [hf])⟩
theorem SV.up7 {fs : List Fld} {next : Int} (s : SV fs next) {G : Fld} (hm : G ∈ fs) (hG : getF fs G.id = G) : Dp fs 7 G.par := by
  have := s.n.q.pos G hm
  rcases s.dp G hm with h | ⟨_, h⟩
  · omega
  · rw [hG] at h; exact h
theorem applyC_sv {fs : List Fld} {next : Int} {c : Chg} (s : SV fs next) (hc : COK c) : (applyC fs next c).e = 0 → SV (applyC fs next c).fs (applyC fs next c).next := by
  intro he0
  have hinv := applyC_inv s.i hc he0
  revert hinv
  let P : SR → Prop := fun r => SInv r.fs r.next → SV r.fs r.next
  show P (applyC fs next c)
  revert he0
  have hb : ∀ {e : Int}, e ≠ 0 → (bad e).e = 0 → P (bad e) := fun he => bad_case he
  unfold applyC
  split
  · unfold addS
    refine bif_case2 (fun _ => hb (by decide)) fun b1 => bif_case2 (fun _ => hb (by decide)) fun b2 => bif_case2 (fun _ => hb (by decide)) fun b3 => bif_case2 (fun _ => hb (by decide)) fun b4 _ hi => ?_
    simp only [Bool.or_eq_false_iff, Bool.not_eq_false', decide_eq_false_iff_not] at b1 b2
    obtain ⟨q1, q2⟩ := taken_no b3
    refine s.plus hi (by omega) q1 b2.1 ((low_dp fs c.par).1 (by omega)) fun g hg ⟨e1, e2⟩ => ?_
    have := q2 g hg e1 e2
    have := s.n.q.pos g hg
    omega
  · split
    · unfold oneS moveS
      refine bif_case2 (fun _ => hb (by decide)) fun b1 => ?_
      have hd : hasF fs c.id = true := by simpa using b1
      obtain ⟨hid, hmem⟩ := getF_id hd
      have hd2 : hasF fs (getF fs c.id).id = true := by rw [hid]; exact hd
      have hG : getF fs (getF fs c.id).id = getF fs c.id := by rw [hid]
      generalize getF fs c.id = G at *
      refine bif_case2 (fun _ => ?_) fun _ => bif_case2 (fun _ => ?_) fun _ => bif_case2 (fun _ => ?_) fun _ => ?_
      · refine bif_case2 (fun _ => hb (by decide)) fun b2 _ _ => s.keep fun f hf => ?_
        have := List.any_eq_false.1 b2 f hf
        have : f.par ≠ G.id := by simpa using this
        exact ⟨this, this⟩
      · refine bif_case2 (fun _ => hb (by decide)) fun b2 _ _ => ?_
        obtain ⟨q1, q2⟩ := taken_no b2
        refine s.put (g := { G with name := c.name }) hd2 hc.name (s.ty G hmem) q1 (by rw [show ({ G with name := c.name } : Fld).id = G.id from rfl, hG]) (s.gr G hmem) (fun f hf => ?_) fun x hx hne ⟨e1, e2⟩ => ?_
        · refine Dp_put (by rw [show ({ G with name := c.name } : Fld).id = G.id from rfl, hG]) ?_
          rcases mem_put hf with rfl | ⟨hf, _⟩
          · exact s.dp G hmem
          · exact s.dp f hf
        · have := q2 x hx e1 e2
          have hne : x.id ≠ G.id := hne
          simp only [or_self] at this
          exact hne this
      · refine bif_case2 (fun _ => hb (by decide)) fun b2 _ _ => ?_
        have hty : G.type = 2 := by simpa using b2
        refine s.put (g := { G with type := 3 }) hd2 (s.i.nm G hmem) (by simp) (s.nm G hmem) (by rw [show ({ G with type := 3 } : Fld).id = G.id from rfl, hG, hty]; simp) (s.gr G hmem) (fun f hf => ?_) fun x hx hne => un_ne (y := G) s.un hx hmem hne
        refine Dp_put (by rw [show ({ G with type := 3 } : Fld).id = G.id from rfl, hG]) ?_
        rcases mem_put hf with rfl | ⟨hf, _⟩
        · exact s.dp G hmem
        · exact s.dp f hf
      · refine bif_case2 (fun _ => hb (by decide)) fun b2 => bif_case2 (fun _ => hb (by decide)) fun b3 => bif_case2 (fun _ => hb (by decide)) fun b4 _ _ => ?_
        obtain ⟨q1, q2⟩ := taken_no b4
        simp only [Bool.or_eq_false_iff, Bool.not_eq_false'] at b2
        refine s.put (g := { G with par := c.par }) hd2 (s.i.nm G hmem) (s.ty G hmem) (s.nm G hmem) (by rw [show ({ G with par := c.par } : Fld).id = G.id from rfl, hG]) b2.1 (fun f hf => ?_) fun x hx hne ⟨e1, e2⟩ => ?_
        · have := List.any_eq_false.1 b3 f hf
          rw [← deep_dp]
          unfold deep at this
          simp only [decide_eq_true_eq] at this
          omega
        · have := q2 x hx e1 e2
          have hne : x.id ≠ G.id := hne
          simp only [or_self] at this
          exact hne this
    · split
      · unfold splitS
        refine bif_case2 (fun _ => hb (by decide)) fun b1 => ?_
        have hd : hasF fs c.id = true := by simpa using b1
        obtain ⟨hid, hmem⟩ := getF_id hd
        have hd2 : hasF fs (getF fs c.id).id = true := by rw [hid]; exact hd
        have hG : getF fs (getF fs c.id).id = getF fs c.id := by rw [hid]
        generalize getF fs c.id = G at *
        refine bif_case2 (fun _ => hb (by decide)) fun b2 => bif_case2 (fun _ => hb (by decide)) fun b3 => bif_case2 (fun _ => hb (by decide)) fun b4 => bif_case2 (fun _ => hb (by decide)) fun b5 _ hi => ?_
        have hty : G.type = 4 := by simpa using b2
        simp only [Bool.or_eq_false_iff, decide_eq_false_iff_not] at b4
        obtain ⟨q1, q2⟩ := taken_no b4.1
        obtain ⟨r1, r2⟩ := taken_no b4.2.1
        have hnp := s.noPar hd2 (by rw [hG, hty]; decide)
        have hgi := hnp G hmem
        have s1 := s.keep (a := G.id) (b := G.id) fun f hf => ⟨hnp f hf, hnp f hf⟩
        have hi2 := hi.pre (by have := s.n.pos; omega)
        have g1 := group_keep hgi hgi (s.gr G hmem)
        have d1 := Dp_keep (fun f hf => ⟨hnp f hf, hnp f hf⟩) hgi hgi (s.up7 hmem hG)
        have hfm : ∀ g ∈ fs.filter (keepB G.id G.id), g ∈ fs ∧ g.id ≠ G.id := fun g hg => by
          obtain ⟨h1, h2⟩ := List.mem_filter.1 hg
          simp [keepB] at h2
          exact ⟨h1, h2⟩
        have s2 := s1.plus hi2 (by omega) q1 g1 d1 fun g hg ⟨e1, e2⟩ => by
          obtain ⟨h1, h2⟩ := hfm g hg
          have := q2 g h1 e1 e2
          simp only [or_self] at this
          exact h2 this
        refine s2.plus hi (by omega) r1 (group_app _ g1) (Dp_app _ d1) fun g hg ⟨e1, e2⟩ => ?_
        rcases List.mem_append.1 hg with hg | hg
        · obtain ⟨h1, h2⟩ := hfm g hg
          have := r2 g h1 e1 e2
          simp only [or_self] at this
          exact h2 this
        · simp at hg; subst hg; exact b4.2.2 e2
      · split
        · unfold joinS
          refine bif_case2 (fun _ => hb (by decide)) fun b1 => ?_
          simp only [Bool.or_eq_false_iff, Bool.not_eq_false', decide_eq_false_iff_not] at b1
          obtain ⟨hd, hdw, hne⟩ := b1
          obtain ⟨hid, hmem⟩ := getF_id hd
          obtain ⟨hiw, hmew⟩ := getF_id hdw
          have hd2 : hasF fs (getF fs c.id).id = true := by rw [hid]; exact hd
          have hG : getF fs (getF fs c.id).id = getF fs c.id := by rw [hid]
          have hw2 : hasF fs (getF fs c.wi).id = true := by rw [hiw]; exact hdw
          have hW : getF fs (getF fs c.wi).id = getF fs c.wi := by rw [hiw]
          generalize getF fs c.id = G at *
          generalize getF fs c.wi = W at *
          refine bif_case2 (fun _ => hb (by decide)) fun b2 => bif_case2 (fun _ => hb (by decide)) fun b3 => bif_case2 (fun _ => hb (by decide)) fun b4 => bif_case2 (fun _ => hb (by decide)) fun b5 => bif_case2 (fun _ => hb (by decide)) fun b6 _ hi => ?_
          simp only [Bool.or_eq_false_iff, Bool.not_eq_false', decide_eq_true_eq] at b2
          obtain ⟨q1, q2⟩ := taken_no b5
          have hnp := s.noPar hd2 (by rw [hG, b2.1]; decide)
          have hnw := s.noPar hw2 (by rw [hW, b2.2]; decide)
          have s1 := s.keep (a := G.id) (b := W.id) fun f hf => ⟨hnp f hf, hnw f hf⟩
          have g1 := group_keep (hnp G hmem) (hnw G hmem) (s.gr G hmem)
          have d1 := Dp_keep (fun f hf => ⟨hnp f hf, hnw f hf⟩) (hnp G hmem) (hnw G hmem) (s.up7 hmem hG)
          refine s1.plus hi (by omega) q1 g1 d1 fun g hg ⟨e1, e2⟩ => ?_
          obtain ⟨h1, h2⟩ := List.mem_filter.1 hg
          simp [keepB] at h2
          rcases q2 g h1 e1 e2 with h | h
          · exact h2.1 h
          · exact h2.2 h
        · exact hb (by decide)
end Go.Den
