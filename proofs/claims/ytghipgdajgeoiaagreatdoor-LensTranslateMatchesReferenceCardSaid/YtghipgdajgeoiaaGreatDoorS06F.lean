/- Package schema and the reference: plain facts. -/
import Derived.Test.YtghipgdajgeoiaaGreatDoorS06E
namespace Go.Den
open Go
set_option linter.unusedSimpArgs false
set_option linter.unusedVariables false
set_option maxRecDepth 100000
set_option maxHeartbeats 1000000
/-- Numbers rise and are at least 1. -/
structure UQ (fs : List Fld) : Prop where
  rise : fs.Pairwise fun a b => a.id < b.id
  pos : ∀ f ∈ fs, 1 ≤ f.id
theorem depth_le (fs : List Fld) : ∀ (k : Nat) (id n : Int), n + k = 9 → depth fs k id n ≤ 9
  | 0, id, n, h => by rw [depth]; omega
  | k + 1, id, n, h => by
    rw [depth]
    split
    · omega
    · split
      · exact depth_le fs k _ _ (by omega)
      · omega
theorem anc_depth (fs : List Fld) : ∀ (k : Nat) (id : Int) (out : List Int), out.length + k = 9 → 0 < k →
    ((anc fs k id out).2 = 0 ∧ ((anc fs k id out).1.length : Int) = depth fs k id out.length ∧ depth fs k id out.length ≤ 8) ∨ ((anc fs k id out).2 ≠ 0 ∧ depth fs k id out.length = 9)
  | 0, id, out, h, h0 => absurd h0 (by omega)
  | k + 1, id, out, h, _ => by
    rw [anc, depth]
    by_cases d0 : id = 0
    · subst d0
      exact .inl ⟨rfl, rfl, by simp; omega⟩
    · have e0 : decide (id = 0) = false := by simpa using d0
      rw [e0, cond_false, if_neg d0]
      cases d1 : hasF fs id with
      | false =>
        simp only [Bool.not_false, Bool.true_or, cond_true, Bool.false_eq_true, if_false]
        exact .inr ⟨d0, trivial⟩
      | true =>
        simp only [Bool.not_true, Bool.false_or, if_true]
        by_cases d2 : (out.length : Int) = 8
        · have e2 : decide ((out.length : Int) = 8) = true := by simpa using d2
          rw [e2, cond_true]
          have hk : k = 0 := by omega
          subst hk
          rw [depth]
          exact .inr ⟨d0, by omega⟩
        · have e2 : decide ((out.length : Int) = 8) = false := by simpa using d2
          rw [e2, cond_false]
          have := anc_depth fs k (getF fs id).par (out ++ [id]) (by simp; omega) (by omega)
          simpa using this
theorem anc_ok (fs : List Fld) (id : Int) : decide ((anc fs 9 id []).2 = 0) = !decide (8 < depth fs 9 id 0) := by
  have := anc_depth fs 9 id [] rfl (by omega)
  simp only [List.length_nil, Int.natCast_zero] at this
  rw [Bool.eq_iff_iff]
  simp
  omega
theorem anc_top (fs : List Fld) (id : Int) : (!decide ((anc fs 9 id []).2 = 0) || decide (8 ≤ ((anc fs 9 id []).1.length : Int))) = decide (8 ≤ depth fs 9 id 0) := by
  have := anc_depth fs 9 id [] rfl (by omega)
  simp only [List.length_nil, Int.natCast_zero] at this
  rw [Bool.eq_iff_iff]
  simp only [Bool.or_eq_true, Bool.not_eq_true', decide_eq_false_iff_not, decide_eq_true_eq]
  rcases this with ⟨h1, h2, h3⟩ | ⟨h1, h2⟩
  · rw [← h2]; simp [h1]
  · rw [h2]; simp [h1]
theorem getF_none {fs : List Fld} {id : Int} (d : hasF fs id = false) : getF fs id = noF := by
  rw [getF_find]
  have : (fs.find? fun x => decide (x.id = id)) = none := by
    rw [List.find?_eq_none]
    unfold hasF at d
    rw [List.any_eq_false] at d
    exact d
  rw [this]; rfl
theorem getF_id {fs : List Fld} {id : Int} (d : hasF fs id = true) : (getF fs id).id = id ∧ getF fs id ∈ fs := by
  rw [getF_find]
  unfold hasF at d
  rw [List.any_eq_true, ← List.find?_isSome] at d
  obtain ⟨x, hx⟩ := Option.isSome_iff_exists.1 d
  rw [hx]
  exact ⟨by simpa using List.find?_some hx, List.mem_of_find?_eq_some hx⟩
theorem insideF_zero (fs : List Fld) (g : Int) : ∀ k, insideF fs g k 0 = false
  | 0 => rfl
  | k + 1 => by rw [insideF, if_pos rfl]
theorem anc_inside (fs : List Fld) (g : Int) : ∀ (k : Nat) (id : Int) (out : List Int), out.length + k = 9 → 0 < k →
    ((anc fs k id out).1.any fun x => decide (g = x)) = ((out.any fun x => decide (g = x)) || insideF fs g k id)
  | 0, id, out, h, h0 => absurd h0 (by omega)
  | k + 1, id, out, h, _ => by
    rw [anc, insideF]
    by_cases d0 : id = 0
    · subst d0; simp
    · have e0 : decide (id = 0) = false := by simpa using d0
      have eg : decide (g = id) = decide (id = g) := by rw [Bool.eq_iff_iff]; simp [eq_comm]
      rw [e0, cond_false, if_neg d0]
      have stop : insideF fs g k (getF fs id).par = false → ((out ++ [id]).any fun x => decide (g = x)) = ((out.any fun x => decide (g = x)) || if id = g then true else insideF fs g k (getF fs id).par) := by
        intro hz
        rw [hz, List.any_append]
        simp only [List.any_cons, List.any_nil, Bool.or_false, eg]
        by_cases hg : id = g <;> simp [hg]
      cases d1 : hasF fs id with
      | false =>
        simp only [Bool.not_false, Bool.true_or, cond_true]
        exact stop (by rw [getF_none d1]; exact insideF_zero fs g k)
      | true =>
        simp only [Bool.not_true, Bool.false_or]
        by_cases d2 : (out.length : Int) = 8
        · have e2 : decide ((out.length : Int) = 8) = true := by simpa using d2
          rw [e2, cond_true]
          have hk : k = 0 := by omega
          subst hk
          exact stop rfl
        · have e2 : decide ((out.length : Int) = 8) = false := by simpa using d2
          rw [e2, cond_false]
          rw [anc_inside fs g k (getF fs id).par (out ++ [id]) (by simp; omega) (by omega), List.any_append]
          simp only [List.any_cons, List.any_nil, Bool.or_false, eg, Bool.or_assoc]
          by_cases hg : id = g <;> simp [hg]
theorem tk_two (fs : List Fld) (f : Fld) (a b : Int) : tk fs f.par f.name [a, b] = taken fs f a b := by
  unfold tk taken tkB takenB
  rw [Bool.or_comm]
  congr 2
  funext g
  simp [Bool.not_or]
theorem tk_one (fs : List Fld) (f : Fld) (a : Int) : tk fs f.par f.name [a] = taken fs f a a := by
  unfold tk taken tkB takenB
  rw [Bool.or_comm]
  congr 2
  funext g
  simp
theorem any_congr {α : Type} {L : List α} {p q : α → Bool} (h : ∀ x ∈ L, p x = q x) : L.any p = L.any q := by
  induction L with
  | nil => rfl
  | cons x r ih => rw [List.any_cons, List.any_cons, h x (by simp), ih fun y hy => h y (by simp [hy])]
theorem tk_nil {fs : List Fld} (h : UQ fs) (f : Fld) : tk fs f.par f.name [] = taken fs f 0 0 := by
  unfold tk taken
  rw [Bool.or_comm]
  congr 1
  refine any_congr fun g hg => ?_
  have := h.pos g hg
  have e : decide (g.id = 0) = false := by simp; omega
  simp [tkB, takenB, e]
theorem less_eq (fs : List Fld) (a : Int) : less fs a = fs.filter (keepB a a) := by
  unfold less
  congr 1
  funext x
  simp [keepB]
theorem less_two (fs : List Fld) (a b : Int) : less (less fs a) b = fs.filter (keepB a b) := by
  unfold less
  rw [List.filter_filter]
  congr 1
  funext x
  simp [keepB, Bool.and_comm]
/-- One field put in the place where it stands. -/
theorem set_put {fs : List Fld} (h : UQ fs) {id : Int} (hd : hasF fs id = true) (g : Fld) (hg : g.id = id) : fs.set (idx fs id).toNat g = fs.map (putF g) := by
  have key : ∀ (L : List Fld) (i : Int), 0 ≤ i → L.Pairwise (fun a b => a.id < b.id) → (L.any fun f => decide (f.id = id)) = true → L.set (idxF (fun x => decide (x.id = id)) i L - i).toNat g = L.map (putF g) := by
    intro L
    induction L with
    | nil => intro i _ _ h; simp at h
    | cons x r ih =>
      intro i hi hp ha
      obtain ⟨hp1, hp2⟩ := List.pairwise_cons.1 hp
      rw [idxF]
      by_cases hx : x.id = id
      · have e : decide (x.id = id) = true := by simpa using hx
        rw [e, cond_true]
        have hr : r.map (putF g) = r := by
          conv => rhs; rw [← List.map_id r]
          refine List.map_congr_left fun y hy => ?_
          have := hp1 y hy
          unfold putF
          rw [if_neg (by omega)]; rfl
        simp [putF, hx, hg, hr]
      · have e : decide (x.id = id) = false := by simpa using hx
        rw [e, cond_false]
        rw [List.any_cons, e, Bool.false_or] at ha
        have h1 := idxF_ge (fun x : Fld => decide (x.id = id)) r (i + 1) (by omega)
        rw [ha] at h1
        have h2 : i + 1 ≤ idxF (fun x => decide (x.id = id)) (i + 1) r := (idxF_get _ r (i + 1) (by omega) (by simpa using h1)).1
        have e2 : (idxF (fun x => decide (x.id = id)) (i + 1) r - i).toNat = (idxF (fun x => decide (x.id = id)) (i + 1) r - (i + 1)).toNat + 1 := by omega
        rw [e2, List.set_cons_succ, ih (i + 1) (by omega) hp2 ha]
        simp only [List.map_cons, putF]
        rw [if_neg (by omega)]
  have := key fs 0 (by omega) h.rise hd
  simpa [idx] using this
end Go.Den
