/- Ch. 10, plain: rotated, shifted. -/
import Derived.Test.YtfjaimkpmehojaaS10E
namespace Go.Den
open Go
set_option linter.unusedSimpArgs false
set_option linter.unusedVariables false
set_option maxRecDepth 100000
set_option maxHeartbeats 1000000
theorem moved_len (l : List Val) (T : Nat) : (movedV l T).length = l.length := (moved_perm l T).length_eq
theorem moved_at (l : List Val) (T i : Nat) (hi : i < l.length) : (movedV l (T % l.length))[i]? = l[(l.length - 1 - i + T) % l.length]? := by
  have hT : T % l.length < l.length := Nat.mod_lt _ (by omega)
  have hlen : (l.drop (T % l.length) ++ l.take (T % l.length)).length = l.length := by simp; omega
  unfold movedV
  rw [List.getElem?_reverse (by rw [hlen]; exact hi), hlen]
  obtain ⟨j, hj⟩ : ∃ j, l.length - 1 - i = j := ⟨_, rfl⟩
  obtain ⟨t, ht⟩ : ∃ t, T % l.length = t := ⟨_, rfl⟩
  rw [hj, ← Nat.add_mod_mod, ht] 
  rw [ht] at hT
  by_cases h : j < l.length - t
  · rw [List.getElem?_append_left (by simp; omega), List.getElem?_drop, Nat.mod_eq_of_lt (by omega), Nat.add_comm]
  · rw [List.getElem?_append_right (by simp; omega), List.getElem?_take, if_pos (by simp; omega)]
    congr 1
    rw [List.length_drop, Nat.mod_eq_sub_mod (by omega), Nat.mod_eq_of_lt (by omega)]; omega
/-- Where the first value that is not null stands. -/
def FstI (pre : List Val) (f : Int) : Prop := (f = -1 ∧ ∀ w ∈ pre, w.null = true) ∨ ∃ p v r, pre = p ++ v :: r ∧ f = (p.length : Int) ∧ (∀ w ∈ p, w.null = true) ∧ v.null = false
theorem FstI.add {pre : List Val} {f : Int} (h : FstI pre f) (v : Val) : FstI (pre ++ [v]) (bif v.null then f else bif decide (f < 0) then pre.length else f) := by
  rcases h with ⟨rfl, h⟩ | ⟨p, x, r, h1, h2, h3, h4⟩
  · cases hv : v.null with
    | true =>
      refine .inl ⟨rfl, fun w hw => ?_⟩
      rcases List.mem_append.1 hw with hw | hw
      · exact h w hw
      · simp at hw; rw [hw, hv]
    | false => exact .inr ⟨pre, v, [], rfl, rfl, h, hv⟩
  · have e : (bif v.null then f else bif decide (f < 0) then (pre.length : Int) else f) = f := by
      have d : decide (f < 0) = false := by simp; omega
      rw [d]; cases v.null <;> rfl
    rw [e]
    exact .inr ⟨p, x, r ++ [v], by rw [h1]; simp, h2, h3, h4⟩
theorem okV_shift {v : Val} (s : Int) (h : okV v 3 = true) : okV (shiftV s v) 3 = true ∧ InB (shiftV s v) := by
  unfold shiftV
  cases hn : v.null with
  | true =>
    rw [cond_true]
    refine ⟨h, ?_⟩
    rw [okV5_null h hn]; simp [InB]
  | false =>
    rw [cond_false]
    have e := okV5_num h hn (by decide)
    refine ⟨?_, wrap_rng _⟩
    rw [e]; rfl
theorem delta_same (s : Int) (L : List Val) (h : ∀ w ∈ L, w.null = true) : L.map (shiftV s) = L := shift_nulls s L h
end Go.Den
