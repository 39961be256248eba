/- Ch. 10, plain: what changes of a column do to its pages; pages among bytes. -/
import Derived.Test.YtfjaimkpmehojaaS10D
import Derived.Test.YtfjaimkpmehojaaS10EB
namespace Go.Den
open Go
set_option linter.unusedSimpArgs false
set_option linter.unusedVariables false
set_option maxRecDepth 100000
set_option maxHeartbeats 1000000
/-! Reversed and rotated. -/
def movedV (l : List Val) (T : Nat) : List Val := (l.drop T ++ l.take T).reverse
theorem moved_perm (l : List Val) (T : Nat) : (movedV l T).Perm l := by
  unfold movedV
  refine (List.reverse_perm _).trans ?_
  refine List.perm_append_comm.trans ?_
  rw [List.take_append_drop]
theorem dist_perm {l m : List Val} (h : l.Perm m) : distV l = distV m := inc_eq (distV_inc l) (distV_inc m) fun x => by rw [distV_mem, distV_mem, h.mem_iff]
theorem flat_perm {l m : List Val} (h : l.Perm m) (f : Val → List UInt8) : (l.flatMap f).length = (m.flatMap f).length := (h.flatMap_right f).length_eq
theorem dict_perm {l m : List Val} (t : Int) (h : l.Perm m) : (dictP l t).length = (dictP m t).length := by
  unfold dictP
  rw [dist_perm h]
  simp only [List.length_append]
  rw [flat_perm h]
theorem plain_perm {l m : List Val} (t : Int) (h : l.Perm m) : (plainP l t).length = (plainP m t).length := by
  unfold plainP bodyP
  rw [List.length_append, List.length_append, maskOf_len, maskOf_len, h.length_eq, flat_perm h]
/-! Shifted. -/
def shiftV (s : Int) (v : Val) : Val := bif v.null then v else ⟨false, IntKind.wrap .i64 (v.n + s), v.s⟩
theorem shift_null (s : Int) (l : List Val) : (l.map (shiftV s)).map (·.null) = l.map (·.null) := by
  induction l with
  | nil => rfl
  | cons v r ih =>
    rw [List.map_cons, List.map_cons, List.map_cons, ih]
    unfold shiftV
    cases h : v.null <;> simp [h]
theorem shift_mask (s : Int) (l : List Val) : maskOf (l.map (shiftV s)) = maskOf l := by unfold maskOf; rw [shift_null]
theorem wrap_shift (a b s : Int) : IntKind.wrap .i64 (IntKind.wrap .i64 (a + s) - IntKind.wrap .i64 (b + s)) = IntKind.wrap .i64 (a - b) := by
  simp [IntKind.wrap, IntKind.bits, IntKind.signed]
  omega
theorem bodyD_shift (s : Int) : ∀ (last : Int) (l : List Val), bodyD (IntKind.wrap .i64 (last + s)) (l.map (shiftV s)) = bodyD last l
  | _, [] => rfl
  | last, v :: r => by
    rw [List.map_cons]
    unfold bodyD
    cases h : v.null with
    | true =>
      have e : (shiftV s v).null = true := by unfold shiftV; rw [h]; exact h
      rw [e, cond_true, cond_true, bodyD_shift s last r]
    | false =>
      have e : shiftV s v = ⟨false, IntKind.wrap .i64 (v.n + s), v.s⟩ := by unfold shiftV; rw [h]; rfl
      rw [e]
      simp only [cond_false]
      rw [wrap_shift, bodyD_shift s v.n r]
theorem bodyD_nulls : ∀ (p : List Val) (last : Int) (r : List Val), (∀ v ∈ p, v.null = true) → bodyD last (p ++ r) = bodyD last r
  | [], _, _, _ => rfl
  | v :: p, last, r, h => by
    rw [List.cons_append, bodyD, h v (List.mem_cons_self ..), cond_true]
    exact bodyD_nulls p last r fun w hw => h w (List.mem_cons_of_mem _ hw)
theorem shift_nulls (s : Int) : ∀ (p : List Val), (∀ v ∈ p, v.null = true) → p.map (shiftV s) = p
  | [], _ => rfl
  | v :: p, h => by
    rw [List.map_cons, shift_nulls s p fun w hw => h w (List.mem_cons_of_mem _ hw)]
    unfold shiftV
    rw [h v (List.mem_cons_self ..)]; rfl
theorem wrap_id {a : Int} (h0 : -9223372036854775808 ≤ a) (h1 : a ≤ 9223372036854775807) : IntKind.wrap .i64 a = a := by
  simp [IntKind.wrap, IntKind.bits, IntKind.signed]
  omega
/-- The Delta page of a column whose first value that is not null is v. -/
theorem delta_first (p r : List Val) (v : Val) (hp : ∀ w ∈ p, w.null = true) (hv : v.null = false) (hi : InB v) : deltaP (p ++ v :: r) = maskOf (p ++ v :: r) ++ (leb (zz v.n) ++ bodyD v.n r) := by
  unfold deltaP
  rw [bodyD_nulls p 0 _ hp, bodyD, hv, cond_false, Int.sub_zero, wrap_id hi.1 hi.2]
theorem delta_shift (s : Int) (p r : List Val) (v : Val) (hp : ∀ w ∈ p, w.null = true) (hv : v.null = false) : deltaP ((p ++ v :: r).map (shiftV s)) = maskOf (p ++ v :: r) ++ (leb (zz (IntKind.wrap .i64 (v.n + s))) ++ bodyD v.n r) := by
  have e : shiftV s v = ⟨false, IntKind.wrap .i64 (v.n + s), v.s⟩ := by unfold shiftV; rw [hv]; rfl
  have e2 : (p ++ v :: r).map (shiftV s) = p ++ shiftV s v :: r.map (shiftV s) := by rw [List.map_append, List.map_cons, shift_nulls s p hp]
  have e3 := shift_mask s (p ++ v :: r)
  rw [e2] at e3 ⊢
  rw [delta_first p _ _ hp (by rw [e]) (by rw [e]; exact wrap_rng _), e3, e]
  simp only []
  rw [bodyD_shift s v.n r]
/-! One value more. -/
theorem leb_succ : ∀ (n : Nat), (leb (n + 1)).length = (leb n).length ∨ (leb (n + 1)).length = (leb n).length + 1 := by
  intro n
  induction n using Nat.strongRecOn with
  | _ n ih =>
    by_cases h1 : n + 1 < 128
    · rw [leb_small h1, leb_small (by omega)]; simp
    · by_cases h2 : n < 128
      · have : n = 127 := by omega
        subst this
        rw [leb_big (by decide), leb_small (by decide), leb_small (by decide)]; simp
      · rw [leb_big h1, leb_big h2, List.length_cons, List.length_cons]
        by_cases h3 : (n + 1) / 128 = n / 128
        · rw [h3]; exact .inl rfl
        · rw [show (n + 1) / 128 = n / 128 + 1 by omega]
          rcases ih (n / 128) (by omega) with h | h <;> omega
theorem runsA_snoc (x : Val) : ∀ (l : List Val) (v : Val) (n : Nat), (v :: l).getLast? = some x → ∃ (a : List (Nat × Val)) (k : Nat), runsA v n l = a ++ [(k, x)] ∧ runsA v n (l ++ [x]) = a ++ [(k + 1, x)]
  | [], v, n, h => by
    simp at h; subst h
    exact ⟨[], n, rfl, by simp [runsA]⟩
  | y :: r, v, n, h => by
    have h' : (y :: r).getLast? = some x := by rw [List.getLast?_cons_cons] at h; exact h
    rw [List.cons_append]
    unfold runsA
    split
    · rename_i e
      subst e
      exact runsA_snoc x r y (n + 1) h'
    · obtain ⟨a, k, h1, h2⟩ := runsA_snoc x r y 1 h'
      exact ⟨(n, v) :: a, k, by rw [h1]; rfl, by rw [h2]; rfl⟩
theorem runs_snoc (x : Val) (l : List Val) (t : Int) (h : l.getLast? = some x) : (runsP (l ++ [x]) t).length = (runsP l t).length ∨ (runsP (l ++ [x]) t).length = (runsP l t).length + 1 := by
  cases l with
  | nil => simp at h
  | cons v r =>
    obtain ⟨a, k, h1, h2⟩ := runsA_snoc x r v 1 h
    have e1 : runs (v :: r) = a ++ [(k, x)] := h1
    have e2 : runs (v :: r ++ [x]) = a ++ [(k + 1, x)] := h2
    unfold runsP
    rw [e1, e2]
    simp only [List.flatMap_append, List.flatMap_cons, List.flatMap_nil, List.append_nil, List.length_append, runB]
    rcases leb_succ k with h | h <;> omega
theorem plain_snoc (l : List Val) (v : Val) (t : Int) : (plainP (l ++ [v]) t).drop ((l.length + 1 + 7) / 8) = (plainP l t).drop ((l.length + 7) / 8) ++ (bif v.null then [] else bareB v t) := by
  have h1 := maskOf_len (l ++ [v])
  have h2 := maskOf_len l
  rw [List.length_append, List.length_singleton] at h1
  unfold plainP
  rw [← h1, ← h2, List.drop_left, List.drop_left, bodyP_app]
  simp [bodyP]
/-! Pages among bytes. -/
def u64 (n : Int) : Nat := (IntKind.wrap .u64 n).toNat
theorem u64_lt (n : Int) : u64 n < 18446744073709551616 := by
  unfold u64
  simp [IntKind.wrap, IntKind.bits, IntKind.signed]
  omega
theorem u64_eq (n : Int) : IntKind.wrap .u64 n = ((u64 n : Nat) : Int) := by
  unfold u64
  simp [IntKind.wrap, IntKind.bits, IntKind.signed]
  omega
theorem u64_nat (n : Nat) (h : n < 18446744073709551616) : u64 n = n := by
  unfold u64
  rw [wrap_u64 (by omega) (by omega), Int.toNat_natCast]
def putP (b : List UInt8) (p : Pg) : List UInt8 := b ++ (leb (u64 p.kind) ++ (leb (u64 p.rows) ++ (leb p.b.length ++ p.b)))
def getG (b : List UInt8) (a : Int) : Pg × Int × Int :=
  bif !decide ((rU b a).2.2 = 0) then (noP, 0, (rU b a).2.2) else
  bif decide (4 < (rU b a).1) || decide ((rU b a).1 < 1) then (noP, 0, 100) else
  bif !decide ((rU b (rU b a).2.1).2.2 = 0) then (noP, 0, (rU b (rU b a).2.1).2.2) else
  bif decide (1024 < (rU b (rU b a).2.1).1) then (noP, 0, 100) else
  bif !decide ((rT b (rU b (rU b a).2.1).2.1).2.2 = 0) then (noP, 0, (rT b (rU b (rU b a).2.1).2.1).2.2) else
  (⟨(rU b a).1, (rU b (rU b a).2.1).1, (rT b (rU b (rU b a).2.1).2.1).1⟩, (rT b (rU b (rU b a).2.1).2.1).2.1, 0)
def rowsOk (n : Int) : Bool := decide (0 ≤ n) && decide (n ≤ 1024)
theorem get_put (b rest : List UInt8) (p : Pg) (hp : p.b.length ≤ 20000) (hki : -9223372036854775808 ≤ p.kind ∧ p.kind ≤ 9223372036854775807) (hri : -9223372036854775808 ≤ p.rows ∧ p.rows ≤ 9223372036854775807) : getG (putP b p ++ rest) b.length = if kindOk p.kind = true ∧ rowsOk p.rows = true then (p, ((putP b p).length : Int), 0) else (noP, 0, 100) := by
  have e0 : putP b p ++ rest = b ++ (leb (u64 p.kind) ++ (leb (u64 p.rows) ++ (leb p.b.length ++ (p.b ++ rest)))) := by simp [putP]
  have h1 := rU_leb b (leb (u64 p.rows) ++ (leb p.b.length ++ (p.b ++ rest))) (u64 p.kind) (u64_lt _)
  have h2 := rU_leb (b ++ leb (u64 p.kind)) (leb p.b.length ++ (p.b ++ rest)) (u64 p.rows) (u64_lt _)
  have h3 := rT_enc (b ++ (leb (u64 p.kind) ++ leb (u64 p.rows))) rest p.b (by omega)
  have hl : (putP b p).length = b.length + ((leb (u64 p.kind)).length + ((leb (u64 p.rows)).length + ((leb p.b.length).length + p.b.length))) := by unfold putP; simp only [List.length_append]
  simp only [List.append_assoc, List.length_append, Int.natCast_add] at h2 h3
  rw [e0]
  generalize b ++ (leb (u64 p.kind) ++ (leb (u64 p.rows) ++ (leb p.b.length ++ (p.b ++ rest)))) = B at *
  unfold getG
  rw [h1]
  simp only [decide_true, Bool.not_true, cond_false]
  rw [h2]
  simp only [decide_true, Bool.not_true, cond_false]
  have hk : kindOk p.kind = !(decide (4 < u64 p.kind) || decide (u64 p.kind < 1)) := by
    unfold kindOk u64
    rw [Bool.eq_iff_iff]
    simp [IntKind.wrap, IntKind.bits, IntKind.signed]
    omega
  have hr : rowsOk p.rows = !decide (1024 < u64 p.rows) := by
    unfold rowsOk u64
    rw [Bool.eq_iff_iff]
    simp [IntKind.wrap, IntKind.bits, IntKind.signed]
    omega
  cases d1 : (decide (4 < u64 p.kind) || decide (u64 p.kind < 1)) with
  | true => rw [hk, d1]; simp
  | false =>
    cases d2 : decide (1024 < u64 p.rows) with
    | true => rw [hr, d2]; simp
    | false =>
      rw [hk, hr, d1, d2]
      simp only [cond_false, Bool.not_false, and_self, if_true]
      rw [show (b.length : Int) + ((leb (u64 p.kind)).length : Int) + ((leb (u64 p.rows)).length : Int) = (b.length : Int) + (((leb (u64 p.kind)).length : Int) + ((leb (u64 p.rows)).length : Int)) by omega, h3]
      simp only [decide_true, Bool.not_true, cond_false]
      rw [d1] at hk
      rw [d2] at hr
      simp only [Bool.not_false, kindOk, rowsOk, Bool.and_eq_true, decide_eq_true_eq] at hk hr
      have e1 : ((u64 p.kind : Nat) : Int) = p.kind := by rw [← u64_eq, wrap_u64 (by omega) (by omega)]
      have e2 : ((u64 p.rows : Nat) : Int) = p.rows := by rw [← u64_eq, wrap_u64 (by omega) (by omega)]
      rw [e1, e2]
      refine Prod.ext rfl (Prod.ext ?_ rfl)
      simp only []
      rw [hl]
      omega
theorem rT_can (b : List UInt8) (a : Int) (h : (rT b a).2.2 = 0) : 0 ≤ a ∧ a ≤ b.length ∧ ∃ rest, b.drop a.toNat = leb (rT b a).1.length ++ ((rT b a).1 ++ rest) ∧ (rT b a).2.1 = a + (leb (rT b a).1.length).length + (rT b a).1.length := by
  have hs : (rU b a).2.2 = 0 ∧ (rU b a).1 ≤ 1048576 ∧ ((rU b a).1 : Int) ≤ (b.length : Int) - (rU b a).2.1 ∧ spanS b a = ((rU b a).2.1, (rU b a).2.1 + (rU b a).1, 0) := by
    unfold rT at h
    simp only [] at h
    unfold spanS at h ⊢
    cases q0 : decide ((rU b a).2.2 = 0) with
    | false =>
      rw [q0] at h
      simp at h q0
      exact absurd h q0
    | true =>
      rw [q0] at h
      simp only [Bool.not_true, cond_false] at h ⊢
      cases q1 : decide (1048576 < (rU b a).1) with
      | true => rw [q1] at h; simp at h
      | false =>
        rw [q1] at h
        simp only [cond_false] at h ⊢
        cases q2 : decide ((b.length : Int) - (rU b a).2.1 < (rU b a).1) with
        | true => rw [q2] at h; simp at h
        | false =>
          simp at q0 q1 q2
          exact ⟨q0, by omega, by omega, rfl⟩
  obtain ⟨s1, s2, s3, s4⟩ := hs
  have hin := (rU_end b a).1 s1
  obtain ⟨rest, r1, r2⟩ := rU_can b a s1
  refine ⟨hin.2.1, by omega, ?_⟩
  unfold rT
  rw [s4]
  simp only []
  have eM : b.drop (rU b a).2.1.toNat = rest := by
    rw [r2, show (a + ((leb (rU b a).1).length : Int)).toNat = a.toNat + (leb (rU b a).1).length by omega, ← List.drop_drop, r1, List.drop_left]
  have eN : ((rU b a).2.1 + ((rU b a).1 : Int)).toNat - (rU b a).2.1.toNat = (rU b a).1 := by omega
  have eR : (rU b a).1 ≤ rest.length := by
    have := congrArg List.length eM
    simp at this
    omega
  rw [r1, eM, eN, r2]
  generalize (rU b a).1 = n at *
  refine ⟨rest.drop n, ?_, ?_⟩
  · rw [List.take_append_drop, List.length_take, Nat.min_eq_left eR]
  · rw [List.length_take, Nat.min_eq_left eR]
theorem put_get (b : List UInt8) (a : Int) (h : (getG b a).2.2 = 0) : 0 ≤ a ∧ a ≤ b.length ∧ (getG b a).2.1 ≤ b.length ∧ 0 ≤ (getG b a).2.1 ∧ putP (b.take a.toNat) (getG b a).1 = b.take (getG b a).2.1.toNat ∧ (getG b a).1.b.length ≤ b.length := by
  unfold getG at h ⊢
  cases d1 : decide ((rU b a).2.2 = 0) with
  | false => rw [d1] at h; simp at h d1; exact absurd h d1
  | true =>
  rw [d1] at h
  simp only [Bool.not_true, cond_false] at h ⊢
  cases d2 : (decide (4 < (rU b a).1) || decide ((rU b a).1 < 1)) with
  | true => rw [d2] at h; simp at h
  | false =>
  rw [d2] at h
  simp only [cond_false] at h ⊢
  cases d3 : decide ((rU b (rU b a).2.1).2.2 = 0) with
  | false => rw [d3] at h; simp at h d3; exact absurd h d3
  | true =>
  rw [d3] at h
  simp only [Bool.not_true, cond_false] at h ⊢
  cases d4 : decide (1024 < (rU b (rU b a).2.1).1) with
  | true => rw [d4] at h; simp at h
  | false =>
  rw [d4] at h
  simp only [cond_false] at h ⊢
  cases d5 : decide ((rT b (rU b (rU b a).2.1).2.1).2.2 = 0) with
  | false => rw [d5] at h; simp at h d5; exact absurd h d5
  | true =>
  simp only [Bool.not_true, cond_false]
  simp only [decide_eq_true_eq] at d1 d3 d5
  have n1 := (rU_end b a).1 d1
  have n2 := (rU_end b (rU b a).2.1).1 d3
  obtain ⟨t1, t2, r3, c5, c6⟩ := rT_can b _ d5
  obtain ⟨r1, c1, c2⟩ := rU_can b a d1
  obtain ⟨r2, c3, c4⟩ := rU_can b _ d3
  generalize rU b a = q1 at *
  generalize rU b q1.2.1 = q2 at *
  generalize rT b q2.2.1 = q3 at *
  obtain ⟨k, x1, e1⟩ := q1
  obtain ⟨n, x2, e2⟩ := q2
  obtain ⟨l, x3, e3⟩ := q3
  simp only [] at *
  subst c2 c4 c6
  have f1 : (a + ((leb k).length : Int)).toNat = a.toNat + (leb k).length := by omega
  have f2 : (a + ((leb k).length : Int) + ((leb n).length : Int)).toNat = a.toNat + (leb k).length + (leb n).length := by omega
  have g1 : r1 = leb n ++ r2 := by
    rw [f1, ← List.drop_drop, c1, List.drop_left] at c3
    exact c3
  have g2 : r2 = leb l.length ++ (l ++ r3) := by
    rw [f2, ← List.drop_drop, ← List.drop_drop, c1, List.drop_left, g1, List.drop_left] at c5
    exact c5
  subst g1
  subst g2
  have hbl : b.length = a.toNat + ((leb k).length + ((leb n).length + ((leb l.length).length + (l.length + r3.length)))) := by
    have := congrArg List.length c1
    simp only [List.length_drop, List.length_append] at this
    omega
  refine ⟨n1.2.1, by omega, by omega, by omega, ?_, by omega⟩
  unfold putP
  simp only []
  rw [u64_nat k (by omega), u64_nat n (by omega)]
  have f3 : (a + ((leb k).length : Int) + ((leb n).length : Int) + ((leb l.length).length : Int) + (l.length : Int)).toNat = a.toNat + (leb k ++ (leb n ++ (leb l.length ++ l))).length := by simp only [List.length_append]; omega
  rw [f3, List.take_add, c1]
  congr 1
  rw [show leb k ++ (leb n ++ (leb l.length ++ (l ++ r3))) = (leb k ++ (leb n ++ (leb l.length ++ l))) ++ r3 by simp, List.take_left]
end Go.Den
