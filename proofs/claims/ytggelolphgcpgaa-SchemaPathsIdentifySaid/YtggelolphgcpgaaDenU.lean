/- Regions whose order is drawn: every order comes to what the text's order comes to. -/
import Derived.Test.YtggelolphgcpgaaDenT
namespace Go.Den
open Go

section
variable {P : Program} {tab : Nat → Nat}
def guardT : Option (Nat × Bool) → List Nat
  | none => []
  | some (t, _) => [t]
def namesOf (ao : AOper) : List Nat := opT ao.op ++ guardT ao.guard
/-- May this operation touch an object? -/
def mayTouch : AOp → Bool
  | .mov _ | .pick .. | .box true .. | .build .. | .nilchk _ | .bin .. | .not _ | .convi .. | .fld .. | .field .. | .idxarr .. | .index .. | .extract .. | .sstr .. | .min .. | .max .. | .mkfn .. => false
  | .lit pr .. => pr
  | .len str _ => !str
  | _ => true
theorem mayTouch_ok {call : CallF} {base : Nat} {op : AOp} {e : Env} {σ σ' : St} {x : AV} {t : Bool} (h : stepC call base op e σ = some (x, σ', t)) (hm : mayTouch op = false) : t = false := by
  cases op <;> simp only [mayTouch] at hm <;> first | (exact absurd hm (by decide)) | skip
  case box ro sz y =>
    cases ro
    · simp at hm
    · simp only [stepC, step] at h
      repeat' (split at h)
      all_goals first | (simp at h; done) | (simp at h; exact h.2.2) | (rename_i hh; exact (hh trivial).elim)
  case lit pr sz zs len ps =>
    subst hm
    simp only [stepC, step] at h
    repeat' (split at h)
    all_goals first | (simp at h; done) | (simp at h; exact h.2.2) | (rename_i hh _; exact absurd hh (by decide)) | skip
  case len str y =>
    have : str = true := by simpa using hm
    subst this
    simp only [stepC, step] at h
    repeat' (split at h)
    all_goals first | (simp at h; done) | (simp at h; exact h.2.2) | (rename_i hh; exact (hh trivial).elim)
  all_goals
    simp only [stepC, step] at h
    try (repeat' (split at h))
    all_goals first | (simp at h; done) | (simp at h; exact h.2.2) | (obtain ⟨v, hv, he⟩ := Option.map_eq_some_iff.1 h; simp at he; exact he.2.2) | skip

/-- Operations that look at objects and change none. -/
def isRd : AOp → Bool
  | .load .. | .len .. | .idxa .. => true
  | .call mode _ _ => mode == 3
  | _ => false
theorem view_open {call : CallF} {f : Nat} {args : List AV} {σ σ' : St} {x : AV} {t : Bool} (h : viewOp call f args σ = some (x, σ', t)) :
    σ' = σ ∧ t = (!(oslIns args).isEmpty) ∧ (oslIns args).length ≤ 1 ∧ (∃ as, frzs σ args = some as) ∧ ∀ τ : St, (∀ o ∈ oslIns args, τ[o]? = σ[o]?) → viewOp call f args τ = some (x, τ, t) := by
  unfold viewOp at h ⊢
  split at h
  case isFalse => exact absurd h (by simp)
  rename_i hlen
  cases hd : frzs σ args with
  | none => simp [hd] at h
  | some as =>
    rw [hd] at h
    simp only [Option.bind_some] at h
    split at h
    · rename_i hn
      cases hc : call f as [] with
      | none => simp [hc] at h
      | some q =>
        rw [hc] at h
        simp only [Option.bind_some] at h
        split at h
        · rename_i hb
          simp at h; obtain ⟨rfl, rfl, he⟩ := h
          refine ⟨rfl, by rw [he]; simp, hlen, ⟨as, rfl⟩, fun τ ht => ?_⟩
          rw [if_pos hlen, frzs_at hd τ ht]
          simp only [Option.bind_some, if_pos hn, hc, if_pos hb]
          rw [he]; simp
        · exact absurd h (by simp)
    · exact absurd h (by simp)
theorem isRd_same {call : CallF} {base : Nat} {op : AOp} {e : Env} {σ σ' : St} {x : AV} {t : Bool} (h : stepC call base op e σ = some (x, σ', t)) (hm : isRd op = true) : σ' = σ := by
  cases op <;> simp only [isRd] at hm <;> first | (exact absurd hm (by decide)) | skip
  case call mode f args =>
    have : mode = 3 := by simpa using hm
    subst this
    simp only [stepC, callX] at h
    exact (view_open h).1
  all_goals
    simp only [stepC, step] at h
    try (repeat' (split at h))
    all_goals first | (simp at h; done) | (simp at h; exact h.2.1.symm) | (obtain ⟨v, hv, he⟩ := Option.map_eq_some_iff.1 h; simp at he; exact he.2.1.symm) | skip

theorem get_app {σ X : St} {o : Nat} {x : Ob} (h : σ[o]? = some x) : (σ ++ X)[o]? = some x := by
  obtain ⟨hl, h2⟩ := List.getElem?_eq_some_iff.1 h
  rw [List.getElem?_append_left hl, h]
theorem deref_app {σ X : St} {v : AV} {y : List AV × Bool} (h : deref σ v = some y) : deref (σ ++ X) v = some y := by
  cases v <;> simp only [deref] at h ⊢ <;> try exact h
  all_goals
    split at h
    · rename_i e; rw [get_app e]; exact h
    · exact absurd h (by simp)
theorem elems_app {σ X : St} {v : AV} {y : List (List AV) × Bool} (h : elems σ v = some y) : elems (σ ++ X) v = some y := by
  cases v <;> simp only [elems] at h ⊢ <;> try exact h
  all_goals
    split at h
    · rename_i e; rw [get_app e]; exact h
    · exact absurd h (by simp)
/-- What is read stays so when objects are made. -/
theorem isRd_app {call : CallF} {base : Nat} {op : AOp} {e : Env} {σ σ' : St} {x : AV} {t : Bool} (h : stepC call base op e σ = some (x, σ', t)) (hm : isRd op = true) (X : St) : stepC call base op e (σ ++ X) = some (x, σ ++ X, t) := by
  cases op <;> simp only [isRd] at hm <;> first | (exact absurd hm (by decide)) | skip
  case call mode f args =>
    have : mode = 3 := by simpa using hm
    subst this
    simp only [stepC, callX] at h ⊢
    obtain ⟨q1, q2, q3, ⟨as, q4⟩, q5⟩ := view_open h
    refine q5 _ fun o ho => ?_
    obtain ⟨v, sz, es, hx⟩ := frz_arr.go _ q4 ho
    rw [get_app hx, hx]
  case load ag sz y =>
    simp only [stepC, step] at h ⊢
    cases hd : deref σ (ev e y) with
    | none => simp [hd] at h
    | some p =>
      rw [hd] at h
      rw [deref_app hd]
      simp only [] at h ⊢
      obtain ⟨v, hv, he⟩ := Option.map_eq_some_iff.1 h
      simp at he; obtain ⟨rfl, rfl, rfl⟩ := he
      simp [hv]
  case len str y =>
    simp only [stepC, step] at h ⊢
    split at h
    · rename_i hs
      rw [if_pos hs]
      split at h
      · simp at h; obtain ⟨rfl, rfl, rfl⟩ := h; simp_all
      · exact absurd h (by simp)
    · rename_i hs
      rw [if_neg hs]
      obtain ⟨r, hr, he⟩ := Option.map_eq_some_iff.1 h
      simp at he; obtain ⟨rfl, rfl, rfl⟩ := he
      rw [elems_app hr]; rfl
  case idxa sz y i =>
    simp only [stepC, step] at h ⊢
    split at h
    · rename_i h1 h2
      split at h
      · rename_i h0
        rw [if_pos h0]
        split at h
        · rename_i he
          split at h
          · rename_i hl
            simp at h; obtain ⟨rfl, rfl, rfl⟩ := h
            simp [hl]
          · exact absurd h (by simp)
        · exact absurd h (by simp)
      · exact absurd h (by simp)
    · rename_i h1 h2
      split at h
      · rename_i he
        rw [get_app he]
        simp only []
        split at h
        · rename_i hc
          simp at h; obtain ⟨rfl, rfl, rfl⟩ := h
          rw [if_pos hc]
        · exact absurd h (by simp)
      · exact absurd h (by simp)
    · exact absurd h (by simp)
/-- Operations that make objects and change none. -/
def isPush : AOp → Bool
  | .alloc .. | .box .. | .movp .. | .buildp .. | .lit .. | .mkmap .. => true
  | _ => false
theorem promos_app : ∀ {prs : List (Nat × Nat)} {cs cs' : List AV} {σ σ' : St}, promos prs cs σ = some (cs', σ') → ∃ X, σ' = σ ++ X
  | [], cs, cs', σ, σ', h => by simp [promos] at h; obtain ⟨rfl, rfl⟩ := h; exact ⟨[], by simp⟩
  | (i, sz) :: r, cs, cs', σ, σ', h => by
    simp only [promos] at h
    split at h
    · split at h
      · obtain ⟨X, hX⟩ := promos_app h
        exact ⟨Ob.arr 0 sz [] :: X, by rw [hX]; simp⟩
      · exact absurd h (by simp)
    · exact absurd h (by simp)
theorem isPush_app {call : CallF} {base : Nat} {op : AOp} {e : Env} {σ σ' : St} {x : AV} {t : Bool} (h : stepC call base op e σ = some (x, σ', t)) (hm : isPush op = true) : ∃ X, σ' = σ ++ X := by
  cases op <;> simp only [isPush] at hm <;> first | (exact absurd hm (by decide)) | skip
  case alloc zs prs =>
    simp only [stepC, step] at h
    obtain ⟨q, hq, he⟩ := Option.map_eq_some_iff.1 h
    obtain ⟨cs, s⟩ := q
    simp at he; obtain ⟨rfl, rfl, rfl⟩ := he
    obtain ⟨X, hX⟩ := promos_app hq
    exact ⟨X ++ [Ob.cells cs], by rw [hX]; simp⟩
  case buildp zs ps prs =>
    simp only [stepC, step] at h
    split at h
    · obtain ⟨q, hq, he⟩ := Option.map_eq_some_iff.1 h
      obtain ⟨cs, s⟩ := q
      simp at he; obtain ⟨rfl, rfl, rfl⟩ := he
      exact promos_app hq
    · exact absurd h (by simp)
  all_goals
    simp only [stepC, step] at h
    try (repeat' (split at h))
    all_goals first | (simp at h; done) | (simp at h; exact ⟨_, h.2.1.symm⟩) | (simp at h; exact ⟨[], by rw [← h.2.1]; simp⟩) | skip

/-- The operations that come before each, by the edges: bits. -/
def befs : List Oper → List Nat → List Nat
  | [], acc => acc
  | o :: r, acc => befs r (acc ++ [o.after.toList.foldl (fun s e => if Region.binds .any e then s ||| 2 ^ e.on ||| acc.getD e.on 0 else s) 0])
theorem befs_prefix : ∀ (l : List Oper) (acc : List Nat), ∃ m, befs l acc = acc ++ m
  | [], acc => ⟨[], by simp [befs]⟩
  | o :: r, acc => by
    obtain ⟨m, hm⟩ := befs_prefix r (acc ++ [o.after.toList.foldl (fun s e => if Region.binds .any e then s ||| 2 ^ e.on ||| acc.getD e.on 0 else s) 0])
    exact ⟨_, by rw [befs, hm, List.append_assoc]⟩
theorem fold_bits (acc : List Nat) (i : Nat) : ∀ (l : List Edge) (s : Nat), (l.foldl (fun s e => if Region.binds .any e then s ||| 2 ^ e.on ||| acc.getD e.on 0 else s) s).testBit i = true → s.testBit i = true ∨ ∃ e ∈ l, Region.binds .any e = true ∧ (i = e.on ∨ (acc.getD e.on 0).testBit i = true)
  | [], s, h => .inl h
  | e :: l, s, h => by
    simp only [List.foldl_cons] at h
    rcases fold_bits acc i l _ h with h1 | ⟨e', he', h1⟩
    · split at h1
      · rename_i hb
        rw [Nat.testBit_or, Nat.testBit_or, Bool.or_eq_true, Bool.or_eq_true] at h1
        rcases h1 with (h1 | h1) | h1
        · exact .inl h1
        · rw [Nat.testBit_two_pow] at h1
          have h1' : e.on = i := by simpa using h1
          exact .inr ⟨e, by simp, hb, .inl h1'.symm⟩
        · exact .inr ⟨e, by simp, hb, .inr h1⟩
      · exact .inl h1
    · exact .inr ⟨e', by simp [he'], h1⟩
/-- A bit is an edge, or a bit of the edge's end. -/
theorem befs_get : ∀ (l : List Oper) (acc : List Nat) (j i : Nat), acc.length ≤ j → ((befs l acc).getD j 0).testBit i = true → ∃ o, l[j - acc.length]? = some o ∧ ∃ e ∈ o.after.toList, Region.binds .any e = true ∧ (i = e.on ∨ e.on < j ∧ ((befs l acc).getD e.on 0).testBit i = true)
  | [], acc, j, i, hj, h => by
    simp only [befs] at h
    rw [List.getD_eq_getElem?_getD, List.getElem?_eq_none hj] at h
    simp at h
  | o :: r, acc, j, i, hj, h => by
    rw [befs] at h
    by_cases hje : j = acc.length
    · subst hje
      obtain ⟨m, hm⟩ := befs_prefix r (acc ++ [o.after.toList.foldl (fun s e => if Region.binds .any e then s ||| 2 ^ e.on ||| acc.getD e.on 0 else s) 0])
      rw [hm] at h
      have hg : (acc ++ [o.after.toList.foldl (fun s e => if Region.binds .any e then s ||| 2 ^ e.on ||| acc.getD e.on 0 else s) 0] ++ m).getD acc.length 0 = o.after.toList.foldl (fun s e => if Region.binds .any e then s ||| 2 ^ e.on ||| acc.getD e.on 0 else s) 0 := by
        simp
      rw [hg] at h
      refine ⟨o, by simp, ?_⟩
      rcases fold_bits acc i _ _ h with h1 | ⟨e, he, hb, h1⟩
      · simp at h1
      · refine ⟨e, he, hb, ?_⟩
        rcases h1 with h1 | h1
        · exact .inl h1
        · right
          have hlt : e.on < acc.length := by
            rcases Nat.lt_or_ge e.on acc.length with h | h
            · exact h
            · rw [List.getD_eq_getElem?_getD, List.getElem?_eq_none h] at h1; simp at h1
          refine ⟨hlt, ?_⟩
          rw [befs, hm, List.append_assoc, List.getD_eq_getElem?_getD, List.getElem?_append_left hlt, ← List.getD_eq_getElem?_getD]
          exact h1
    · obtain ⟨o', ho', e, he, hb, h1⟩ := befs_get r _ j i (by simp; omega) h
      refine ⟨o', ?_, e, he, hb, by rw [befs]; exact h1⟩
      simp at ho'
      have : j - acc.length = (j - (acc.length + 1)) + 1 := by omega
      rw [this]; simpa using ho'
/-- The edges go back; unordered operations share no slot; which pairs may both touch objects. -/
def chkEdges (ops : List Oper) : Nat → Bool
  | 0 => true
  | i + 1 => (match ops[i]? with
    | some o => o.after.toList.all fun e => !Region.binds .any e || decide (e.on < i)
    | none => true) && chkEdges ops i
def chkPair (B : List Nat) (aos : List AOper) (unord : List (Nat × Nat)) (i j : Nat) : Bool :=
  (B.getD j 0).testBit i || (match aos[i]?, aos[j]? with
    | some x, some y => (match x.dst with
        | some d => !(namesOf y).contains d && y.dst != some d
        | none => true) && (match y.dst with
        | some d => !(namesOf x).contains d
        | none => true) && (!(mayTouch x.op && mayTouch y.op) || (isRd x.op && (isRd y.op || isPush y.op)) || unord.contains (i, j))
    | _, _ => true)
def chkPairs (B : List Nat) (aos : List AOper) (unord : List (Nat × Nat)) : Nat → Nat → Bool
  | _, 0 => true
  | n, j + 1 => (List.range j).all (fun i => chkPair B aos unord i j) && chkPairs B aos unord n j
def chkDraw (ops : List Oper) (aos : List AOper) (unord : List (Nat × Nat)) : Bool := chkEdges ops ops.length && chkPairs (befs ops []) aos unord 0 ops.length
theorem chkEdges_ok {ops : List Oper} : ∀ {n : Nat}, chkEdges ops n = true → ∀ i o, i < n → ops[i]? = some o → ∀ e ∈ o.after.toList, Region.binds .any e = true → e.on < i
  | 0, _, i, o, h, _, _, _, _ => absurd h (by omega)
  | n + 1, hc, i, o, hi, ho, e, he, hb => by
    simp only [chkEdges, Bool.and_eq_true] at hc
    by_cases hin : i = n
    · subst hin
      have h1 := hc.1
      rw [ho] at h1
      have := List.all_eq_true.1 h1 e he
      simpa [hb] using this
    · exact chkEdges_ok hc.2 i o (by omega) ho e he hb
theorem chkPairs_ok {B : List Nat} {aos : List AOper} {unord : List (Nat × Nat)} {m : Nat} : ∀ {n : Nat}, chkPairs B aos unord m n = true → ∀ i j, i < j → j < n → chkPair B aos unord i j = true
  | 0, _, i, j, _, h => absurd h (by omega)
  | n + 1, hc, i, j, hij, hj => by
    simp only [chkPairs, Bool.and_eq_true] at hc
    by_cases hjn : j = n
    · subst hjn
      exact List.all_eq_true.1 hc.1 i (by simpa using hij)
    · exact chkPairs_ok hc.2 i j hij (by omega)

/-! The text's run, place by place. -/
/-- What place i writes, and whether it touched an object. -/
structure Trace (call : CallF) (base : Nat) (aos : List AOper) (n : Nat) (E : Nat → Env) (T : Nat → St) (r : Nat → AV) (b : Nat → Bool) : Prop where
  at_ : ∀ i ao, i < n → aos[i]? = some ao → E (i + 1) = (E i).put ao.dst (r i) ∧
    ((wanted (E i) ao.guard = some true ∧ stepC call base ao.op (E i) (T i) = some (r i, T (i + 1), b i)) ∨ (wanted (E i) ao.guard = some false ∧ r i = .tup [] ∧ T (i + 1) = T i ∧ b i = false))
theorem runD_trace {call : CallF} {base : Nat} : ∀ (aos : List AOper) (k : Nat) {env env' : Env} {σ σ' : St} {S S' : List (Nat × Foot)}, runD call base aos k env σ S = some (env', σ', S') →
    ∃ E T r b, E 0 = env ∧ T 0 = σ ∧ E aos.length = env' ∧ T aos.length = σ' ∧ Trace call base aos aos.length E T r b ∧ ∀ p, p ∈ S' ↔ (p ∈ S ∨ ∃ j ao, aos[j]? = some ao ∧ p = (k + j, footOf ao.op (E j) (T j).length) ∧ b j = true)
  | [], k, env, env', σ, σ', S, S', h => by
    simp [runD] at h; obtain ⟨rfl, rfl, rfl⟩ := h
    exact ⟨fun _ => env, fun _ => σ, fun _ => .dead, fun _ => false, rfl, rfl, rfl, rfl, ⟨fun i ao hi => absurd hi (by simp)⟩, fun i => by simp⟩
  | ao :: aos, k, env, env', σ, σ', S, S', h => by
    have key : ∀ (x : AV) (σ1 : St) (t : Bool), ((wanted env ao.guard = some true ∧ stepC call base ao.op env σ = some (x, σ1, t)) ∨ (wanted env ao.guard = some false ∧ x = .tup [] ∧ σ1 = σ ∧ t = false)) →
        runD call base aos (k + 1) (env.put ao.dst x) σ1 (if t then (k, footOf ao.op env σ.length) :: S else S) = some (env', σ', S') →
        ∃ E T r b, E 0 = env ∧ T 0 = σ ∧ E (ao :: aos).length = env' ∧ T (ao :: aos).length = σ' ∧ Trace call base (ao :: aos) (ao :: aos).length E T r b ∧ ∀ p, p ∈ S' ↔ (p ∈ S ∨ ∃ j a, (ao :: aos)[j]? = some a ∧ p = (k + j, footOf a.op (E j) (T j).length) ∧ b j = true) := by
      intro x σ1 t hor hrun
      obtain ⟨E, T, r, b, h1, h2, h3, h4, h5, h6⟩ := runD_trace aos (k + 1) hrun
      refine ⟨fun i => match i with | 0 => env | i + 1 => E i, fun i => match i with | 0 => σ | i + 1 => T i, fun i => match i with | 0 => x | i + 1 => r i, fun i => match i with | 0 => t | i + 1 => b i, rfl, rfl, h3, h4, ⟨fun i a hi ha => ?_⟩, fun i => ?_⟩
      · cases i with
        | zero =>
          simp at ha; subst ha
          refine ⟨h1, ?_⟩
          rcases hor with ⟨q1, q2⟩ | ⟨q1, q2, q3, q4⟩
          · exact .inl ⟨q1, by rw [q2, ← h2]⟩
          · exact .inr ⟨q1, q2, by rw [← q3, ← h2], q4⟩
        | succ i => exact h5.at_ i a (by simpa using hi) (by simpa using ha)
      · rw [h6]
        constructor
        · rintro (h | ⟨j, a, hj, e, hb⟩)
          · cases t with
            | true =>
              simp at h
              rcases h with rfl | h
              · exact .inr ⟨0, ao, by simp, by simp, rfl⟩
              · exact .inl h
            | false => exact .inl (by simpa using h)
          · exact .inr ⟨j + 1, a, by simpa using hj, by rw [e]; simp; omega, hb⟩
        · rintro (h | ⟨j, a, hj, e, hb⟩)
          · left
            cases t <;> simp [h]
          · cases j with
            | zero =>
              left
              have : t = true := hb
              subst this
              simp at hj; subst hj
              simp [e]
            | succ j => exact .inr ⟨j, a, by simpa using hj, by rw [e]; simp; omega, hb⟩
    simp only [runD] at h
    split at h
    · rename_i hw
      split at h
      · rename_i x σ1 t hs
        exact key x σ1 t (.inl ⟨hw, hs⟩) h
      · exact absurd h (by simp)
    · rename_i hw
      exact key (.tup []) σ false (.inr ⟨hw, rfl, rfl, rfl⟩) (by simpa using h)
    · exact absurd h (by simp)
/-- The last value written to t by the places below k that are in L. -/
def look (aos : List AOper) (env : Env) (r : Nat → AV) (L : Nat → Bool) (t : Nat) : Nat → AV
  | 0 => env.get t
  | k + 1 => if L k && ((aos[k]?).bind (·.dst)) == some t then r k else look aos env r L t k
theorem look_congr {aos : List AOper} {env : Env} {r : Nat → AV} {L M : Nat → Bool} {t : Nat} : ∀ {n : Nat}, (∀ k, k < n → (aos[k]?).bind (·.dst) = some t → L k = M k) → look aos env r L t n = look aos env r M t n
  | 0, _ => rfl
  | n + 1, h => by
    simp only [look]
    rw [look_congr fun k hk => h k (by omega)]
    by_cases hd : (aos[n]?).bind (·.dst) = some t
    · rw [h n (by omega) hd]
    · have : ((aos[n]?).bind (·.dst) == some t) = false := by simpa using hd
      simp [this]
theorem look_stop {aos : List AOper} {env : Env} {r : Nat → AV} {L : Nat → Bool} {t i : Nat} : ∀ {n : Nat}, i ≤ n → (∀ k, i ≤ k → k < n → (aos[k]?).bind (·.dst) = some t → L k = false) → look aos env r L t n = look aos env r L t i
  | 0, hi, _ => by have : i = 0 := by omega
                   subst this; rfl
  | n + 1, hi, h => by
    by_cases e : i = n + 1
    · subst e; rfl
    · simp only [look]
      rw [look_stop (n := n) (i := i) (by omega) fun k h1 h2 => h k h1 (by omega)]
      by_cases hd : (aos[n]?).bind (·.dst) = some t
      · simp [h n (by omega) (by omega) hd]
      · have : ((aos[n]?).bind (·.dst) == some t) = false := by simpa using hd
        simp [this]
theorem trace_look {call : CallF} {base : Nat} {aos : List AOper} {E : Nat → Env} {T : Nat → St} {r : Nat → AV} {b : Nat → Bool} (tr : Trace call base aos aos.length E T r b) (t : Nat) : ∀ i, i ≤ aos.length → (E i).get t = look aos (E 0) r (fun _ => true) t i
  | 0, _ => rfl
  | i + 1, hi => by
    have hi' : i < aos.length := by omega
    obtain ⟨h1, _⟩ := tr.at_ i aos[i] hi' (List.getElem?_eq_getElem hi')
    rw [h1]
    simp only [look, List.getElem?_eq_getElem hi', Option.bind_some, Bool.true_and]
    cases hd : aos[i].dst with
    | none => simp [Env.put, trace_look tr t i (by omega)]
    | some d =>
      simp only [Env.put, Env.get]
      by_cases e : d = t
      · subst e; simp
      · rw [if_neg e, trace_look tr t i (by omega)]; simp [e]
theorem prune_congr {live : List Nat} {e e' : Env} (h : ∀ t, e.get t = e'.get t) : prune live e = prune live e' := by
  induction live with
  | nil => rfl
  | cons t r ih => simp only [prune, h, ih]
theorem wanted_congr {e e' : Env} {g : Option (Nat × Bool)} (h : ∀ t ∈ guardT g, e.get t = e'.get t) : wanted e g = wanted e' g := by
  cases g with
  | none => rfl
  | some p => obtain ⟨t, b⟩ := p; simp only [wanted]; rw [h t (by simp [guardT])]
theorem mem_hits {i : Nat} {f : Foot} : ∀ {T : List (Nat × Foot)}, (i, f) ∈ T → f ∈ hits i T
  | [], h => by simp at h
  | (j, g) :: r, h => by
    simp only [hits]
    simp at h
    rcases h with ⟨rfl, rfl⟩ | h
    · simp
    · split
      · simp [mem_hits h]
      · exact mem_hits h
theorem drawOk_pair {T : List (Nat × Foot)} : ∀ {l : List (Nat × Nat)}, drawOk T l = true → ∀ i j, (i, j) ∈ l → ∀ f g, (i, f) ∈ T → (j, g) ∈ T → apart f g = true
  | [], _, i, j, h => by simp at h
  | (a, c) :: l, hd, i, j, h => by
    simp only [drawOk, Bool.and_eq_true] at hd
    simp at h
    rcases h with ⟨rfl, rfl⟩ | h
    · intro f g h1 h2
      exact List.all_eq_true.1 (List.all_eq_true.1 hd.1 f (mem_hits h1)) g (mem_hits h2)
    · exact drawOk_pair hd.2 i j h
theorem apart_iff {f g : Foot} (h : apart f g = true) : ∃ a b, f = some (true, a) ∧ g = some (false, b) ∧ a ≠ b := by
  unfold apart at h
  split at h
  · rename_i a b; exact ⟨a, b, rfl, rfl, by simpa using h⟩
  · exact absurd h (by simp)
theorem footApp_false {n d : Nat} {x y : AV} {r : Bool} {a : Nat} (h : footApp n d x y = some (r, a)) : r = false := by
  unfold footApp at h
  split at h
  · split at h
    · simp at h; exact h.1
    · rw [Option.map_eq_some_iff] at h
      obtain ⟨_, _, h⟩ := h
      simp at h; exact h.1
  · exact absurd h (by simp)
theorem footSlot_false {n d : Nat} {env : Env} {op : AOp} {r : Bool} {a : Nat} (h : footSlot n d env op = some (r, a)) : r = false := by
  unfold footSlot at h
  split at h
  · split at h
    · exact footApp_false h
    · exact absurd h (by simp)
  · split at h
    · simp at h; exact h.1
    · exact absurd h (by simp)
theorem foot_isRd {op : AOp} {e : Env} {n a : Nat} (h : footOf op e n = some (true, a)) : isRd op = true := by
  cases op <;> simp only [footOf] at h <;> first | rfl | (simp at h; done) | (split at h <;> simp at h; done) | (split at h <;> first | (rename_i hm; simp [isRd, hm]; done) | exact absurd h (by simp)) | exact absurd (footSlot_false h) (by simp)
/-- What a read that touches an object comes to depends on that object alone. -/
theorem rd_foot {call : CallF} {base : Nat} {op : AOp} {e : Env} {σ σ' : St} {x : AV} (h : stepC call base op e σ = some (x, σ', true)) (hm : isRd op = true) :
    ∃ a ob, footOf op e σ.length = some (true, a) ∧ σ[a]? = some ob ∧ ∀ τ : St, τ[a]? = some ob → stepC call base op e τ = some (x, τ, true) := by
  cases op <;> simp only [isRd] at hm <;> first | (exact absurd hm (by decide)) | skip
  case call mode f args =>
    have : mode = 3 := by simpa using hm
    subst this
    simp only [stepC, callX] at h ⊢
    obtain ⟨q1, q2, q3, ⟨as, q4⟩, q5⟩ := view_open h
    simp only [footOf]
    cases ho : oslIns (evs e args) with
    | nil => rw [ho] at q2; simp at q2
    | cons o r =>
      have hr : r = [] := by rw [ho] at q3; simp at q3; exact q3
      subst hr
      obtain ⟨v, sz, es, hx⟩ := frz_arr.go _ q4 (show o ∈ oslIns (evs e args) by rw [ho]; simp)
      refine ⟨o, _, rfl, hx, fun τ hτ => q5 τ fun o' ho' => ?_⟩
      rw [ho] at ho'
      simp at ho'; subst ho'
      rw [hτ, hx]
  case load ag sz y =>
    simp only [stepC, step] at h ⊢
    simp only [footOf]
    cases hd : deref σ (ev e y) with
    | none => simp [hd] at h
    | some p =>
      rw [hd] at h
      obtain ⟨cs, t⟩ := p
      simp only [] at h
      obtain ⟨v, hv, he⟩ := Option.map_eq_some_iff.1 h
      simp at he; obtain ⟨rfl, rfl, rfl⟩ := he
      cases hy : ev e y <;> rw [hy] at hd <;> simp only [deref] at hd <;> first | (simp at hd; done) | skip
      case ref o off =>
        split at hd
        · rename_i cs0 ho
          refine ⟨o, _, rfl, ho, fun τ hτ => ?_⟩
          simp only [deref, hτ]
          simp at hd; subst hd; simp [hv]
        · exact absurd hd (by simp)
      case eref o ver n i off =>
        split at hd
        · rename_i ho
          refine ⟨o, _, rfl, ho, fun τ hτ => ?_⟩
          simp only [deref, hτ]
          split at hd
          · rename_i hc
            rw [if_pos hc]
            split at hd
            · rename_i he
              simp at hd; subst hd; simp [hv]
            · exact absurd hd (by simp)
          · exact absurd hd (by simp)
        · exact absurd hd (by simp)
  case len str y =>
    simp only [stepC, step] at h ⊢
    simp only [footOf]
    split at h
    · split at h <;> simp at h
    · rename_i hs
      obtain ⟨r, hr, he⟩ := Option.map_eq_some_iff.1 h
      simp at he; obtain ⟨rfl, rfl, he2⟩ := he
      obtain ⟨es, t⟩ := r
      simp at he2; subst he2
      cases hy : ev e y <;> rw [hy] at hr <;> simp only [elems] at hr <;> first | (simp at hr; done) | skip
      case osl o ver n off len =>
        split at hr
        · rename_i ho
          refine ⟨o, _, rfl, ho, fun τ hτ => ?_⟩
          rw [if_neg hs]
          simp only [elems, hτ]
          rw [hr]; rfl
        · exact absurd hr (by simp)
  case idxa sz y i =>
    simp only [stepC, step] at h ⊢
    simp only [footOf]
    split at h
    · split at h
      · split at h
        · split at h <;> simp at h
        · exact absurd h (by simp)
      · exact absurd h (by simp)
    · rename_i h1 h2
      split at h
      · rename_i ho
        refine ⟨_, _, by rw [h1]; rfl, ho, fun τ hτ => ?_⟩
        simp only [hτ]
        split at h
        · rename_i hc
          rw [if_pos hc]
          simp at h; simp [h.1]
        · exact absurd h (by simp)
      · exact absurd h (by simp)
    · exact absurd h (by simp)
theorem srcOf_plain {σ τ : St} {sz : Nat} {v : AV} (h : plainS v = true) : srcOf σ sz v = srcOf τ sz v := by
  cases v <;> simp only [plainS] at h <;> first | rfl | (exact absurd h (by decide))
/-- An append to a row of one's own: that row alone. -/
theorem append_foot {base : Nat} {pr : Bool} {sz bytes : Nat} {x y : Opd} {e : Env} {σ σ' : St} {v : AV} {t : Bool} (h : step base (.append pr sz bytes x y) e σ = some (v, σ', t)) (hp : plainS (ev e y) = true) {o : Nat} (ho : objOf (ev e x) = some o) :
    σ'.length = σ.length ∧ (∀ p, p ≠ o → σ'[p]? = σ[p]?) ∧ t = true ∧ ∀ τ : St, τ.length = σ.length → τ[o]? = σ[o]? → ∃ τ', step base (.append pr sz bytes x y) e τ = some (v, τ', true) ∧ τ'.length = τ.length ∧ τ'[o]? = σ'[o]? ∧ ∀ p, p ≠ o → τ'[p]? = τ[p]? := by
  simp only [step] at h ⊢
  cases hy : srcOf σ sz (ev e y) with
  | none => rw [hy] at h; simp at h
  | some q =>
    obtain ⟨ys, t0⟩ := q
    rw [hy] at h
    have hyτ : ∀ τ : St, srcOf τ sz (ev e y) = some (ys, t0) := fun τ => by rw [← hy]; exact srcOf_plain hp
    simp only [hyτ]
    simp only [] at h
    split at h
    · rename_i hc
      cases hx : ev e x <;> rw [hx] at ho h <;> simp only [objOf] at ho <;> first | (simp at ho; done) | (simp at h; done) | skip
      rename_i o' ver n off len
      simp at ho; subst ho
      simp only [] at h
      cases hso : σ[o']? with
      | none => rw [hso] at h; simp at h
      | some ob =>
        rw [hso] at h
        cases ob <;> simp only [] at h <;> first | (simp at h; done) | skip
        rename_i ver' sz' es
        split at h
        · rename_i hc2
          have hlt := (List.getElem?_eq_some_iff.1 hso).1
          split at h
          · rename_i hc3
            simp at h; obtain ⟨rfl, rfl, rfl⟩ := h
            refine ⟨by simp, fun p hp => by rw [List.getElem?_set]; simp [Ne.symm hp], rfl, fun τ hl hτ => ?_⟩
            refine ⟨τ.set o' (.arr ver sz (es ++ ys)), by rw [if_pos hc]; simp only [hτ]; rw [if_pos hc2, if_pos hc3], by simp, ?_, fun p hp => by rw [List.getElem?_set]; simp [Ne.symm hp]⟩
            rw [List.getElem?_set, List.getElem?_set]; simp [hlt, hl]
          · rename_i hc3
            simp at h; obtain ⟨rfl, rfl, rfl⟩ := h
            refine ⟨by simp, fun p hp => by rw [List.getElem?_set]; simp [Ne.symm hp], rfl, fun τ hl hτ => ?_⟩
            refine ⟨τ.set o' (.arr (ver + 1) sz ((es.drop off).take len ++ ys)), by rw [if_pos hc]; simp only [hτ]; rw [if_pos hc2, if_neg hc3], by simp, ?_, fun p hp => by rw [List.getElem?_set]; simp [Ne.symm hp]⟩
            rw [List.getElem?_set, List.getElem?_set]; simp [hlt, hl]
        · exact absurd h (by simp)
    · exact absurd h (by simp)
/-- What a kept place gets does not hang on the other objects. -/
theorem push_any {base : Nat} {op : AOp} {e : Env} {σ σ1 : St} {v : AV} {t : Bool} (hs : slotable op = true) (hp : ∀ pr sz bytes x y, op = .append pr sz bytes x y → ev e x = .nils ∧ plainS (ev e y) = true) (h : step base op e σ = some (v, σ1, t)) :
    ∃ ob, σ1 = σ ++ [ob] ∧ ∀ τ : St, τ.length = σ.length → step base op e τ = some (v, τ ++ [ob], t) := by
  cases op <;> simp only [slotable] at hs <;> first | (exact absurd hs (by decide)) | skip
  case alloc zs prs =>
    have : prs = [] := by simpa using hs
    subst this
    simp only [step, promos, Option.map_some, Option.some.injEq, Prod.mk.injEq] at h ⊢
    obtain ⟨rfl, rfl, rfl⟩ := h
    exact ⟨_, rfl, fun τ hl => ⟨by rw [hl], rfl, rfl⟩⟩
  case box ro sz x =>
    have : ro = false := by simpa using hs
    subst this
    simp only [step] at h ⊢
    split at h
    · rename_i hc
      simp at h; obtain ⟨rfl, rfl, rfl⟩ := h
      exact ⟨_, rfl, fun τ hl => by rw [if_pos hc]; simp [hl]⟩
    · exact absurd h (by simp)
  case lit pr sz zs len ps =>
    subst hs
    simp only [step] at h ⊢
    split at h
    · rename_i es he
      simp only [if_true] at h ⊢
      split at h
      · rename_i h0
        simp at h; obtain ⟨rfl, rfl, rfl⟩ := h
        exact ⟨_, rfl, fun τ hl => by simp [h0, hl]⟩
      · exact absurd h (by simp)
    · exact absurd h (by simp)
  case append pr sz bytes x y =>
    subst hs
    obtain ⟨hx, hy⟩ := hp _ _ _ _ _ rfl
    simp only [step, hx] at h ⊢
    cases hsr : srcOf σ sz (ev e y) with
    | none => rw [hsr] at h; simp at h
    | some q =>
      obtain ⟨ys, t0⟩ := q
      rw [hsr] at h
      simp only [] at h
      split at h
      · rename_i hc
        split at h
        · rename_i hb
          simp at h; obtain ⟨rfl, rfl, rfl⟩ := h
          exact ⟨_, rfl, fun τ hl => by rw [srcOf_plain (τ := σ) hy, hsr]; simp [hc, hb, hl]⟩
        · exact absurd h (by simp)
      · exact absurd h (by simp)
  case movp sz x =>
    simp only [step] at h ⊢
    split at h
    · rename_i hx
      split at h
      · rename_i h0
        simp at h; obtain ⟨rfl, rfl, rfl⟩ := h
        exact ⟨_, rfl, fun τ hl => by rw [if_pos h0, hl]⟩
      · exact absurd h (by simp)
    · exact absurd h (by simp)
theorem slot_foot {base d : Nat} {op : AOp} {e : Env} {σ σ' : St} {v : AV} {t : Bool} (h : fillAt base d σ (step base op e σ) = some (v, σ', t)) {r : Bool} {a : Nat} (hf : footSlot σ.length d e op = some (r, a)) :
    σ'.length = σ.length ∧ (∀ p, p ≠ a → σ'[p]? = σ[p]?) ∧ t = true ∧ ∀ τ : St, τ.length = σ.length → τ[a]? = σ[a]? → ∃ τ', fillAt base d τ (step base op e τ) = some (v, τ', true) ∧ τ'.length = τ.length ∧ τ'[a]? = σ'[a]? ∧ ∀ p, p ≠ a → τ'[p]? = τ[p]? := by
  have push : ∀ (hs : slotable op = true) (hp : ∀ pr sz bytes x y, op = .append pr sz bytes x y → ev e x = .nils ∧ plainS (ev e y) = true), a = σ.length - d →
      σ'.length = σ.length ∧ (∀ p, p ≠ a → σ'[p]? = σ[p]?) ∧ t = true ∧ ∀ τ : St, τ.length = σ.length → τ[a]? = σ[a]? → ∃ τ', fillAt base d τ (step base op e τ) = some (v, τ', true) ∧ τ'.length = τ.length ∧ τ'[a]? = σ'[a]? ∧ ∀ p, p ≠ a → τ'[p]? = τ[p]? := by
    intro hs hp ha
    cases hst : step base op e σ with
    | none => rw [hst] at h; simp [fillAt] at h
    | some q =>
      obtain ⟨v1, σ1, t1⟩ := q
      rw [hst] at h
      obtain ⟨ob, rfl, hτ⟩ := push_any hs hp hst
      simp only [fillAt] at h
      rw [if_neg (by simp)] at h
      have e1 : (σ ++ [ob])[σ.length]? = some ob := by simp
      rw [e1] at h
      rw [← ha] at h
      obtain ⟨q, hq⟩ : ∃ q, q = σ[a]? := ⟨_, rfl⟩
      rw [← hq] at h
      cases q with
      | none => simp at h
      | some ob2 =>
        have hk := hq.symm
        have hlt := (List.getElem?_eq_some_iff.1 hk).1
        cases ob2 <;> simp only [] at h <;> first | (simp at h; done) | skip
        split at h
        · rename_i hc
          have fin : ∀ x : AV, (∀ τ : St, τ.length = σ.length → τ[a]? = σ[a]? → fillAt base d τ (some (v1, τ ++ [ob], t1)) = some (x, τ.set a ob, true)) → some (x, σ.set a ob, true) = some (v, σ', t) →
              σ'.length = σ.length ∧ (∀ p, p ≠ a → σ'[p]? = σ[p]?) ∧ t = true ∧ ∀ τ : St, τ.length = σ.length → τ[a]? = σ[a]? → ∃ τ', fillAt base d τ (step base op e τ) = some (v, τ', true) ∧ τ'.length = τ.length ∧ τ'[a]? = σ'[a]? ∧ ∀ p, p ≠ a → τ'[p]? = τ[p]? := by
            intro x hx he
            simp at he; obtain ⟨rfl, rfl, rfl⟩ := he
            refine ⟨by simp, fun p hp => by rw [List.getElem?_set]; simp [Ne.symm hp], rfl, fun τ hl hτa => ⟨τ.set a ob, ?_, by simp, ?_, fun p hp => by rw [List.getElem?_set]; simp [Ne.symm hp]⟩⟩
            · rw [hτ τ hl]; exact hx τ hl hτa
            · rw [List.getElem?_set, List.getElem?_set]; simp [hlt, hl]
          have fa : ∀ τ : St, τ.length = σ.length → τ[a]? = σ[a]? → τ.length - d = a ∧ (τ ++ [ob])[τ.length]? = some ob ∧ τ[a]? = some .res := fun τ hl hτa => ⟨by omega, by simp, by rw [hτa, hk]⟩
          cases v1 <;> simp only [] at h <;> first | (simp at h; done) | skip
          · refine fin _ (fun τ hl hτa => ?_) h
            obtain ⟨f1, f2, f3⟩ := fa τ hl hτa
            simp only [fillAt]
            rw [if_neg (by simp), f2, f1, f3]
            simp only []
            rw [if_pos (by rw [hl]; exact hc)]
          · refine fin _ (fun τ hl hτa => ?_) h
            obtain ⟨f1, f2, f3⟩ := fa τ hl hτa
            simp only [fillAt]
            rw [if_neg (by simp), f2, f1, f3]
            simp only []
            rw [if_pos (by rw [hl]; exact hc)]
        · exact absurd h (by simp)
  unfold footSlot at hf
  split at hf
  · rename_i pr sz bytes x y
    split at hf
    · rename_i hpr
      have hpr' : pr = true := hpr
      unfold footApp at hf
      split at hf
      · rename_i hy
        split at hf
        · rename_i hx
          simp at hf
          exact push hpr' (fun _ _ _ _ _ he => by cases he; exact ⟨hx, hy⟩) hf.2.symm
        · rw [Option.map_eq_some_iff] at hf
          obtain ⟨o, ho, he⟩ := hf
          simp at he; obtain ⟨_, rfl⟩ := he
          cases hst : step base (.append pr sz bytes x y) e σ with
          | none => rw [hst] at h; simp [fillAt] at h
          | some q =>
            obtain ⟨v1, σ1, t1⟩ := q
            rw [hst] at h
            obtain ⟨r1, r2, r3, r4⟩ := append_foot hst hy ho
            simp only [fillAt] at h
            rw [if_pos r1] at h
            simp at h; obtain ⟨rfl, rfl, rfl⟩ := h
            refine ⟨r1, r2, rfl, fun τ hl hτ => ?_⟩
            obtain ⟨τ', s1, s2, s3, s4⟩ := r4 τ hl hτ
            exact ⟨τ', by rw [s1]; simp only [fillAt]; rw [if_pos s2], s2, s3, s4⟩
      · exact absurd hf (by simp)
    · exact absurd hf (by simp)
  · rename_i hna
    split at hf
    · rename_i hs
      simp at hf
      exact push hs (fun _ _ _ _ _ he => (hna _ _ _ _ _ he).elim) hf.2.symm
    · exact absurd hf (by simp)
theorem store_one {base : Nat} {sz : Nat} {x y : Opd} {e : Env} {σ σ' : St} {v : AV} {t : Bool} (h : step base (.store sz x y) e σ = some (v, σ', t)) {o : Nat} (ho : objOf (ev e x) = some o) :
    σ'.length = σ.length ∧ (∀ p, p ≠ o → σ'[p]? = σ[p]?) ∧ t = true ∧ ∀ τ : St, τ.length = σ.length → τ[o]? = σ[o]? → ∃ τ', step base (.store sz x y) e τ = some (v, τ', true) ∧ τ'.length = τ.length ∧ τ'[o]? = σ'[o]? ∧ ∀ p, p ≠ o → τ'[p]? = τ[p]? := by
  simp only [step] at h ⊢
  split at h
  · rename_i hc
    cases hx : ev e x <;> rw [hx] at ho h <;> simp only [objOf] at ho <;> first | (simp at ho; done) | (simp at h; done) | skip
    · rename_i o' off
      simp at ho; subst ho
      simp only [] at h
      cases hso : σ[o']? with
      | none => rw [hso] at h; simp at h
      | some ob =>
        have hlt := (List.getElem?_eq_some_iff.1 hso).1
        rw [hso] at h
        cases ob <;> simp only [] at h <;> first | (simp at h; done) | skip
        rename_i cs
        split at h
        · rename_i hc2
          simp at h; obtain ⟨rfl, rfl, rfl⟩ := h
          refine ⟨by simp, fun p hp => by rw [List.getElem?_set]; simp [Ne.symm hp], rfl, fun τ hl hτ => ?_⟩
          refine ⟨τ.set o' (.cells (over cs off (ev e y).cellsOf)), by rw [if_pos hc]; simp only [hτ]; rw [if_pos hc2], by simp, ?_, fun p hp => by rw [List.getElem?_set]; simp [Ne.symm hp]⟩
          rw [List.getElem?_set, List.getElem?_set]; simp [hlt, hl]
        · exact absurd h (by simp)
    · rename_i o' ver n i off
      simp at ho; subst ho
      simp only [] at h
      cases hso : σ[o']? with
      | none => rw [hso] at h; simp at h
      | some ob =>
        have hlt := (List.getElem?_eq_some_iff.1 hso).1
        rw [hso] at h
        cases ob <;> simp only [] at h <;> first | (simp at h; done) | skip
        rename_i ver' sz' es
        split at h
        · rename_i hc2
          cases hei : es[i]? with
          | none => rw [hei] at h; simp at h
          | some el =>
            rw [hei] at h
            simp only [] at h
            split at h
            · rename_i hc3
              cases hz : frzCells (ev e y).cellsOf with
              | none => rw [hz] at h; simp at h
              | some zs =>
                rw [hz] at h
                simp at h; obtain ⟨rfl, rfl, rfl⟩ := h
                refine ⟨by simp, fun p hp => by rw [List.getElem?_set]; simp [Ne.symm hp], rfl, fun τ hl hτ => ?_⟩
                refine ⟨τ.set o' (.arr ver' sz' (es.set i (over el off zs))), by rw [if_pos hc]; simp only [hτ, hei]; rw [if_pos hc2, if_pos hc3], by simp, ?_, fun p hp => by rw [List.getElem?_set]; simp [Ne.symm hp]⟩
                rw [List.getElem?_set, List.getElem?_set]; simp [hlt, hl]
            · exact absurd h (by simp)
        · exact absurd h (by simp)
  · exact absurd h (by simp)
/-- What an operation that touches one object does hangs on that object alone, and changes it alone. -/
theorem one_foot {call : CallF} {base : Nat} {op : AOp} {e : Env} {σ σ' : St} {x : AV} {t : Bool} (h : stepC call base op e σ = some (x, σ', t)) {r : Bool} {a : Nat} (hf : footOf op e σ.length = some (r, a)) (ht : r = true → t = true) :
    σ'.length = σ.length ∧ (∀ p, p ≠ a → σ'[p]? = σ[p]?) ∧ (r = true → σ' = σ) ∧ ∀ τ : St, τ.length = σ.length → τ[a]? = σ[a]? → ∃ τ', stepC call base op e τ = some (x, τ', t) ∧ τ'.length = τ.length ∧ τ'[a]? = σ'[a]? ∧ ∀ p, p ≠ a → τ'[p]? = τ[p]? := by
  cases r with
  | true =>
    have hrd := foot_isRd hf
    have := ht rfl; subst this
    obtain ⟨a', ob, q1, q2, q3⟩ := rd_foot h hrd
    rw [hf] at q1; simp at q1; subst q1
    have hσ := isRd_same h hrd
    subst hσ
    exact ⟨rfl, fun _ _ => rfl, fun _ => rfl, fun τ hl hτ => ⟨τ, q3 τ (by rw [hτ, q2]), rfl, hτ, fun _ _ => rfl⟩⟩
  | false =>
    cases op <;> simp only [footOf] at hf <;> first | (simp at hf; done) | skip
    case call mode f args =>
      exfalso
      split at hf
      · split at hf <;> simp at hf
      · exact absurd hf (by simp)
    case store sz y z =>
      rw [Option.map_eq_some_iff] at hf
      obtain ⟨o, ho, hf⟩ := hf
      simp at hf; subst hf
      obtain ⟨s1, s2, s3, s4⟩ := store_one (base := base) h ho
      subst s3
      exact ⟨s1, s2, fun h => by simp at h, s4⟩
    case append pr sz bytes y z =>
      split at hf
      · rename_i hp
        rw [Option.map_eq_some_iff] at hf
        obtain ⟨o, ho, hf⟩ := hf
        simp at hf; subst hf
        obtain ⟨s1, s2, s3, s4⟩ := append_foot (base := base) h hp ho
        subst s3
        exact ⟨s1, s2, fun h => by simp at h, s4⟩
      · exact absurd hf (by simp)
    case slot d op =>
      obtain ⟨s1, s2, s3, s4⟩ := slot_foot (base := base) h hf
      subst s3
      exact ⟨s1, s2, fun h => by simp at h, s4⟩
theorem store_foot {call : CallF} {base : Nat} {op : AOp} {e : Env} {σ σ' : St} {x : AV} {t : Bool} (h : stepC call base op e σ = some (x, σ', t)) {b : Nat} (hf : footOf op e σ.length = some (false, b)) : ∀ a, a ≠ b → σ'[a]? = σ[a]? :=
  (one_foot h hf (fun h => by simp at h)).2.1
def chkPairX (B : List Nat) (aos : List AOper) (unord : List (Nat × Nat)) (i j : Nat) : Bool :=
  (B.getD j 0).testBit i || (match aos[i]?, aos[j]? with
    | some x, some y => (match x.dst with
        | some d => !(namesOf y).contains d && y.dst != some d
        | none => true) && (match y.dst with
        | some d => !(namesOf x).contains d
        | none => true) && (!(mayTouch x.op && mayTouch y.op) || (isRd x.op && isRd y.op) || unord.contains (i, j))
    | _, _ => true)
def chkPairsX (B : List Nat) (aos : List AOper) (unord : List (Nat × Nat)) : Nat → Bool
  | 0 => true
  | j + 1 => (List.range j).all (fun i => chkPairX B aos unord i j) && chkPairsX B aos unord j
def chkDrawX (ops : List Oper) (aos : List AOper) (unord : List (Nat × Nat)) : Bool := chkEdges ops ops.length && chkPairsX (befs ops []) aos unord ops.length
theorem chkPairsX_ok {B : List Nat} {aos : List AOper} {unord : List (Nat × Nat)} : ∀ {n : Nat}, chkPairsX B aos unord n = true → ∀ i j, i < j → j < n → chkPairX B aos unord i j = true
  | 0, _, i, j, _, h => absurd h (by omega)
  | n + 1, hc, i, j, hij, hj => by
    simp only [chkPairsX, Bool.and_eq_true] at hc
    by_cases hjn : j = n
    · subst hjn
      exact List.all_eq_true.1 hc.1 i (by simpa using hij)
    · exact chkPairsX_ok hc.2 i j hij (by omega)
theorem xOk_pair {T : List (Nat × Foot)} : ∀ {l : List (Nat × Nat)}, xOk T l = true → ∀ i j, (i, j) ∈ l → ∀ f g, (i, f) ∈ T → (j, g) ∈ T → freeOf f g = true
  | [], _, i, j, h => by simp at h
  | (a, c) :: l, hd, i, j, h => by
    simp only [xOk, Bool.and_eq_true] at hd
    simp at h
    rcases h with ⟨rfl, rfl⟩ | h
    · intro f g h1 h2
      exact List.all_eq_true.1 (List.all_eq_true.1 hd.1 f (mem_hits h1)) g (mem_hits h2)
    · exact xOk_pair hd.2 i j h
theorem allFeet_mem : ∀ {T : List (Nat × Foot)}, allFeet T = true → ∀ p ∈ T, p.2.isSome = true
  | [], _, p, h => by simp at h
  | (i, f) :: r, h, p, hp => by
    simp only [allFeet, Bool.and_eq_true] at h
    simp at hp
    rcases hp with rfl | hp
    · exact h.1
    · exact allFeet_mem h.2 p hp
end
end Go.Den
