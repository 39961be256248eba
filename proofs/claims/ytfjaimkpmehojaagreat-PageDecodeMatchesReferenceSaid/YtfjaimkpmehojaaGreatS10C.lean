/- Ch. 10, plain: dictionaries, runs, pages. -/
import Derived.Test.YtfjaimkpmehojaaGreatS10B
import Derived.Test.YtfjaimkpmehojaaGreatCmpV
namespace Go.Den
open Go
set_option linter.unusedSimpArgs false
set_option linter.unusedVariables false
set_option maxRecDepth 100000
set_option maxHeartbeats 1000000
def SInc (l : List Val) : Prop := l.Pairwise (fun a b => cmpV a b < 0)
theorem SInc.le {l : List Val} (h : SInc l) : l.Pairwise (fun a b => cmpV a b ≤ 0) := h.imp fun {a b} h => by omega
theorem inc_eq : ∀ {l m : List Val}, SInc l → SInc m → (∀ x, x ∈ l ↔ x ∈ m) → l = m
  | [], [], _, _, _ => rfl
  | [], y :: q, _, _, h => absurd ((h y).2 (List.mem_cons_self ..)) (by simp)
  | x :: r, [], _, _, h => absurd ((h x).1 (List.mem_cons_self ..)) (by simp)
  | x :: r, y :: q, h1, h2, h => by
    have e : x = y := by
      rcases List.mem_cons.1 ((h x).1 (List.mem_cons_self ..)) with e | hx
      · exact e
      · rcases List.mem_cons.1 ((h y).2 (List.mem_cons_self ..)) with e | hy
        · exact e.symm
        · have a := List.rel_of_pairwise_cons h2 hx
          have b := List.rel_of_pairwise_cons h1 hy
          have := cmpV_neg x y
          omega
    subst e
    congr 1
    refine inc_eq (List.Pairwise.of_cons h1) (List.Pairwise.of_cons h2) fun z => ⟨fun hz => ?_, fun hz => ?_⟩
    · rcases List.mem_cons.1 ((h z).1 (List.mem_cons_of_mem _ hz)) with e | hz'
      · subst e
        have a := List.rel_of_pairwise_cons h1 hz
        have := cmpV_self z
        omega
      · exact hz'
    · rcases List.mem_cons.1 ((h z).2 (List.mem_cons_of_mem _ hz)) with e | hz'
      · subst e
        have a := List.rel_of_pairwise_cons h2 hz
        have := cmpV_self z
        omega
      · exact hz'
def cmpct (p : Val) : List Val → List Val
  | [] => []
  | y :: r => if y = p then cmpct p r else y :: cmpct y r
def dedup : List Val → List Val
  | [] => []
  | x :: r => x :: cmpct x r
theorem cmpct_mem (p : Val) : ∀ (l : List Val) (x : Val), x ∈ p :: cmpct p l ↔ x ∈ p :: l
  | [], x => by simp [cmpct]
  | y :: r, x => by
    unfold cmpct
    split
    · rename_i e
      subst e
      rw [cmpct_mem y r x]
      simp
    · rw [List.mem_cons, cmpct_mem y r x, List.mem_cons (l := y :: r)]
theorem dedup_mem (l : List Val) (x : Val) : x ∈ dedup l ↔ x ∈ l := by
  cases l with
  | nil => rfl
  | cons y r => exact cmpct_mem y r x
theorem cmpct_inc : ∀ (p : Val) (l : List Val), (p :: l).Pairwise (fun a b => cmpV a b ≤ 0) → SInc (p :: cmpct p l)
  | p, [], _ => by simp [cmpct, SInc]
  | p, y :: r, h => by
    unfold cmpct
    split
    · rename_i e
      subst e
      exact cmpct_inc y r (List.Pairwise.of_cons h)
    · rename_i e
      have h2 := cmpct_inc y r (List.Pairwise.of_cons h)
      have hpy : cmpV p y < 0 := by
        have := List.rel_of_pairwise_cons h (List.mem_cons_self ..)
        rcases Int.lt_or_eq_of_le this with h' | h'
        · exact h'
        · exact absurd (cmpV_zero h').symm e
      refine List.Pairwise.cons (fun z hz => ?_) h2
      rcases List.mem_cons.1 hz with rfl | hz
      · exact hpy
      · exact cmpV_lt_trans hpy (List.rel_of_pairwise_cons h2 hz)
theorem dedup_inc {l : List Val} (h : l.Pairwise (fun a b => cmpV a b ≤ 0)) : SInc (dedup l) := by
  cases l with
  | nil => simp [dedup, SInc]
  | cons y r => exact cmpct_inc y r h
theorem cmpct_len (p : Val) : ∀ l : List Val, (cmpct p l).length ≤ l.length
  | [] => by simp [cmpct]
  | y :: r => by
    unfold cmpct
    split
    · have := cmpct_len p r; simp only [List.length_cons]; omega
    · have := cmpct_len y r; simp only [List.length_cons]; omega
theorem dedup_len (l : List Val) : (dedup l).length ≤ l.length := by
  cases l with
  | nil => exact Nat.le_refl _
  | cons y r => have := cmpct_len y r; simp only [dedup, List.length_cons]; omega
def distV (l : List Val) : List Val := dedup (sortV (l.filter fun v => !v.null))
theorem distV_inc (l : List Val) : SInc (distV l) := dedup_inc (sortV_sorted _)
theorem distV_mem (l : List Val) (x : Val) : x ∈ distV l ↔ x ∈ l ∧ x.null = false := by
  unfold distV
  rw [dedup_mem, (sortV_perm _).mem_iff, List.mem_filter]
  simp
theorem distV_len (l : List Val) : (distV l).length ≤ l.length := by
  have h1 := dedup_len (sortV (l.filter fun v => !v.null))
  rw [sortV_len] at h1
  have h2 := List.length_filter_le (fun v : Val => !v.null) l
  unfold distV; omega
def rankV (l : List Val) (v : Val) : Nat := (l.takeWhile fun x => decide (cmpV x v < 0)).length
theorem rankV_le (l : List Val) (v : Val) : rankV l v ≤ l.length := (List.takeWhile_sublist _).length_le
theorem rankV_cons (x : Val) (r : List Val) (v : Val) : rankV (x :: r) v = if cmpV x v < 0 then rankV r v + 1 else 0 := by
  unfold rankV
  rw [List.takeWhile_cons]
  by_cases h : cmpV x v < 0 <;> simp [h]
theorem rank_iff : ∀ {l : List Val} (_ : l.Pairwise (fun a b => cmpV a b ≤ 0)) (v : Val) (i : Nat) (x : Val), l[i]? = some x → (cmpV x v < 0 ↔ i < rankV l v)
  | [], _, v, i, x, h => by simp at h
  | y :: r, hl, v, 0, x, h => by
    simp at h; subst h
    rw [rankV_cons]
    by_cases h : cmpV y v < 0 <;> simp [h]
  | y :: r, hl, v, i + 1, x, h => by
    have h' : r[i]? = some x := by simpa using h
    have ih := rank_iff (List.Pairwise.of_cons hl) v i x h'
    rw [rankV_cons]
    by_cases hy : cmpV y v < 0
    · rw [if_pos hy, ih]; omega
    · rw [if_neg hy]
      have := List.rel_of_pairwise_cons hl (List.mem_of_getElem? h')
      constructor
      · intro hx
        exact absurd (cmpV_le_lt this hx) hy
      · intro h0; omega
theorem rank_at : ∀ {l : List Val} (_ : SInc l) (v : Val), v ∈ l → l[rankV l v]? = some v
  | [], _, v, h => by simp at h
  | y :: r, hl, v, h => by
    rw [rankV_cons]
    rcases List.mem_cons.1 h with e | hv
    · subst e
      have := cmpV_self v
      rw [if_neg (by omega)]; rfl
    · rw [if_pos (List.rel_of_pairwise_cons hl hv), List.getElem?_cons_succ]
      exact rank_at (List.Pairwise.of_cons hl) v hv
theorem inc_put : ∀ {l : List Val} (_ : SInc l) (v : Val), v ∉ l → SInc (l.take (rankV l v) ++ v :: l.drop (rankV l v))
  | [], _, v, _ => by simp [SInc, rankV]
  | y :: r, hl, v, hv => by
    have hne : v ≠ y := fun e => hv (by simp [e])
    rw [rankV_cons]
    by_cases hy : cmpV y v < 0
    · rw [if_pos hy]
      have ih := inc_put (List.Pairwise.of_cons hl) v (fun h => hv (List.mem_cons_of_mem _ h))
      show SInc (y :: (r.take (rankV r v) ++ v :: r.drop (rankV r v)))
      refine List.Pairwise.cons (fun z hz => ?_) ih
      rcases List.mem_append.1 hz with hz | hz
      · exact List.rel_of_pairwise_cons hl (List.mem_of_mem_take hz)
      · rcases List.mem_cons.1 hz with rfl | hz
        · exact hy
        · exact List.rel_of_pairwise_cons hl (List.mem_of_mem_drop hz)
    · rw [if_neg hy]
      have hvy : cmpV v y < 0 := by
        have := cmpV_neg v y
        by_cases h : cmpV v y < 0
        · exact h
        · exact absurd (cmpV_zero (by omega)) hne
      show SInc (v :: y :: r)
      refine List.Pairwise.cons (fun z hz => ?_) hl
      rcases List.mem_cons.1 hz with rfl | hz
      · exact hvy
      · exact cmpV_lt_trans hvy (List.rel_of_pairwise_cons hl hz)
theorem distV_add (p : List Val) (v : Val) : distV (p ++ [v]) = if v.null = true ∨ (distV p)[rankV (distV p) v]? = some v then distV p else (distV p).take (rankV (distV p) v) ++ v :: (distV p).drop (rankV (distV p) v) := by
  split
  · rename_i h
    refine inc_eq (distV_inc _) (distV_inc _) fun x => ?_
    rw [distV_mem, distV_mem, List.mem_append, List.mem_singleton]
    constructor
    · rintro ⟨hx | rfl, hn⟩
      · exact ⟨hx, hn⟩
      · rcases h with h | h
        · rw [h] at hn; exact absurd hn (by simp)
        · exact (distV_mem p x).1 (List.mem_of_getElem? h)
    · exact fun h => ⟨.inl h.1, h.2⟩
  · rename_i h
    have hn : v.null = false := by
      cases hv : v.null with
      | false => rfl
      | true => exact absurd (.inl hv) h
    have hm : v ∉ distV p := fun hv => h (.inr (rank_at (distV_inc p) v hv))
    refine inc_eq (distV_inc _) (inc_put (distV_inc p) v hm) fun x => ?_
    have e : x ∈ (distV p).take (rankV (distV p) v) ++ v :: (distV p).drop (rankV (distV p) v) ↔ x ∈ distV p ∨ x = v := by
      conv => rhs; rw [← List.take_append_drop (rankV (distV p) v) (distV p)]
      simp only [List.mem_append, List.mem_cons]
      constructor
      · rintro (h | h | h)
        · exact .inl (.inl h)
        · exact .inr h
        · exact .inl (.inr h)
      · rintro ((h | h) | h)
        · exact .inl h
        · exact .inr (.inr h)
        · exact .inr (.inl h)
    rw [e, distV_mem, distV_mem, List.mem_append, List.mem_singleton]
    constructor
    · rintro ⟨hx | rfl, hn'⟩
      · exact .inl ⟨hx, hn'⟩
      · exact .inr rfl
    · rintro (h | rfl)
      · exact ⟨.inl h.1, h.2⟩
      · exact ⟨.inr rfl, hn⟩
def idxD (d : List Val) (v : Val) : Nat := bif v.null then 0 else rankV d v + 1
def dictP (l : List Val) (t : Int) : List UInt8 := leb (distV l).length ++ ((distV l).flatMap (bareB · t) ++ l.flatMap fun v => leb (idxD (distV l) v))
def runsA (v : Val) (n : Nat) : List Val → List (Nat × Val)
  | [] => [(n, v)]
  | y :: r => if y = v then runsA v (n + 1) r else (n, v) :: runsA y 1 r
def runs : List Val → List (Nat × Val)
  | [] => []
  | v :: r => runsA v 1 r
def runB (t : Int) (p : Nat × Val) : List UInt8 := leb p.1 ++ encV p.2 t
def runsP (l : List Val) (t : Int) : List UInt8 := (runs l).flatMap (runB t)
def conP (l : List Val) (t k : Int) : List UInt8 := bif decide (k = 1) then plainP l t else bif decide (k = 2) then dictP l t else bif decide (k = 3) then deltaP l else runsP l t
structure Pg where
  kind : Int
  rows : Int
  b : List UInt8
def Pg.cells (p : Pg) : List AV := [.int .i64 p.kind, .int .i64 p.rows, .sl (p.b.map bcell)]
def noP : Pg := ⟨0, 0, []⟩
def kindOk (k : Int) : Bool := decide (1 ≤ k) && decide (k ≤ 4)
def chkP (k t : Int) : Int := bif !kindOk k then 1 else bif !(typeOk t) || (decide (k = 3) && decide (t = 4)) then 7 else 0
def okL (l : List Val) (t : Int) : Bool := l.all fun v => okV v t
def encP (l : List Val) (t k : Int) : Pg × Int := bif !decide (chkP k t = 0) then (noP, chkP k t) else bif decide (1024 < l.length) then (noP, 2) else bif !okL l t then (noP, 7) else (⟨k, l.length, conP l t k⟩, 0)
def better (l : List Val) (t k : Int) (p : Pg) : Pg := bif decide ((encP l t k).2 = 0) && decide ((encP l t k).1.b.length < p.b.length) then (encP l t k).1 else p
def bestP (l : List Val) (t : Int) : Pg × Int := bif !decide ((encP l t 1).2 = 0) then (noP, (encP l t 1).2) else (better l t 4 (better l t 3 (better l t 2 (encP l t 1).1)), 0)
def bitB (b : List UInt8) (i : Nat) : Bool := decide ((b[i / 8]?.getD 0).toNat / 2 ^ (i % 8) % 2 = 1)
def getP (b : List UInt8) (t : Int) : Nat → Nat → Int → Option (List Val)
  | 0, _, _ => some []
  | n + 1, i, a => bif bitB b i then (getP b t n (i + 1) a).map (nullV :: ·) else
    bif decide ((readB b a t).2.2 = 0) then (getP b t n (i + 1) (readB b a t).2.1).map ((readB b a t).1 :: ·) else none
def valsP (b : List UInt8) (rows : Nat) (t : Int) : Option (List Val) := bif decide (b.length < (rows + 7) / 8) then none else getP b t rows 0 ((rows + 7) / 8 : Nat)
def sumD : Int → List Val → List Val
  | _, [] => []
  | last, v :: r => bif v.null then v :: sumD last r else ⟨false, IntKind.wrap .i64 (last + v.n), v.s⟩ :: sumD (IntKind.wrap .i64 (last + v.n)) r
def getV (b : List UInt8) (t : Int) : Nat → Int → Option (List Val × Int)
  | 0, a => some ([], a)
  | n + 1, a => bif decide ((readB b a t).2.2 = 0) then (getV b t n (readB b a t).2.1).map fun q => ((readB b a t).1 :: q.1, q.2) else none
def getX (b : List UInt8) (d : List Val) : Nat → Int → Option (List Val)
  | 0, _ => some []
  | n + 1, a => bif decide ((rU b a).2.2 = 0) then match d[(rU b a).1]? with
      | some v => (getX b d n (rU b a).2.1).map (v :: ·)
      | none => none
    else none
def valsD (b : List UInt8) (rows : Nat) (t : Int) : Option (List Val) := bif !decide ((rU b 0).2.2 = 0) || decide (rows < (rU b 0).1) then none else
  (getV b t (rU b 0).1 (rU b 0).2.1).bind fun q => getX b (nullV :: q.1) rows q.2
def getR (b : List UInt8) (t : Int) (rows : Nat) : Nat → List Val → Int → Option (List Val)
  | 0, out, a => if a < b.length then none else some out
  | f + 1, out, a => bif decide (a < b.length) then
      bif !decide ((rU b a).2.2 = 0) || decide (rows - out.length < (rU b a).1) then none else
      bif decide ((decV b (rU b a).2.1 t).2.2 = 0) then getR b t rows f (out ++ List.replicate (rU b a).1 (decV b (rU b a).2.1 t).1) (decV b (rU b a).2.1 t).2.1 else none
    else some out
def parP (p : Pg) (t : Int) : Option (List Val) := bif decide (p.kind = 1) then valsP p.b p.rows.toNat t else bif decide (p.kind = 2) then valsD p.b p.rows.toNat t else
  bif decide (p.kind = 3) then (valsP p.b p.rows.toNat t).map (sumD 0) else getR p.b t p.rows.toNat p.b.length [] 0
def samP (p q : Pg) : Bool := decide (p.kind = q.kind) && (decide (p.rows = q.rows) && decide (p.b = q.b))
def decP (p : Pg) (t : Int) : List Val × Int := bif !decide (chkP p.kind t = 0) then ([], chkP p.kind t) else bif decide (p.rows < 0) || decide (1024 < p.rows) then ([], 100) else
  match parP p t with
  | none => ([], 100)
  | some l => bif decide ((encP l t p.kind).2 = 0) && samP (encP l t p.kind).1 p then (l, 0) else ([], 100)
end Go.Den
