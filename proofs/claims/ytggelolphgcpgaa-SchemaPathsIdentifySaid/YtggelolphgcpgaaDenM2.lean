import Derived.Test.YtggelolphgcpgaaDenM
import Derived.MapKept
/-! Maps. -/
namespace Go.Den
open Go

section
variable {P : Program} {tab : Nat → Nat}
/-- A map's type: how its keys are compared. -/
def mapB (P : Program) (t : TypeId) (ag : Bool) (ks : List CK) : Bool := match P.underlying t with
  | some (.map k _) => plainK P 50 k == some ks && szB P k ks.length && (match P.underlying k with
    | some (.struct _) => ag
    | some (.array _ _) => false
    | _ => !ag)
  | _ => false
/-- What a lookup finds where nothing is. -/
def mapZ (P : Program) (t : TypeId) (z : AV) : Bool := match P.underlying t with
  | some (.map _ e) => match P.info? e with
    | some i => match i.zero with
      | some v => constB v z
      | none => false
    | none => false
  | _ => false
def keyCells (ag : Bool) : AV → List AV
  | .agg xs => if ag then xs else [.agg xs]
  | x => [x]
theorem keyEq_cells {ag : Bool} {ks : List CK} {x y : AV} {r : Bool} (h : keyEq ag ks x y = some r) : (ag = true → x.isAgg = true ∧ y.isAgg = true) ∧ (ag = false → x.isAgg = false ∨ y.isAgg = false) ∧ eqCells ks (if ag then x.cellsOf else [x]) (if ag then y.cellsOf else [y]) = some r := by
  unfold keyEq at h
  split at h
  · rename_i xs ys
    split at h
    · rename_i ha; subst ha; exact ⟨fun _ => ⟨rfl, rfl⟩, fun h => by simp at h, by simpa [AV.cellsOf] using h⟩
    · exact absurd h (by simp)
  · rename_i hn
    cases ag with
    | true => simp at h
    | false =>
      refine ⟨fun h => by simp at h, fun _ => ?_, by simpa using h⟩
      cases x with
      | agg xs => cases y with
        | agg ys => exact (hn xs ys rfl rfl).elim
        | _ => exact .inr rfl
      | _ => exact .inl rfl
theorem eqB_noref {k : CK} {x y : AV} {r : Bool} (h : eqB k x y = some r) : x.noref = true ∧ y.noref = true ∧ (r = true → x = y) := by
  cases k <;> cases x <;> (try (simp [eqB] at h; done)) <;> cases y <;> (try (simp [eqB] at h; done))
  · simp only [eqB] at h
    split at h
    · rename_i e; subst e; simp at h; subst h; exact ⟨rfl, rfl, fun e => by simp at e; rw [e]⟩
    · exact absurd h (by simp)
  · simp [eqB] at h; subst h; exact ⟨rfl, rfl, fun e => by simp at e; rw [e]⟩
  · simp [eqB] at h; subst h; exact ⟨rfl, rfl, fun e => by simp at e; rw [e]⟩
theorem eqCells_noref : ∀ {ks : List CK} {xs ys : List AV} {r : Bool}, eqCells ks xs ys = some r → norefs xs = true ∧ norefs ys = true ∧ (r = true → xs = ys)
  | [], [], [], _, _ => ⟨rfl, rfl, fun _ => rfl⟩
  | [], _ :: _, _, _, h => by simp [eqCells] at h
  | [], [], _ :: _, _, h => by simp [eqCells] at h
  | k :: ks, [], _, r, h => by simp [eqCells] at h
  | k :: ks, _ :: _, [], r, h => by simp [eqCells] at h
  | k :: ks, x :: xs, y :: ys, r, h => by
    simp only [eqCells] at h
    split at h
    · rename_i a b h1 h2
      simp at h; subst h
      obtain ⟨q1, q2, q3⟩ := eqCells_noref h2
      obtain ⟨p1, p2, p3⟩ := eqB_noref h1
      refine ⟨by simp only [norefs, AV.noref.norefs, Bool.and_eq_true]; exact ⟨p1, q1⟩, by simp only [norefs, AV.noref.norefs, Bool.and_eq_true]; exact ⟨p2, q2⟩, fun e => ?_⟩
      simp at e
      rw [p3 e.1, q3 e.2]
    · exact absurd h (by simp)
theorem keyEq_noref {ag : Bool} {ks : List CK} {x y : AV} {r : Bool} (h : keyEq ag ks x y = some r) : x.noref = true ∧ y.noref = true ∧ (r = true → x = y) := by
  obtain ⟨h1, h2, h3⟩ := keyEq_cells h
  obtain ⟨q1, q2, q3⟩ := eqCells_noref h3
  cases ag with
  | true =>
    obtain ⟨a, b⟩ := h1 rfl
    cases x <;> simp [AV.isAgg] at a
    cases y <;> simp [AV.isAgg] at b
    simp [AV.cellsOf] at q1 q2 q3
    exact ⟨q1, q2, fun e => by rw [q3 e]⟩
  | false =>
    simp [norefs, AV.noref.norefs] at q1 q2 q3
    exact ⟨q1, q2, q3⟩
/-- A key as it lies in the machine's map. -/
theorem key_val {w : World} {S : Nat → Prop} {ag : Bool} {ks : List CK} {k : TypeId} (ha : (match P.underlying k with | some (.struct _) => ag | some (.array _ _) => false | _ => !ag) = true) {x y : AV} {u : Value} {r : Bool} (h : keyEq ag ks x y = some r)
    (hx : RF tab w S x u) : ∃ us, Reads tab w S (if ag then x.cellsOf else [x]) us ∧ u = valOf P k us := by
  obtain ⟨h1, h2, h3⟩ := keyEq_cells h
  cases ag with
  | true =>
    obtain ⟨a, _⟩ := h1 rfl
    cases x <;> simp [AV.isAgg] at a
    cases hx with
    | agg cs vs hl hs hr =>
      refine ⟨vs, ⟨hl, hr⟩, ?_⟩
      simp only [valOf]
      split at ha
      · rename_i hu; rw [hu]
      · exact absurd ha (by simp)
      · exact absurd ha (by simp)
  | false =>
    refine ⟨[u], ⟨rfl, fun j x' u' hx' hu' => ?_⟩, ?_⟩
    · cases j with
      | zero => simp at hx' hu'; subst hx'; subst hu'; exact hx
      | succ j => simp at hx'
    · simp only [valOf]
      cases hu : P.underlying k with
      | none => rfl
      | some d => cases d <;> first | rfl | (rw [hu] at ha; exact absurd ha (by simp))
theorem key_val2 {w : World} {S : Nat → Prop} {ag : Bool} {ks : List CK} {k : TypeId} (ha : (match P.underlying k with | some (.struct _) => ag | some (.array _ _) => false | _ => !ag) = true) {x y : AV} {u : Value} {r : Bool} (h : keyEq ag ks x y = some r)
    (hy : RF tab w S y u) : ∃ us, Reads tab w S (if ag then y.cellsOf else [y]) us ∧ u = valOf P k us := by
  obtain ⟨h1, h2, h3⟩ := keyEq_cells h
  cases ag with
  | true =>
    obtain ⟨_, a⟩ := h1 rfl
    cases y <;> simp [AV.isAgg] at a
    cases hy with
    | agg cs vs hl hs hr =>
      refine ⟨vs, ⟨hl, hr⟩, ?_⟩
      simp only [valOf]
      split at ha
      · rename_i hu; rw [hu]
      · exact absurd ha (by simp)
      · exact absurd ha (by simp)
  | false =>
    refine ⟨[u], ⟨rfl, fun j x' u' hx' hu' => ?_⟩, ?_⟩
    · cases j with
      | zero => simp at hx' hu'; subst hx'; subst hu'; exact hy
      | succ j => simp at hx'
    · simp only [valOf]
      cases hu : P.underlying k with
      | none => rfl
      | some d => cases d <;> first | rfl | (rw [hu] at ha; exact absurd ha (by simp))
theorem key_equal {w : World} {S : Nat → Prop} {ag : Bool} {ks : List CK} {k : TypeId} (hp : plainK P 50 k = some ks) (ha : (match P.underlying k with | some (.struct _) => ag | some (.array _ _) => false | _ => !ag) = true) {x y : AV} {u v : Value} {r : Bool} (h : keyEq ag ks x y = some r)
    (hx : RF tab w S x u) (hy : RF tab w S y v) (w' : World) : (Op.equal k u v).run P w' = .ok r w' := by
  obtain ⟨us, ru, rfl⟩ := key_val ha h hx
  obtain ⟨vs, rv, rfl⟩ := key_val2 ha h hy
  exact eq_plain (P := P) w' w S 9950 50 k ks hp _ _ us vs r ru rv (keyEq_cells h).2.2
/-- A comparison by now says what '==' says. -/
theorem key_now {w : World} {S : Nat → Prop} {ag : Bool} {ks : List CK} {k : TypeId} {d : TypeDesc} (hd : P.underlying k = some d) (hp : plainK P 50 k = some ks) (ha : (match P.underlying k with | some (.struct _) => ag | some (.array _ _) => false | _ => !ag) = true) {x y : AV} {u v : Value} {r : Bool}
    (h : keyEq ag ks x y = some r) (hx : RF tab w S x u) (hy : RF tab w S y v) : Instr.sameNow d u v = some r ∨ ∀ u v, Instr.sameNow d u v = none := by
  obtain ⟨us, ru, rfl⟩ := key_val ha h hx
  obtain ⟨vs, rv, rfl⟩ := key_val2 ha h hy
  have h3 := (keyEq_cells h).2.2
  generalize 50 = m at hp
  cases m with
  | zero => simp [plainK] at hp
  | succ m =>
  simp only [plainK, hd] at hp
  have one : ∀ c, ks = [c] → ∃ a b : Value, us = [a] ∧ vs = [b] ∧ EqOpen c a b r := by
    rintro c rfl
    obtain ⟨l1, l2⟩ := eqCells_len h3
    generalize hX : (if ag = true then x.cellsOf else [x]) = X at *
    generalize hY : (if ag = true then y.cellsOf else [y]) = Y at *
    obtain ⟨x, rfl⟩ := List.length_eq_one_iff.1 l1
    obtain ⟨y, rfl⟩ := List.length_eq_one_iff.1 l2
    obtain ⟨u, rfl⟩ := List.length_eq_one_iff.1 (ru.1.trans rfl)
    obtain ⟨v, rfl⟩ := List.length_eq_one_iff.1 (rv.1.trans rfl)
    refine ⟨u, v, rfl, rfl, ?_⟩
    simp only [eqCells] at h3
    split at h3
    · rename_i a b h1 h2
      simp at h2; subst h2; simp at h3; subst h3
      exact eqB_open (ru.2 0 x u rfl rfl) (rv.2 0 y v rfl rfl) h1
    · exact absurd h3 (by simp)
  cases d <;> simp only [] at hp <;> first | (exfalso; simp at hp; done) | skip
  case bool =>
    simp at hp
    obtain ⟨a, b, rfl, rfl, p, q, rfl, rfl, rfl⟩ := one .b hp.symm
    exact .inl (by simp [valOf, hd, Instr.sameNow])
  case int i =>
    simp at hp
    obtain ⟨a, b, rfl, rfl, i', p, q, rfl, rfl, rfl⟩ := one .i hp.symm
    exact .inl (by simp [valOf, hd, Instr.sameNow, int_beq])
  case string =>
    simp at hp
    obtain ⟨a, b, rfl, rfl, p, q, rfl, rfl, rfl⟩ := one .s hp.symm
    refine .inl ?_
    simp [valOf, hd, Instr.sameNow]
    obtain ⟨p⟩ := p
    obtain ⟨q⟩ := q
    show ((p == q) : Bool) = _
    by_cases e : p = q
    · subst e; simp
    · have : (ByteArray.mk p = ByteArray.mk q) = False := by simp [e]
      simp [e]
  case array m e => rw [hd] at ha; exact absurd ha (by simp)
  case struct fs => exact .inr fun u v => by cases u <;> cases v <;> rfl
/-- Entries as they lie in the machine. -/
def MapsTo (tab : Nat → Nat) (w : World) (S : Nat → Prop) (es : List (AV × AV)) (ms : List MapEntry) : Prop := ms.length = es.length ∧ ∀ (j : Nat) (p : AV × AV) (m : MapEntry), es[j]? = some p → ms[j]? = some m → RF tab w S p.1 m.key
theorem MapsTo.tail {w : World} {S : Nat → Prop} {p : AV × AV} {es : List (AV × AV)} {m : MapEntry} {ms : List MapEntry} (h : MapsTo tab w S (p :: es) (m :: ms)) : RF tab w S p.1 m.key ∧ MapsTo tab w S es ms :=
  ⟨h.2 0 p m rfl rfl, by have := h.1; simpa using this, fun j p m hp hm => h.2 (j + 1) p m (by simpa using hp) (by simpa using hm)⟩
/-- Where a key stands. -/
def midx (ag : Bool) (ks : List CK) (k : AV) : List (AV × AV) → Option (Option Nat)
  | [] => some none
  | (a, _) :: r => match keyEq ag ks k a with
    | some true => some (some 0)
    | some false => (midx ag ks k r).map fun o => o.map (· + 1)
    | none => none
theorem mfind_idx {ag : Bool} {ks : List CK} {k : AV} : ∀ {es : List (AV × AV)} {o : Option AV}, mfind ag ks k es = some o → ∃ i, midx ag ks k es = some i ∧ ((i = none ∧ o = none) ∨ ∃ j p, i = some j ∧ es[j]? = some p ∧ o = some p.2 ∧ p.1 = k)
  | [], o, h => by simp [mfind] at h; subst h; exact ⟨none, rfl, .inl ⟨rfl, rfl⟩⟩
  | (a, v) :: r, o, h => by
    simp only [mfind] at h
    split at h
    · rename_i he
      simp at h; subst h
      exact ⟨some 0, by simp [midx, he], .inr ⟨0, (a, v), rfl, rfl, rfl, ((keyEq_noref he).2.2 rfl).symm⟩⟩
    · rename_i he
      obtain ⟨i, h1, h2⟩ := mfind_idx h
      refine ⟨i.map (· + 1), by simp [midx, he, h1], ?_⟩
      rcases h2 with ⟨rfl, rfl⟩ | ⟨j, p, rfl, h3, h4, h5⟩
      · exact .inl ⟨rfl, rfl⟩
      · exact .inr ⟨j + 1, p, rfl, by simpa using h3, h4, h5⟩
    · exact absurd h (by simp)
theorem mput_idx {ag : Bool} {ks : List CK} {k v : AV} : ∀ {es es' : List (AV × AV)}, mput ag ks k v es = some es' → ∃ i, midx ag ks k es = some i ∧ ((i = none ∧ es' = es ++ [(k, v)]) ∨ ∃ j p, i = some j ∧ es[j]? = some p ∧ p.1 = k ∧ es' = es.set j (k, v))
  | [], es', h => by simp [mput] at h; subst h; exact ⟨none, rfl, .inl ⟨rfl, rfl⟩⟩
  | (a, u) :: r, es', h => by
    simp only [mput] at h
    split at h
    · rename_i he
      simp at h; subst h
      have := ((keyEq_noref he).2.2 rfl).symm
      exact ⟨some 0, by simp [midx, he], .inr ⟨0, (a, u), rfl, rfl, this, by simp [this]⟩⟩
    · rename_i he
      obtain ⟨q, hq, rfl⟩ := Option.map_eq_some_iff.1 h
      obtain ⟨i, h1, h2⟩ := mput_idx hq
      refine ⟨i.map (· + 1), by simp [midx, he, h1], ?_⟩
      rcases h2 with ⟨rfl, rfl⟩ | ⟨j, p, rfl, h3, h4, rfl⟩
      · exact .inl ⟨rfl, rfl⟩
      · exact .inr ⟨j + 1, p, rfl, by simpa using h3, h4, rfl⟩
    · exact absurd h (by simp)
/-- The machine finds what stands there. -/
theorem find_asking {w : World} {S : Nat → Prop} {ag : Bool} {ks : List CK} {k : TypeId} (hp : plainK P 50 k = some ks) (ha : (match P.underlying k with | some (.struct _) => ag | some (.array _ _) => false | _ => !ag) = true) {x : AV} {u : Value} (hx : RF tab w S x u) (w' : World) :
    ∀ {es : List (AV × AV)} {ms : List MapEntry} {i : Option Nat} (n : Nat), MapsTo tab w S es ms → midx ag ks x es = some i → (Instr.findAsking k u ms n).run P w' = .ok (i.bind fun j => (ms[j]?).map fun m => (j + n, m.val)) w'
  | [], [], i, n, _, h => by simp [midx] at h; subst h; simp [Instr.findAsking]
  | [], _ :: _, i, n, hm, h => by have := hm.1; simp at this
  | _ :: _, [], i, n, hm, h => by have := hm.1; simp at this
  | (a, v) :: r, m :: ms, i, n, hm, h => by
    obtain ⟨h1, h2⟩ := hm.tail
    simp only [midx] at h
    split at h
    · rename_i he
      simp at h; subst h
      simp only [Instr.findAsking, Sem.run_bind, key_equal hp ha he hx h1 w', Result.andThen_ok]
      simp
    · rename_i he
      obtain ⟨o, ho, rfl⟩ := Option.map_eq_some_iff.1 h
      simp only [Instr.findAsking, Sem.run_bind, key_equal hp ha he hx h1 w', Result.andThen_ok]
      have := find_asking hp ha hx w' (n + 1) h2 ho
      simp
      rw [this]
      cases o with
      | none => rfl
      | some j => simp; congr 1; funext m; congr 1; omega
    · exact absurd h (by simp)
theorem find_now {w : World} {S : Nat → Prop} {ag : Bool} {ks : List CK} {k : TypeId} {d : TypeDesc} (hd : P.underlying k = some d) (hp : plainK P 50 k = some ks) (ha : (match P.underlying k with | some (.struct _) => ag | some (.array _ _) => false | _ => !ag) = true) {x : AV} {u : Value} (hx : RF tab w S x u) :
    ∀ {es : List (AV × AV)} {ms : List MapEntry} {i : Option Nat} (n : Nat), MapsTo tab w S es ms → midx ag ks x es = some i → Instr.findNow d u ms n = none ∨ Instr.findNow d u ms n = some (i.bind fun j => (ms[j]?).map fun m => (j + n, m.val))
  | [], [], i, n, _, h => by simp [midx] at h; subst h; exact .inr rfl
  | [], _ :: _, i, n, hm, h => by have := hm.1; simp at this
  | _ :: _, [], i, n, hm, h => by have := hm.1; simp at this
  | (a, v) :: r, m :: ms, i, n, hm, h => by
    obtain ⟨h1, h2⟩ := hm.tail
    simp only [midx] at h
    split at h
    · rename_i he
      simp at h; subst h
      rcases key_now hd hp ha he hx h1 with q | q
      · exact .inr (by simp [Instr.findNow, q])
      · exact .inl (by simp [Instr.findNow, q])
    · rename_i he
      obtain ⟨o, ho, rfl⟩ := Option.map_eq_some_iff.1 h
      rcases key_now hd hp ha he hx h1 with q | q
      · simp only [Instr.findNow, q]
        rcases find_now hd hp ha hx (n + 1) h2 ho with e | e
        · exact .inl e
        · refine .inr (e.trans ?_)
          cases o with
          | none => rfl
          | some j => simp; congr 1; funext m; congr 1; omega
      · exact .inl (by simp [Instr.findNow, q])
    · exact absurd h (by simp)
theorem find_key {w : World} {S : Nat → Prop} {ag : Bool} {ks : List CK} {k : TypeId} {d : TypeDesc} (hd : P.underlying k = some d) (hp : plainK P 50 k = some ks) (ha : (match P.underlying k with | some (.struct _) => ag | some (.array _ _) => false | _ => !ag) = true) {x : AV} {u : Value} (hx : RF tab w S x u) (w' : World)
    {es : List (AV × AV)} {ms : List MapEntry} {i : Option Nat} (hm : MapsTo tab w S es ms) (h : midx ag ks x es = some i) : (Instr.findKey k u ms).run P w' = .ok (i.bind fun j => (ms[j]?).map fun m => (j, m.val)) w' := by
  simp only [Instr.findKey, Sem.run_bind, run_underlying hd, Result.andThen_ok]
  rcases find_now hd hp ha hx 0 hm h with e | e
  · rw [e]; simpa using find_asking hp ha hx w' 0 hm h
  · rw [e]; simp
/-- A key is looked at. -/
theorem check_plain (w w' : World) (S : Nat → Prop) (em : Bool) (d : Nat) : ∀ (n : Nat) (t : TypeId) (ks : List CK), plainK P n t = some ks → ∀ (xs : List AV) (us : List Value), Reads tab w' S xs us → xs.length = ks.length →
    (Instr.checkKey em (d + n) t (valOf P t us)).run P w = .ok () w := by
  intro n
  induction n with
  | zero => intro t ks h; simp [plainK] at h
  | succ n ih =>
    intro t ks h xs us hx hl
    rw [← Nat.add_assoc]
    unfold Instr.checkKey
    simp only [plainK] at h
    have one : ks.length = 1 → ∃ u, us = [u] := fun e => List.length_eq_one_iff.1 (hx.1.trans (hl.trans e))
    cases hu : P.underlying t with
    | none => simp [hu] at h
    | some D =>
      cases D <;> simp only [hu] at h <;> first | (exfalso; simp at h; done) | skip
      case bool =>
        simp at h; subst h
        obtain ⟨u, rfl⟩ := one rfl
        simp only [Sem.run_bind, run_underlying hu, Result.andThen_ok, valOf, hu]
        rfl
      case int k =>
        simp at h; subst h
        obtain ⟨u, rfl⟩ := one rfl
        simp only [Sem.run_bind, run_underlying hu, Result.andThen_ok, valOf, hu]
        rfl
      case string =>
        simp at h; subst h
        obtain ⟨u, rfl⟩ := one rfl
        simp only [Sem.run_bind, run_underlying hu, Result.andThen_ok, valOf, hu]
        rfl
      case array m e =>
        split at h
        case h_2 => exact absurd h (by simp)
        rename_i k1 hk1
        split at h
        case isFalse => exact absurd h (by simp)
        rename_i hsz
        simp at h; subst h
        have hs := run_sz (P := P) (w := w) hsz
        have hl2 := hx.1
        have key : ∀ (m a : Nat), a * k1.length + (repK k1 m).length = us.length → (forIn (List.range' a m) PUnit.unit fun i (_ : PUnit) => (do
            let x ← sizeOf e
            let v ← part e us.toArray (i * x)
            Instr.checkKey em (d + n) e v
            pure (ForInStep.yield PUnit.unit) : Sem (ForInStep PUnit))).run P w = .ok PUnit.unit w := by
          intro m
          induction m with
          | zero => intro a _; simp
          | succ m ihm =>
            intro a he
            simp only [repK, List.length_append] at he
            have ha := plain_val (P := P) (w := w) hk1 hsz us (a * k1.length) (fun _ => by omega)
            have hch := ih e k1 hk1 ((xs.drop (a * k1.length)).take k1.length) ((us.drop (a * k1.length)).take k1.length) (hx.sub (a * k1.length) k1.length) (by simp; omega)
            have hr := ihm (a + 1) (by rw [Nat.succ_mul]; omega)
            rw [List.range'_succ]
            simp only [List.forIn_cons, Sem.run_bind, hs, ha, hch, Result.andThen_ok, Sem.run_pure]
            exact hr
        have := key m 0 (by omega)
        simp only [Sem.run_bind, run_underlying hu, Result.andThen_ok, valOf, hu, Std.Legacy.Range.forIn_eq_forIn_range', Std.Legacy.Range.size, Nat.sub_zero, Nat.add_sub_cancel, Nat.div_one]
        rw [this]
        rfl
      case struct fs =>
        split at h
        case isFalse => exact absurd h (by simp)
        have key : ∀ (l : List Field) (off : Nat) (ks : List CK), plainFs P (plainK P n) l off = some ks → off + ks.length = us.length →
            (forIn l PUnit.unit fun (f : Field) (_ : PUnit) => (if f.name ≠ "_" then (do
                let v ← part f.type us.toArray f.offset
                Instr.checkKey em (d + n) f.type v
                pure (ForInStep.yield PUnit.unit))
              else pure (ForInStep.yield PUnit.unit) : Sem (ForInStep PUnit))).run P w = .ok PUnit.unit w := by
          intro l
          induction l with
          | nil => intro off ks h he; simp
          | cons f l ihl =>
            intro off ks h he
            simp only [plainFs] at h
            split at h
            · rename_i hc
              obtain ⟨hn, ho⟩ := hc
              subst ho
              split at h
              · rename_i k1 hk1
                split at h
                · rename_i hsz
                  split at h
                  · rename_i k2 hk2
                    simp at h; subst h
                    simp at he
                    have hl2 := hx.1
                    have ha := plain_val (P := P) (w := w) hk1 hsz us f.offset (fun _ => by omega)
                    have hch := ih f.type k1 hk1 ((xs.drop f.offset).take k1.length) ((us.drop f.offset).take k1.length) (hx.sub f.offset k1.length) (by simp; omega)
                    have hn' : f.name ≠ "_" := by simpa using hn
                    have hr := ihl _ _ hk2 (by omega)
                    simp only [List.forIn_cons, if_pos hn', Sem.run_bind, ha, hch, Result.andThen_ok, Sem.run_pure]
                    exact hr
                  · exact absurd h (by simp)
                · exact absurd h (by simp)
              · exact absurd h (by simp)
            · exact absurd h (by simp)
        have := key fs.toList 0 ks h (by have := hx.1; omega)
        simp only [Sem.run_bind, run_underlying hu, Result.andThen_ok, valOf, hu]
        rw [← Array.forIn_toList, this]
        rfl
end
end Go.Den

/-! Operations on maps. -/
namespace Go.Den
open Go

section
variable {P : Program} {tab : Nat → Nat}
theorem mapB_open {t : TypeId} {ag : Bool} {ks : List CK} (h : mapB P t ag ks = true) : ∃ k e d, P.underlying t = some (.map k e) ∧ P.underlying k = some d ∧ plainK P 50 k = some ks ∧ szB P k ks.length = true ∧ (match P.underlying k with | some (.struct _) => ag | some (.array _ _) => false | _ => !ag) = true := by
  unfold mapB at h
  split at h
  · rename_i k e hu
    simp only [Bool.and_eq_true, beq_iff_eq] at h
    obtain ⟨⟨h1, h2⟩, h3⟩ := h
    have hd : ∃ d, P.underlying k = some d := by
      cases hk : P.underlying k with
      | some d => exact ⟨d, rfl⟩
      | none => simp [plainK, hk] at h1
    obtain ⟨d, hd⟩ := hd
    exact ⟨k, e, d, hu, hd, h1, h2, h3⟩
  · exact absurd h (by simp)
theorem keyOk_open {ag : Bool} {ks : List CK} {x : AV} (h : keyOk ag ks x = true) : ∃ r, keyEq ag ks x x = some r := Option.isSome_iff_exists.1 h
theorem check_key {w w' : World} {S : Nat → Prop} {ag : Bool} {ks : List CK} {k : TypeId} (hp : plainK P 50 k = some ks) (ha : (match P.underlying k with | some (.struct _) => ag | some (.array _ _) => false | _ => !ag) = true) {x : AV} {u : Value} (h : keyOk ag ks x = true)
    (hx : RF tab w' S x u) (em : Bool) : (Instr.checkKey em 10000 k u).run P w = .ok () w := by
  obtain ⟨r, hr⟩ := keyOk_open h
  obtain ⟨us, ru, rfl⟩ := key_val ha hr hx
  exact check_plain (P := P) w w' S em 9950 50 k ks hp _ us ru (eqCells_len (keyEq_cells hr).2.2).1
theorem map_open {w : World} {F : Nat → Prop} {σ : St} {γ : List Gh} {o : Nat} {v : Value} {es : List (AV × AV)} (I : Inv tab w F σ γ) (hx : RS tab w F σ γ (.mapr o) v) (ho : σ[o]? = some (.map es)) :
    ∃ g ms clock, γ[o]? = some g ∧ v = .map (some g.b) ∧ w.heap[g.b]? = some (.map ms clock) ∧ ms.size = es.length ∧ ∀ (j : Nat) (p : AV × AV) (m : MapEntry), es[j]? = some p → ms[j]? = some m → RF tab w (Stab w F σ γ) p.1 m.key ∧ RS tab w F σ γ p.2 m.val := by
  cases hx with
  | fz _ _ h => exact absurd h.noref (by simp [AV.noref])
  | mapr _ g es' hs hg =>
    obtain ⟨ms, clock, h1, h2, h3⟩ := I.ok o _ g ho hg
    exact ⟨g, ms, clock, hg, rfl, h1, h2, h3⟩
/-- What a map holds. -/
theorem mapOf_ok {w : World} {F : Nat → Prop} {σ : St} {γ : List Gh} {x : AV} {v : Value} {es : List (AV × AV)} {t : Bool} (I : Inv tab w F σ γ) (hx : RS tab w F σ γ x v) (h : mapOf σ x = some (es, t)) :
    ∃ ms : Array MapEntry, ((v = .map none ∧ ms = #[]) ∨ ∃ r clock, v = .map (some r) ∧ w.heap[r]? = some (.map ms clock)) ∧ ms.size = es.length ∧ ∀ (j : Nat) (p : AV × AV) (m : MapEntry), es[j]? = some p → ms[j]? = some m → RF tab w (Stab w F σ γ) p.1 m.key ∧ RS tab w F σ γ p.2 m.val := by
  cases x with
  | nilmap =>
    simp [mapOf] at h
    obtain ⟨rfl, rfl⟩ := h
    cases hx.frozen rfl
    exact ⟨#[], .inl ⟨rfl, rfl⟩, rfl, by simp⟩
  | fmap es0 =>
    simp [mapOf] at h
    obtain ⟨rfl, rfl⟩ := h
    cases hx.frozen rfl with
    | fmap b _ ms clock hb hh hl hk hr => exact ⟨ms, .inr ⟨b, clock, rfl, hh⟩, hl, fun j p m hp hm => ⟨hk j p m hp hm, .fz _ _ (hr j p m hp hm)⟩⟩
  | mapr o =>
    simp only [mapOf] at h
    split at h
    · rename_i es' ho
      simp at h
      obtain ⟨rfl, rfl⟩ := h
      obtain ⟨g, ms, clock, hg, rfl, h1, h2, h3⟩ := map_open I hx ho
      exact ⟨ms, .inr ⟨g.b, clock, rfl, h1⟩, h2, h3⟩
    · exact absurd h (by simp)
  | _ => simp [mapOf] at h
theorem getObj_m {w : World} {r : Nat} {es : Array MapEntry} {clock : Nat} (hb : w.heap[r]? = some (.map es clock)) : (getObj r).run P w = .ok (.map es clock) w := by
  simp [getObj, Sem.run, hb]
theorem setObj_m {w : World} {r : Nat} {es : Array MapEntry} {clock : Nat} (o : Obj) (hb : w.heap[r]? = some (.map es clock)) : (setObj r o).run P w = .ok () { w with heap := w.heap.setIfInBounds r o } := by
  simp [setObj, Sem.run, hb]
theorem lookup_ok {w : World} {F : Nat → Prop} {base : Nat} {σ : St} {γ : List Gh} {t : TypeId} {ag : Bool} {ks : List CK} {zero x i : AV} {u v : Value} {es : List (AV × AV)} {tt : Bool} {o : Option AV} (I : Inv tab w F σ γ) (hB : mapB P t ag ks = true) (hZ : mapZ P t zero = true)
    (hx : RS tab w F σ γ x u) (hi : RS tab w F σ γ i v) (hm : mapOf σ x = some (es, tt)) (hk : keyOk ag ks i = true) (hf : mfind ag ks i es = some o) (ok : Bool) :
    Done tab F base w σ γ ((val (Instr.lookup t u v ok)).run P w) (match o with
      | some z => if ok then .tup [z, .bool true] else z
      | none => if ok then .tup [zero, .bool false] else zero) σ := by
  obtain ⟨k, e, d, hu, hd, hp, hs, ha⟩ := mapB_open hB
  obtain ⟨ms, hms, hl, hr⟩ := mapOf_ok I hx hm
  obtain ⟨r, hr0⟩ := keyOk_open hk
  have hi' := hi.frozen (keyEq_noref hr0).1
  have hchk := check_key (P := P) (w := w) hp ha hk hi' ms.isEmpty
  obtain ⟨j, hj, hj2⟩ := mfind_idx hf
  have hmaps : MapsTo tab w (Stab w F σ γ) es ms.toList := ⟨by simpa using hl, fun j p m hp hm => (hr j p m hp (by simpa using hm)).1⟩
  have hfind := find_key (P := P) hd hp ha hi' w hmaps hj
  obtain ⟨z, hz, hzz⟩ : ∃ z, (zeroValue e).run P w = .ok z w ∧ constB z zero = true := by
    unfold mapZ at hZ
    rw [hu] at hZ
    simp only [] at hZ
    split at hZ
    · rename_i inf hinf
      split at hZ
      · rename_i z hz
        exact ⟨z, by simp [zeroValue, run_typeInfo w hinf, hz], hZ⟩
      · exact absurd hZ (by simp)
    · exact absurd hZ (by simp)
  have key : ∀ (a : Value) (b : Bool) (y : AV), RS tab w F σ γ y a → RS tab w F σ γ (if ok then .tup [y, .bool b] else y) (if ok then .tuple #[a, .bool b] else a) := by
    intro a b y hy
    cases ok with
    | false => exact hy
    | true =>
      refine .tup [y, .bool b] [a, .bool b] rfl fun j x v hx hv => ?_
      cases j with
      | zero => simp at hx hv; subst hx; subst hv; exact hy
      | succ j => cases j with
        | zero => simp at hx hv; subst hx; subst hv; exact .fz _ _ (.bool b)
        | succ j => simp at hx
  rcases hj2 with ⟨rfl, rfl⟩ | ⟨n, p, rfl, h3, rfl, h5⟩
  · refine done_same I (v := if ok then .tuple #[z, .bool false] else z) (val_run ?_) (key z false zero (.fz _ _ (constB_ok tab hzz)))
    rcases hms with ⟨rfl, rfl⟩ | ⟨b, clock, rfl, hb⟩
    · simp only [Instr.lookup, Sem.run_bind, run_underlying hu, Result.andThen_ok, hchk, hfind, Option.bind_none, hz, Sem.run_pure]
    · simp only [Instr.lookup, Sem.run_bind, run_underlying hu, Result.andThen_ok, getObj_m hb, hchk, hfind, Option.bind_none, hz, Sem.run_pure]
  · obtain ⟨m, hm2⟩ := get_of_len (l := es) (l' := ms.toList) (by simpa using hl) h3
    refine done_same I (v := if ok then .tuple #[m.val, .bool true] else m.val) (val_run ?_) (key m.val true p.2 (hr n p m h3 (by simpa using hm2)).2)
    rcases hms with ⟨rfl, rfl⟩ | ⟨b, clock, rfl, hb⟩
    · simp at hm2
    · simp only [Instr.lookup, Sem.run_bind, run_underlying hu, Result.andThen_ok, getObj_m hb, hchk, hfind, Option.bind_some, hm2, Option.map_some, Sem.run_pure]
theorem mkmap_ok {w : World} {F : Nat → Prop} {base : Nat} {σ : St} {γ : List Gh} {t : TypeId} {r : Option Value} (I : Inv tab w F σ γ) (hb : base ≤ σ.length) (hr : ∀ v, r = some v → (∃ k n, v = .int k n) ∧ ∃ k e, P.underlying t = some (.map k e)) :
    Done tab F base w σ γ ((val (Instr.makeMap t r)).run P w) (.mapr σ.length) (σ ++ [.map []]) := by
  have hrun : (Instr.makeMap t r).run P w = .ok (.map (some w.heap.size)) (w.alloc (.map #[] 0)) := by
    cases r with
    | none => rfl
    | some v =>
      obtain ⟨⟨k, n, rfl⟩, k', e, hu⟩ := hr v rfl
      simp [Instr.makeMap, run_underlying hu, Go.asInt, asIntOf, Result.andThen]
  obtain ⟨h1, h2, h3⟩ := new_push I (base := base) hb (.map #[] 0) (.map []) 0 fun st => ⟨#[], 0, by simp, rfl, by simp⟩
  exact ⟨.map (some w.heap.size), _, _, .inl (by simp [val, hrun]), h1, h2, .mapr σ.length ⟨w.heap.size, 0, 0⟩ [] (by simp) (by rw [← I.len]; simp), h3⟩
/-- A change of the block that the k-th object owns. -/
theorem set_obj {w : World} {F : Nat → Prop} {σ : St} {γ : List Gh} (I : Inv tab w F σ γ) {k : Nat} {x x' : Ob} {g : Gh} (hx : σ[k]? = some x) (hg : γ[k]? = some g) (ho : owns x g = true) (hs : ObStep x g x' g) (ob : Obj) :
    Step σ.length w σ γ { w with heap := w.heap.setIfInBounds g.b ob } (σ.set k x') γ ∧ ((ObOk tab { w with heap := w.heap.setIfInBounds g.b ob } (Stab { w with heap := w.heap.setIfInBounds g.b ob } F (σ.set k x') γ) (σ.set k x') γ x' g) → Inv tab { w with heap := w.heap.setIfInBounds g.b ob } F (σ.set k x') γ) := by
  have hk := lt_of_get hx
  obtain ⟨h1, h2⟩ := change (w1 := { w with heap := w.heap.setIfInBounds g.b ob }) (σ1 := σ.set k x') (γ1 := γ) k I rfl rfl rfl (by simp)
    (fun o ho => ⟨by rw [List.getElem?_set]; simp [Ne.symm ho], rfl⟩) (by simp) (by simp [I.len])
    (fun b hb' => by
      by_cases e : b = g.b
      · exact .inr ⟨x, g, hx, hg, ho, e.symm⟩
      · exact .inl (by simp [Ne.symm e]))
    (fun y g' hy hg' _ => by
      rw [hg] at hg'; simp at hg'; subst hg'
      exact .inr ⟨x, g, hx, hg, ho, rfl⟩)
    (fun y g' hy hg' => by
      rw [hx] at hy; rw [hg] at hg'; simp at hy hg'; subst hy; subst hg'
      exact ⟨x', g, by simp [hk], hg, hs⟩)
  refine ⟨h1, fun hok => h2 fun y g' hy hg' => ?_⟩
  rw [hg] at hg'; simp [hk] at hy hg'; subst hy; subst hg'
  exact hok
theorem same_str (a : ByteArray) : (a == a) = true := by
  obtain ⟨a⟩ := a
  show ((a == a) : Bool) = true
  simp
theorem scal_det {w : World} {S : Nat → Prop} {k : CK} {x y : AV} {r : Bool} (h : eqB k x y = some r) {u v : Value} (hu : RF tab w S x u) (hv : RF tab w S x v) : u = v ∧ ∀ n, Instr.sameBits n u u = true := by
  cases k <;> cases x <;> (try (simp [eqB] at h; done)) <;> cases hu <;> cases hv
  · exact ⟨rfl, fun n => by cases n <;> simp [Instr.sameBits]⟩
  · exact ⟨rfl, fun n => by cases n <;> simp [Instr.sameBits]⟩
  · exact ⟨rfl, fun n => by cases n <;> simp [Instr.sameBits, same_str]⟩
theorem cells_det {w : World} {S : Nat → Prop} : ∀ {ks : List CK} {xs ys : List AV} {r : Bool}, eqCells ks xs ys = some r → ∀ {us vs : List Value}, Reads tab w S xs us → Reads tab w S xs vs → us = vs ∧ ∀ u ∈ us, ∀ n, Instr.sameBits n u u = true
  | [], [], _, _, _, us, vs, hu, hv => by
    have e1 : us = [] := List.eq_nil_of_length_eq_zero hu.1
    have e2 : vs = [] := List.eq_nil_of_length_eq_zero hv.1
    subst e1; subst e2; exact ⟨rfl, by simp⟩
  | [], _ :: _, _, _, h, _, _, _, _ => by simp [eqCells] at h
  | k :: ks, [], _, r, h, _, _, _, _ => by simp [eqCells] at h
  | k :: ks, _ :: _, [], r, h, _, _, _, _ => by simp [eqCells] at h
  | k :: ks, x :: xs, y :: ys, r, h, us, vs, hu, hv => by
    simp only [eqCells] at h
    split at h
    · rename_i a b h1 h2
      cases us with
      | nil => have := hu.1; simp at this
      | cons u us =>
        cases vs with
        | nil => have := hv.1; simp at this
        | cons v vs =>
          obtain ⟨q1, q2⟩ := scal_det h1 (hu.2 0 x u rfl rfl) (hv.2 0 x v rfl rfl)
          obtain ⟨p1, p2⟩ := cells_det h2 (us := us) (vs := vs) ⟨by have := hu.1; simpa using this, fun j x u hx hu' => hu.2 (j + 1) x u (by simpa using hx) (by simpa using hu')⟩ ⟨by have := hv.1; simpa using this, fun j x u hx hu' => hv.2 (j + 1) x u (by simpa using hx) (by simpa using hu')⟩
          refine ⟨by rw [q1, p1], fun z hz => ?_⟩
          rcases List.mem_cons.1 hz with rfl | hz
          · exact q2
          · exact p2 z hz
    · exact absurd h (by simp)
theorem key_stays {w : World} {S : Nat → Prop} {ag : Bool} {ks : List CK} {k : TypeId} (ha : (match P.underlying k with | some (.struct _) => ag | some (.array _ _) => false | _ => !ag) = true) {x y : AV} {r : Bool} (h : keyEq ag ks x y = some r) {u v : Value} (hu : RF tab w S x u) (hv : RF tab w S x v) :
    (Instr.keyThatStays u v).run P w = .ok v w := by
  obtain ⟨us, ru, rfl⟩ := key_val ha h hu
  obtain ⟨vs, rv, rfl⟩ := key_val ha h hv
  obtain ⟨q1, q2⟩ := cells_det (keyEq_cells h).2.2 ru rv
  subst q1
  have : Instr.sameBits 10000 (valOf P k us) (valOf P k us) = true := by
    unfold valOf
    have hag : ∀ us : List Value, (∀ u ∈ us, ∀ n, Instr.sameBits n u u = true) → Instr.sameBits 10000 (.agg us.toArray) (.agg us.toArray) = true := by
      intro us q2
      simp only [Instr.sameBits, Bool.and_eq_true, List.all_eq_true]
      refine ⟨by simp, fun p hp => ?_⟩
      have : p.1 = p.2 ∧ p.1 ∈ us := by
        have hz : ∀ {l : List Value} {p : Value × Value}, p ∈ l.zip l → p.1 = p.2 ∧ p.1 ∈ l := by
          intro l
          induction l with
          | nil => simp
          | cons a l ih =>
            intro p hp
            simp only [List.zip_cons_cons, List.mem_cons] at hp
            rcases hp with rfl | hp
            · exact ⟨rfl, by simp⟩
            · obtain ⟨h1, h2⟩ := ih hp; exact ⟨h1, by simp [h2]⟩
        exact hz (by simpa using hp)
      obtain ⟨p1, p2⟩ := p
      simp only at this ⊢
      rw [← this.1]
      exact q2 _ this.2 9999
    split
    · exact hag us q2
    · exact hag us q2
    · rename_i hn1 hn2
      cases us with
      | nil =>
        have := ru.1
        split at this
        · rename_i hag'
          exfalso
          revert ha
          split
          · rename_i hu'; exact (hn1 _ hu').elim
          · simp
          · simp [hag']
        · simp at this
      | cons u us => exact q2 u (by simp) _
  simp [Instr.keyThatStays, this]
theorem mapupd_ok {w : World} {F : Nat → Prop} {base : Nat} {σ : St} {γ : List Gh} {t : TypeId} {ag : Bool} {ks : List CK} {o : Nat} {k v : AV} {u a b : Value} {es es' : List (AV × AV)} (I : Inv tab w F σ γ) (hB : mapB P t ag ks = true)
    (hx : RS tab w F σ γ (.mapr o) u) (hk' : RS tab w F σ γ k a) (hv : RS tab w F σ γ v b) (ho : σ[o]? = some (.map es)) (hk : keyOk ag ks k = true) (hp : mput ag ks k v es = some es') (hst : v.noref = true ∨ base ≤ o) :
    Done tab F base w σ γ ((do Instr.mapUpdate t u a b; pure Next.skip : Sem Next).run P w) .dead (σ.set o (.map es')) := by
  obtain ⟨kt, e, d, hu, hd, hpl, hs, ha⟩ := mapB_open hB
  obtain ⟨g, ms, clock, hg, rfl, h1, h2, h3⟩ := map_open I hx ho
  obtain ⟨r, hr0⟩ := keyOk_open hk
  have hi' := hk'.frozen (keyEq_noref hr0).1
  have hchk := check_key (P := P) (w := w) hpl ha hk hi' false
  obtain ⟨j, hj, hj2⟩ := mput_idx hp
  have hmaps : MapsTo tab w (Stab w F σ γ) es ms.toList := ⟨by simpa using h2, fun j p m hp hm => (h3 j p m hp (by simpa using hm)).1⟩
  have hfind := find_key (P := P) hd hpl ha hi' w hmaps hj
  have hfr : ∀ b', (∀ p ∈ es', p.1.under b' = true ∧ p.2.under b' = true) → (Ob.map es').under b' = true := fun b' h => by
    simp only [Ob.under, List.all_eq_true]
    intro p hp
    simp [h p hp]
  have hkn : k.noref = true := (keyEq_noref hr0).1
  have fr : (∀ p ∈ es', p ∈ es ∨ p = (k, v)) → Fr base σ (σ.set o (.map es')) := fun hsub => Fr.set fun b' hb1 hb2 hF => hfr b' fun p hp => by
    rcases hsub p hp with q | rfl
    · have := hF o _ hb1 ho
      simp only [Ob.under, List.all_eq_true] at this
      simpa using this p q
    · refine ⟨noref_under _ hkn, ?_⟩
      rcases hst with q | q
      · exact noref_under _ q
      · omega
  rcases hj2 with ⟨rfl, rfl⟩ | ⟨n, p, rfl, h4, h5, rfl⟩
  · -- a new key
    have hrun : (Instr.mapUpdate t (.map (some g.b)) a b).run P w = .ok () { w with heap := w.heap.setIfInBounds g.b (.map (ms.push { key := a, val := b, born := clock }) (clock + 1)) } := by
      simp only [Instr.mapUpdate, Sem.run_bind, run_underlying hu, Result.andThen_ok, getObj_m h1, hchk, hfind, Option.bind_none, setObj_m _ h1]
    obtain ⟨s1, s2⟩ := set_obj I ho hg rfl (.map es (es ++ [(k, v)]) g) (.map (ms.push { key := a, val := b, born := clock }) (clock + 1))
    refine ⟨undef, _, γ, .inr ⟨by simp [hrun], rfl⟩, s1, s2 ⟨_, _, (MapKept.heap_set h1).1, by simp [h2], fun j p m hp hm => ?_⟩, .dead _, fr fun p hp => by simpa using hp⟩
    rw [List.getElem?_append] at hp
    rw [Array.getElem?_push] at hm
    rw [h2] at hm
    split at hp
    · rename_i hlt
      rw [if_neg (by omega)] at hm
      obtain ⟨q1, q2⟩ := h3 j p m hp hm
      exact ⟨q1.mono fun b hb => s1.stab hb, q2.step s1 q2.under⟩
    · rename_i hge
      have : j = es.length := by have := lt_of_get hp; simp at this; omega
      subst this
      simp at hp hm
      subst hp; subst hm
      exact ⟨hi'.mono fun b hb => s1.stab hb, hv.step s1 hv.under⟩
  · -- a known key
    obtain ⟨m, hm⟩ := get_of_len (l := es) (l' := ms.toList) (by simpa using h2) h4
    have hm' : ms[n]? = some m := by simpa using hm
    have hstay : (Instr.keyThatStays m.key a).run P w = .ok a w := key_stays ha hr0 (h5 ▸ (h3 n p m h4 hm').1) hi'
    have hrun : (Instr.mapUpdate t (.map (some g.b)) a b).run P w = .ok () { w with heap := w.heap.setIfInBounds g.b (.map (ms.modify n fun e => { e with key := a, val := b }) clock) } := by
      simp only [Instr.mapUpdate, Sem.run_bind, run_underlying hu, Result.andThen_ok, getObj_m h1, hchk, hfind, Option.bind_some, hm, Option.map_some, hm', Option.getD_some, hstay, setObj_m _ h1]
    obtain ⟨s1, s2⟩ := set_obj I ho hg rfl (.map es (es.set n (k, v)) g) (.map (ms.modify n fun e => { e with key := a, val := b }) clock)
    refine ⟨undef, _, γ, .inr ⟨by simp [hrun], rfl⟩, s1, s2 ⟨_, _, (MapKept.heap_set h1).1, by simp [h2], fun j p m hp hm => ?_⟩, .dead _, fr fun p hp => by
      rcases List.mem_or_eq_of_mem_set hp with h | h
      · exact .inl h
      · exact .inr h⟩
    rw [List.getElem?_set] at hp
    rw [Array.getElem?_modify] at hm
    split at hp
    · rename_i e
      subst e
      simp at hm hp
      obtain ⟨m0, hm0, rfl⟩ := hm
      obtain ⟨hlt, rfl⟩ := hp
      exact ⟨hi'.mono fun b hb => s1.stab hb, hv.step s1 hv.under⟩
    · rename_i e
      rw [if_neg e] at hm
      obtain ⟨q1, q2⟩ := h3 j p m hp hm
      exact ⟨q1.mono fun b hb => s1.stab hb, q2.step s1 q2.under⟩
end
end Go.Den
