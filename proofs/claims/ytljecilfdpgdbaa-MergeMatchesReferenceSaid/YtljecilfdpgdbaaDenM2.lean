/- Maps. -/
import Derived.Test.YtljecilfdpgdbaaDenM
import Derived.MapKept
namespace Go.Den
open Go

section
variable {P : Program} {tab : Nat → Nat}
/-- A map's type: how its keys are compared. -/
def mapB (P : Program) (t : TypeId) (ag : Bool) (ks : List CK) : Bool := match P.underlying t with
  | some (.map k _) => plainK P 50 k == some ks && szB P k ks.length && (match P.underlying k with
    | some (.struct _) => ag
    | some (.array _ _) => false
    | _ => !ag)
  | _ => false
/-- What a lookup finds where nothing is. -/
def mapZ (P : Program) (t : TypeId) (z : AV) : Bool := match P.underlying t with
  | some (.map _ e) => match P.info? e with
    | some i => match i.zero with
      | some v => constB v z
      | none => false
    | none => false
  | _ => false
def keyCells (ag : Bool) : AV → List AV
  | .agg xs => if ag then xs else [.agg xs]
  | x => [x]
theorem keyEq_cells {ag : Bool} {ks : List CK} {x y : AV} {r : Bool} (h : keyEq ag ks x y = some r) : (ag = true → x.isAgg = true ∧ y.isAgg = true) ∧ (ag = false → x.isAgg = false ∨ y.isAgg = false) ∧ eqCells ks (if ag then x.cellsOf else [x]) (if ag then y.cellsOf else [y]) = some r := by
  unfold keyEq at h
  split at h
  · rename_i xs ys
    split at h
    · rename_i ha; subst ha; exact ⟨fun _ => ⟨rfl, rfl⟩, fun h => by simp at h, by simpa [AV.cellsOf] using h⟩
    · exact absurd h (by simp)
  · rename_i hn
    cases ag with
    | true => simp at h
    | false =>
      refine ⟨fun h => by simp at h, fun _ => ?_, by simpa using h⟩
      cases x with
      | agg xs => cases y with
        | agg ys => exact (hn xs ys rfl rfl).elim
        | _ => exact .inr rfl
      | _ => exact .inl rfl
theorem eqB_noref {k : CK} {x y : AV} {r : Bool} (h : eqB k x y = some r) : x.noref = true ∧ y.noref = true ∧ (r = true → x = y) := by
  cases k <;> cases x <;> (try (simp [eqB] at h; done)) <;> cases y <;> (try (simp [eqB] at h; done))
  · simp only [eqB] at h
    split at h
    · rename_i e; subst e; simp at h; subst h; exact ⟨rfl, rfl, fun e => by simp at e; rw [e]⟩
    · exact absurd h (by simp)
  · simp [eqB] at h; subst h; exact ⟨rfl, rfl, fun e => by simp at e; rw [e]⟩
  · simp [eqB] at h; subst h; exact ⟨rfl, rfl, fun e => by simp at e; rw [e]⟩
theorem eqCells_noref : ∀ {ks : List CK} {xs ys : List AV} {r : Bool}, eqCells ks xs ys = some r → norefs xs = true ∧ norefs ys = true ∧ (r = true → xs = ys)
  | [], [], [], _, _ => ⟨rfl, rfl, fun _ => rfl⟩
  | [], _ :: _, _, _, h => by simp [eqCells] at h
  | [], [], _ :: _, _, h => by simp [eqCells] at h
  | k :: ks, [], _, r, h => by simp [eqCells] at h
  | k :: ks, _ :: _, [], r, h => by simp [eqCells] at h
  | k :: ks, x :: xs, y :: ys, r, h => by
    simp only [eqCells] at h
    split at h
    · rename_i a b h1 h2
      simp at h; subst h
      obtain ⟨q1, q2, q3⟩ := eqCells_noref h2
      obtain ⟨p1, p2, p3⟩ := eqB_noref h1
      refine ⟨by simp only [norefs, AV.noref.norefs, Bool.and_eq_true]; exact ⟨p1, q1⟩, by simp only [norefs, AV.noref.norefs, Bool.and_eq_true]; exact ⟨p2, q2⟩, fun e => ?_⟩
      simp at e
      rw [p3 e.1, q3 e.2]
    · exact absurd h (by simp)
theorem keyEq_noref {ag : Bool} {ks : List CK} {x y : AV} {r : Bool} (h : keyEq ag ks x y = some r) : x.noref = true ∧ y.noref = true ∧ (r = true → x = y) := by
  obtain ⟨h1, h2, h3⟩ := keyEq_cells h
  obtain ⟨q1, q2, q3⟩ := eqCells_noref h3
  cases ag with
  | true =>
    obtain ⟨a, b⟩ := h1 rfl
    cases x <;> simp [AV.isAgg] at a
    cases y <;> simp [AV.isAgg] at b
    simp [AV.cellsOf] at q1 q2 q3
    exact ⟨q1, q2, fun e => by rw [q3 e]⟩
  | false =>
    simp [norefs, AV.noref.norefs] at q1 q2 q3
    exact ⟨q1, q2, q3⟩
/-- A key as it lies in the machine's map. -/
theorem key_val {w : World} {S : Nat → Prop} {ag : Bool} {ks : List CK} {k : TypeId} (ha : (match P.underlying k with | some (.struct _) => ag | some (.array _ _) => false | _ => !ag) = true) {x y : AV} {u : Value} {r : Bool} (h : keyEq ag ks x y = some r)
    (hx : RF tab w S x u) : ∃ us, Reads tab w S (if ag then x.cellsOf else [x]) us ∧ u = valOf P k us := by
  obtain ⟨h1, h2, h3⟩ := keyEq_cells h
  cases ag with
  | true =>
    obtain ⟨a, _⟩ := h1 rfl
    cases x <;> simp [AV.isAgg] at a
    cases hx with
    | agg cs vs hl hs hr =>
      refine ⟨vs, ⟨hl, hr⟩, ?_⟩
      simp only [valOf]
      split at ha
      · rename_i hu; rw [hu]
      · exact absurd ha (by simp)
      · exact absurd ha (by simp)
  | false =>
    refine ⟨[u], ⟨rfl, fun j x' u' hx' hu' => ?_⟩, ?_⟩
    · cases j with
      | zero => simp at hx' hu'; subst hx'; subst hu'; exact hx
      | succ j => simp at hx'
    · simp only [valOf]
      cases hu : P.underlying k with
      | none => rfl
      | some d => cases d <;> first | rfl | (rw [hu] at ha; exact absurd ha (by simp))
theorem key_val2 {w : World} {S : Nat → Prop} {ag : Bool} {ks : List CK} {k : TypeId} (ha : (match P.underlying k with | some (.struct _) => ag | some (.array _ _) => false | _ => !ag) = true) {x y : AV} {u : Value} {r : Bool} (h : keyEq ag ks x y = some r)
    (hy : RF tab w S y u) : ∃ us, Reads tab w S (if ag then y.cellsOf else [y]) us ∧ u = valOf P k us := by
  obtain ⟨h1, h2, h3⟩ := keyEq_cells h
  cases ag with
  | true =>
    obtain ⟨_, a⟩ := h1 rfl
    cases y <;> simp [AV.isAgg] at a
    cases hy with
    | agg cs vs hl hs hr =>
      refine ⟨vs, ⟨hl, hr⟩, ?_⟩
      simp only [valOf]
      split at ha
      · rename_i hu; rw [hu]
      · exact absurd ha (by simp)
      · exact absurd ha (by simp)
  | false =>
    refine ⟨[u], ⟨rfl, fun j x' u' hx' hu' => ?_⟩, ?_⟩
    · cases j with
      | zero => simp at hx' hu'; subst hx'; subst hu'; exact hy
      | succ j => simp at hx'
    · simp only [valOf]
      cases hu : P.underlying k with
      | none => rfl
      | some d => cases d <;> first | rfl | (rw [hu] at ha; exact absurd ha (by simp))
theorem key_equal {w : World} {S : Nat → Prop} {ag : Bool} {ks : List CK} {k : TypeId} (hp : plainK P 50 k = some ks) (ha : (match P.underlying k with | some (.struct _) => ag | some (.array _ _) => false | _ => !ag) = true) {x y : AV} {u v : Value} {r : Bool} (h : keyEq ag ks x y = some r)
    (hx : RF tab w S x u) (hy : RF tab w S y v) (w' : World) : (Op.equal k u v).run P w' = .ok r w' := by
  obtain ⟨us, ru, rfl⟩ := key_val ha h hx
  obtain ⟨vs, rv, rfl⟩ := key_val2 ha h hy
  exact eq_plain (P := P) w' w S 9950 50 k ks hp _ _ us vs r ru rv (keyEq_cells h).2.2
/-- A comparison by now says what '==' says. -/
theorem key_now {w : World} {S : Nat → Prop} {ag : Bool} {ks : List CK} {k : TypeId} {d : TypeDesc} (hd : P.underlying k = some d) (hp : plainK P 50 k = some ks) (ha : (match P.underlying k with | some (.struct _) => ag | some (.array _ _) => false | _ => !ag) = true) {x y : AV} {u v : Value} {r : Bool}
    (h : keyEq ag ks x y = some r) (hx : RF tab w S x u) (hy : RF tab w S y v) : Instr.sameNow d u v = some r ∨ ∀ u v, Instr.sameNow d u v = none := by
  obtain ⟨us, ru, rfl⟩ := key_val ha h hx
  obtain ⟨vs, rv, rfl⟩ := key_val2 ha h hy
  have h3 := (keyEq_cells h).2.2
  generalize 50 = m at hp
  cases m with
  | zero => simp [plainK] at hp
  | succ m =>
  simp only [plainK, hd] at hp
  have one : ∀ c, ks = [c] → ∃ a b : Value, us = [a] ∧ vs = [b] ∧ EqOpen c a b r := by
    rintro c rfl
    obtain ⟨l1, l2⟩ := eqCells_len h3
    generalize hX : (if ag = true then x.cellsOf else [x]) = X at *
    generalize hY : (if ag = true then y.cellsOf else [y]) = Y at *
    obtain ⟨x, rfl⟩ := List.length_eq_one_iff.1 l1
    obtain ⟨y, rfl⟩ := List.length_eq_one_iff.1 l2
    obtain ⟨u, rfl⟩ := List.length_eq_one_iff.1 (ru.1.trans rfl)
    obtain ⟨v, rfl⟩ := List.length_eq_one_iff.1 (rv.1.trans rfl)
    refine ⟨u, v, rfl, rfl, ?_⟩
    simp only [eqCells] at h3
    split at h3
    · rename_i a b h1 h2
      simp at h2; subst h2; simp at h3; subst h3
      exact eqB_open (ru.2 0 x u rfl rfl) (rv.2 0 y v rfl rfl) h1
    · exact absurd h3 (by simp)
  cases d <;> simp only [] at hp <;> first | (exfalso; simp at hp; done) | skip
  case bool =>
    simp at hp
    obtain ⟨a, b, rfl, rfl, p, q, rfl, rfl, rfl⟩ := one .b hp.symm
    exact .inl (by simp [valOf, hd, Instr.sameNow])
  case int i =>
    simp at hp
    obtain ⟨a, b, rfl, rfl, i', p, q, rfl, rfl, rfl⟩ := one .i hp.symm
    exact .inl (by simp [valOf, hd, Instr.sameNow, int_beq])
  case string =>
    simp at hp
    obtain ⟨a, b, rfl, rfl, p, q, rfl, rfl, rfl⟩ := one .s hp.symm
    refine .inl ?_
    simp [valOf, hd, Instr.sameNow]
    obtain ⟨p⟩ := p
    obtain ⟨q⟩ := q
    show ((p == q) : Bool) = _
    by_cases e : p = q
    · subst e; simp
    · have : (ByteArray.mk p = ByteArray.mk q) = False := by simp [e]
      simp [e]
  case array m e => rw [hd] at ha; exact absurd ha (by simp)
  case struct fs => exact .inr fun u v => by cases u <;> cases v <;> rfl
/-- Entries as they lie in the machine. -/
def MapsTo (tab : Nat → Nat) (w : World) (S : Nat → Prop) (es : List (AV × AV)) (ms : List MapEntry) : Prop := ms.length = es.length ∧ ∀ (j : Nat) (p : AV × AV) (m : MapEntry), es[j]? = some p → ms[j]? = some m → RF tab w S p.1 m.key
theorem MapsTo.tail {w : World} {S : Nat → Prop} {p : AV × AV} {es : List (AV × AV)} {m : MapEntry} {ms : List MapEntry} (h : MapsTo tab w S (p :: es) (m :: ms)) : RF tab w S p.1 m.key ∧ MapsTo tab w S es ms :=
  ⟨h.2 0 p m rfl rfl, by have := h.1; simpa using this, fun j p m hp hm => h.2 (j + 1) p m (by simpa using hp) (by simpa using hm)⟩
/-- Where a key stands. -/
def midx (ag : Bool) (ks : List CK) (k : AV) : List (AV × AV) → Option (Option Nat)
  | [] => some none
  | (a, _) :: r => match keyEq ag ks k a with
    | some true => some (some 0)
    | some false => (midx ag ks k r).map fun o => o.map (· + 1)
    | none => none
theorem mfind_idx {ag : Bool} {ks : List CK} {k : AV} : ∀ {es : List (AV × AV)} {o : Option AV}, mfind ag ks k es = some o → ∃ i, midx ag ks k es = some i ∧ ((i = none ∧ o = none) ∨ ∃ j p, i = some j ∧ es[j]? = some p ∧ o = some p.2 ∧ p.1 = k)
  | [], o, h => by simp [mfind] at h; subst h; exact ⟨none, rfl, .inl ⟨rfl, rfl⟩⟩
  | (a, v) :: r, o, h => by
    simp only [mfind] at h
    split at h
    · rename_i he
      simp at h; subst h
      exact ⟨some 0, by simp [midx, he], .inr ⟨0, (a, v), rfl, rfl, rfl, ((keyEq_noref he).2.2 rfl).symm⟩⟩
    · rename_i he
      obtain ⟨i, h1, h2⟩ := mfind_idx h
      refine ⟨i.map (· + 1), by simp [midx, he, h1], ?_⟩
      rcases h2 with ⟨rfl, rfl⟩ | ⟨j, p, rfl, h3, h4, h5⟩
      · exact .inl ⟨rfl, rfl⟩
      · exact .inr ⟨j + 1, p, rfl, by simpa using h3, h4, h5⟩
    · exact absurd h (by simp)
theorem mput_idx {ag : Bool} {ks : List CK} {k v : AV} : ∀ {es es' : List (AV × AV)}, mput ag ks k v es = some es' → ∃ i, midx ag ks k es = some i ∧ ((i = none ∧ es' = es ++ [(k, v)]) ∨ ∃ j p, i = some j ∧ es[j]? = some p ∧ p.1 = k ∧ es' = es.set j (k, v))
  | [], es', h => by simp [mput] at h; subst h; exact ⟨none, rfl, .inl ⟨rfl, rfl⟩⟩
  | (a, u) :: r, es', h => by
    simp only [mput] at h
    split at h
    · rename_i he
      simp at h; subst h
      have := ((keyEq_noref he).2.2 rfl).symm
      exact ⟨some 0, by simp [midx, he], .inr ⟨0, (a, u), rfl, rfl, this, by simp [this]⟩⟩
    · rename_i he
      obtain ⟨q, hq, rfl⟩ := Option.map_eq_some_iff.1 h
      obtain ⟨i, h1, h2⟩ := mput_idx hq
      refine ⟨i.map (· + 1), by simp [midx, he, h1], ?_⟩
      rcases h2 with ⟨rfl, rfl⟩ | ⟨j, p, rfl, h3, h4, rfl⟩
      · exact .inl ⟨rfl, rfl⟩
      · exact .inr ⟨j + 1, p, rfl, by simpa using h3, h4, rfl⟩
    · exact absurd h (by simp)
/-- The machine finds what stands there. -/
theorem find_asking {w : World} {S : Nat → Prop} {ag : Bool} {ks : List CK} {k : TypeId} (hp : plainK P 50 k = some ks) (ha : (match P.underlying k with | some (.struct _) => ag | some (.array _ _) => false | _ => !ag) = true) {x : AV} {u : Value} (hx : RF tab w S x u) (w' : World) :
    ∀ {es : List (AV × AV)} {ms : List MapEntry} {i : Option Nat} (n : Nat), MapsTo tab w S es ms → midx ag ks x es = some i → (Instr.findAsking k u ms n).run P w' = .ok (i.bind fun j => (ms[j]?).map fun m => (j + n, m.val)) w'
  | [], [], i, n, _, h => by simp [midx] at h; subst h; simp [Instr.findAsking]
  | [], _ :: _, i, n, hm, h => by have := hm.1; simp at this
  | _ :: _, [], i, n, hm, h => by have := hm.1; simp at this
  | (a, v) :: r, m :: ms, i, n, hm, h => by
    obtain ⟨h1, h2⟩ := hm.tail
    simp only [midx] at h
    split at h
    · rename_i he
      simp at h; subst h
      simp only [Instr.findAsking, Sem.run_bind, key_equal hp ha he hx h1 w', Result.andThen_ok]
      simp
    · rename_i he
      obtain ⟨o, ho, rfl⟩ := Option.map_eq_some_iff.1 h
      simp only [Instr.findAsking, Sem.run_bind, key_equal hp ha he hx h1 w', Result.andThen_ok]
      have := find_asking hp ha hx w' (n + 1) h2 ho
      simp
      rw [this]
      cases o with
      | none => rfl
      | some j => simp; congr 1; funext m; congr 1; omega
    · exact absurd h (by simp)
theorem find_now {w : World} {S : Nat → Prop} {ag : Bool} {ks : List CK} {k : TypeId} {d : TypeDesc} (hd : P.underlying k = some d) (hp : plainK P 50 k = some ks) (ha : (match P.underlying k with | some (.struct _) => ag | some (.array _ _) => false | _ => !ag) = true) {x : AV} {u : Value} (hx : RF tab w S x u) :
    ∀ {es : List (AV × AV)} {ms : List MapEntry} {i : Option Nat} (n : Nat), MapsTo tab w S es ms → midx ag ks x es = some i → Instr.findNow d u ms n = none ∨ Instr.findNow d u ms n = some (i.bind fun j => (ms[j]?).map fun m => (j + n, m.val))
  | [], [], i, n, _, h => by simp [midx] at h; subst h; exact .inr rfl
  | [], _ :: _, i, n, hm, h => by have := hm.1; simp at this
  | _ :: _, [], i, n, hm, h => by have := hm.1; simp at this
  | (a, v) :: r, m :: ms, i, n, hm, h => by
    obtain ⟨h1, h2⟩ := hm.tail
    simp only [midx] at h
    split at h
    · rename_i he
      simp at h; subst h
      rcases key_now hd hp ha he hx h1 with q | q
      · exact .inr (by simp [Instr.findNow, q])
      · exact .inl (by simp [Instr.findNow, q])
    · rename_i he
      obtain ⟨o, ho, rfl⟩ := Option.map_eq_some_iff.1 h
      rcases key_now hd hp ha he hx h1 with q | q
      · simp only [Instr.findNow, q]
        rcases find_now hd hp ha hx (n + 1) h2 ho with e | e
        · exact .inl e
        · refine .inr (e.trans ?_)
          cases o with
          | none => rfl
          | some j => simp; congr 1; funext m; congr 1; omega
      · exact .inl (by simp [Instr.findNow, q])
    · exact absurd h (by simp)
theorem find_key {w : World} {S : Nat → Prop} {ag : Bool} {ks : List CK} {k : TypeId} {d : TypeDesc} (hd : P.underlying k = some d) (hp : plainK P 50 k = some ks) (ha : (match P.underlying k with | some (.struct _) => ag | some (.array _ _) => false | _ => !ag) = true) {x : AV} {u : Value} (hx : RF tab w S x u) (w' : World)
    {es : List (AV × AV)} {ms : List MapEntry} {i : Option Nat} (hm : MapsTo tab w S es ms) (h : midx ag ks x es = some i) : (Instr.findKey k u ms).run P w' = .ok (i.bind fun j => (ms[j]?).map fun m => (j, m.val)) w' := by
  simp only [Instr.findKey, Sem.run_bind, run_underlying hd, Result.andThen_ok]
  rcases find_now hd hp ha hx 0 hm h with e | e
  · rw [e]; simpa using find_asking hp ha hx w' 0 hm h
  · rw [e]; simp
/-- A key is looked at. -/
theorem check_plain (w w' : World) (S : Nat → Prop) (em : Bool) (d : Nat) : ∀ (n : Nat) (t : TypeId) (ks : List CK), plainK P n t = some ks → ∀ (xs : List AV) (us : List Value), Reads tab w' S xs us → xs.length = ks.length →
    (Instr.checkKey em (d + n) t (valOf P t us)).run P w = .ok () w := by
  intro n
  induction n with
  | zero => intro t ks h; simp [plainK] at h
  | succ n ih =>
    intro t ks h xs us hx hl
    rw [← Nat.add_assoc]
    unfold Instr.checkKey
    simp only [plainK] at h
    have one : ks.length = 1 → ∃ u, us = [u] := fun e => List.length_eq_one_iff.1 (hx.1.trans (hl.trans e))
    cases hu : P.underlying t with
    | none => simp [hu] at h
    | some D =>
      cases D <;> simp only [hu] at h <;> first | (exfalso; simp at h; done) | skip
      case bool =>
        simp at h; subst h
        obtain ⟨u, rfl⟩ := one rfl
        simp only [Sem.run_bind, run_underlying hu, Result.andThen_ok, valOf, hu]
        rfl
      case int k =>
        simp at h; subst h
        obtain ⟨u, rfl⟩ := one rfl
        simp only [Sem.run_bind, run_underlying hu, Result.andThen_ok, valOf, hu]
        rfl
      case string =>
        simp at h; subst h
        obtain ⟨u, rfl⟩ := one rfl
        simp only [Sem.run_bind, run_underlying hu, Result.andThen_ok, valOf, hu]
        rfl
      case array m e =>
        split at h
        case h_2 => exact absurd h (by simp)
        rename_i k1 hk1
        split at h
        case isFalse => exact absurd h (by simp)
        rename_i hsz
        simp at h; subst h
        have hs := run_sz (P := P) (w := w) hsz
        have hl2 := hx.1
        have key : ∀ (m a : Nat), a * k1.length + (repK k1 m).length = us.length → (forIn (List.range' a m) PUnit.unit fun i (_ : PUnit) => (do
            let x ← sizeOf e
            let v ← part e us.toArray (i * x)
            Instr.checkKey em (d + n) e v
            pure (ForInStep.yield PUnit.unit) : Sem (ForInStep PUnit))).run P w = .ok PUnit.unit w := by
          intro m
          induction m with
          | zero => intro a _; simp
          | succ m ihm =>
            intro a he
            simp only [repK, List.length_append] at he
            have ha := plain_val (P := P) (w := w) hk1 hsz us (a * k1.length) (fun _ => by omega)
            have hch := ih e k1 hk1 ((xs.drop (a * k1.length)).take k1.length) ((us.drop (a * k1.length)).take k1.length) (hx.sub (a * k1.length) k1.length) (by simp; omega)
            have hr := ihm (a + 1) (by rw [Nat.succ_mul]; omega)
            rw [List.range'_succ]
            simp only [List.forIn_cons, Sem.run_bind, hs, ha, hch, Result.andThen_ok, Sem.run_pure]
            exact hr
        have := key m 0 (by omega)
        simp only [Sem.run_bind, run_underlying hu, Result.andThen_ok, valOf, hu, Std.Legacy.Range.forIn_eq_forIn_range', Std.Legacy.Range.size, Nat.sub_zero, Nat.add_sub_cancel, Nat.div_one]
        rw [this]
        rfl
      case struct fs =>
        split at h
        case isFalse => exact absurd h (by simp)
        have key : ∀ (l : List Field) (off : Nat) (ks : List CK), plainFs P (plainK P n) l off = some ks → off + ks.length = us.length →
            (forIn l PUnit.unit fun (f : Field) (_ : PUnit) => (if f.name ≠ "_" then (do
                let v ← part f.type us.toArray f.offset
                Instr.checkKey em (d + n) f.type v
                pure (ForInStep.yield PUnit.unit))
              else pure (ForInStep.yield PUnit.unit) : Sem (ForInStep PUnit))).run P w = .ok PUnit.unit w := by
          intro l
          induction l with
          | nil => intro off ks h he; simp
          | cons f l ihl =>
            intro off ks h he
            simp only [plainFs] at h
            split at h
            · rename_i hc
              obtain ⟨hn, ho⟩ := hc
              subst ho
              split at h
              · rename_i k1 hk1
                split at h
                · rename_i hsz
                  split at h
                  · rename_i k2 hk2
                    simp at h; subst h
                    simp at he
                    have hl2 := hx.1
                    have ha := plain_val (P := P) (w := w) hk1 hsz us f.offset (fun _ => by omega)
                    have hch := ih f.type k1 hk1 ((xs.drop f.offset).take k1.length) ((us.drop f.offset).take k1.length) (hx.sub f.offset k1.length) (by simp; omega)
                    have hn' : f.name ≠ "_" := by simpa using hn
                    have hr := ihl _ _ hk2 (by omega)
                    simp only [List.forIn_cons, if_pos hn', Sem.run_bind, ha, hch, Result.andThen_ok, Sem.run_pure]
                    exact hr
                  · exact absurd h (by simp)
                · exact absurd h (by simp)
              · exact absurd h (by simp)
            · exact absurd h (by simp)
        have := key fs.toList 0 ks h (by have := hx.1; omega)
        simp only [Sem.run_bind, run_underlying hu, Result.andThen_ok, valOf, hu]
        rw [← Array.forIn_toList, this]
        rfl
end
end Go.Den
