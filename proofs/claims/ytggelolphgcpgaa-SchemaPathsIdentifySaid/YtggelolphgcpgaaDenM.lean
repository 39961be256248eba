/- Operators. -/
import Derived.Test.YtggelolphgcpgaaDenL
namespace Go.Den
open Go

section
variable {P : Program} {tab : Nat → Nat}
/-- The kinds of the cells of fields laid one behind another. -/
def plainFs (P : Program) (k : TypeId → Option (List CK)) : List Field → Nat → Option (List CK)
  | [], _ => some []
  | f :: r, off => if (f.name == "_") = false ∧ f.offset = off then
      match k f.type with
      | some ks => if szB P f.type ks.length = true then (match plainFs P k r (off + ks.length) with
        | some ks' => some (ks ++ ks')
        | none => none) else none
      | none => none
    else none
/-- The kinds of m elements. -/
def repK (ks : List CK) : Nat → List CK
  | 0 => []
  | m + 1 => ks ++ repK ks m
/-- The kinds of the cells of a type whose values are compared cell by cell. -/
def plainK (P : Program) : Nat → TypeId → Option (List CK)
  | 0, _ => none
  | n + 1, t => match P.underlying t with
    | some .bool => some [.b]
    | some (.int _) => some [.i]
    | some .string => some [.s]
    | some (.struct fs) => if P.stoodInHeld t = false then plainFs P (plainK P n) fs.toList 0 else none
    | some (.array m e) => (match plainK P n e with
      | some ks => if szB P e ks.length = true then some (repK ks m) else none
      | none => none)
    | _ => none
/-- The value of a type out of its cells. -/
def valOf (P : Program) (t : TypeId) (us : List Value) : Value := match P.underlying t with
  | some (.struct _) => .agg us.toArray
  | some (.array _ _) => .agg us.toArray
  | _ => us.headD undef
theorem eqCells_app : ∀ {ks ks' : List CK} {xs ys : List AV} {r : Bool}, eqCells (ks ++ ks') xs ys = some r → ∃ r1 r2, eqCells ks (xs.take ks.length) (ys.take ks.length) = some r1 ∧ eqCells ks' (xs.drop ks.length) (ys.drop ks.length) = some r2 ∧ r = (r1 && r2)
  | [], ks', xs, ys, r, h => ⟨true, r, by simp [eqCells], by simpa using h, by simp⟩
  | k :: ks, ks', [], _, r, h => by simp [eqCells] at h
  | k :: ks, ks', _ :: _, [], r, h => by simp [eqCells] at h
  | k :: ks, ks', x :: xs, y :: ys, r, h => by
    simp only [List.cons_append, eqCells] at h
    split at h
    · rename_i a b h1 h2
      simp at h; subst h
      obtain ⟨r1, r2, q1, q2, q3⟩ := eqCells_app h2
      exact ⟨a && r1, r2, by simp [eqCells, h1, q1], by simpa using q2, by rw [q3, Bool.and_assoc]⟩
    · exact absurd h (by simp)
theorem eqCells_len : ∀ {ks : List CK} {xs ys : List AV} {r : Bool}, eqCells ks xs ys = some r → xs.length = ks.length ∧ ys.length = ks.length
  | [], [], [], _, _ => ⟨rfl, rfl⟩
  | [], _ :: _, _, _, h => by simp [eqCells] at h
  | [], [], _ :: _, _, h => by simp [eqCells] at h
  | k :: ks, [], _, r, h => by simp [eqCells] at h
  | k :: ks, _ :: _, [], r, h => by simp [eqCells] at h
  | k :: ks, x :: xs, y :: ys, r, h => by
    simp only [eqCells] at h
    split at h
    · rename_i a b h1 h2
      obtain ⟨q1, q2⟩ := eqCells_len h2
      simp [q1, q2]
    · exact absurd h (by simp)
def EqOpen : CK → Value → Value → Bool → Prop
  | .i, u, v, r => ∃ (i : IntKind) (a b : Int), u = .int i a ∧ v = .int i b ∧ r = decide (a = b)
  | .b, u, v, r => ∃ a b : Bool, u = .bool a ∧ v = .bool b ∧ r = (a == b)
  | .s, u, v, r => ∃ a b : ByteArray, u = .string a ∧ v = .string b ∧ r = decide (a = b)
theorem eqB_open {w : World} {S : Nat → Prop} {k : CK} {x y : AV} {u v : Value} {r : Bool} (hx : RF tab w S x u) (hy : RF tab w S y v) (h : eqB k x y = some r) : EqOpen k u v r := by
  cases k <;> cases x <;> (try (simp [eqB] at h; done)) <;> cases y <;> (try (simp [eqB] at h; done))
  · simp only [eqB] at h
    split at h
    · rename_i e; subst e; simp at h; subst h
      cases hx; cases hy; exact ⟨_, _, _, rfl, rfl, rfl⟩
    · exact absurd h (by simp)
  · simp [eqB] at h; subst h; cases hx; cases hy; exact ⟨_, _, rfl, rfl, rfl⟩
  · simp [eqB] at h; subst h; cases hx; cases hy; exact ⟨_, _, rfl, rfl, by simp⟩
theorem str_beq (a b : ByteArray) : (a.toList == b.toList) = decide (a = b) := by
  rw [ByteArray.toList_eq, ByteArray.toList_eq]
  obtain ⟨⟨x⟩⟩ := a
  obtain ⟨⟨y⟩⟩ := b
  by_cases h : x = y
  · subst h; simp
  · have h2 : ¬ ((⟨⟨x⟩⟩ : ByteArray) = ⟨⟨y⟩⟩) := by simpa using h
    rw [decide_eq_false h2]
    simpa using h
theorem int_beq (a b : Int) : (a == b) = decide (a = b) := by
  by_cases h : a = b <;> simp [h]
theorem plain_val {w : World} {n : Nat} {t : TypeId} {ks : List CK} (h : plainK P n t = some ks) (hz : szB P t ks.length = true) (ts : List Value) (off : Nat) (hl : ks.length ≠ 0 → off + ks.length ≤ ts.length) :
    (part t ts.toArray off).run P w = .ok (valOf P t ((ts.drop off).take ks.length)) w := by
  have hz' := run_sz (P := P) (w := w) hz
  cases n with
  | zero => simp [plainK] at h
  | succ n =>
    simp only [plainK] at h
    split at h
    case h_4 =>
      rename_i fs hu
      simp [part, isAgg, run_underlying hu, hz', valOf, hu]
    case h_5 =>
      rename_i m e hu
      simp [part, isAgg, run_underlying hu, hz', valOf, hu]
    case h_6 => exact absurd h (by simp)
    all_goals
      rename_i hu
      simp at h; subst h
      simp at hl
      have hlt : off < ts.length := by omega
      have e1 : (ts.drop off).take 1 = [ts[off]] := by rw [List.drop_eq_getElem_cons hlt]; rfl
      simp [part, isAgg, run_underlying hu, valOf, hu, hlt, e1]
def Reads (tab : Nat → Nat) (w : World) (S : Nat → Prop) (xs : List AV) (us : List Value) : Prop := us.length = xs.length ∧ ∀ (j : Nat) (x : AV) (u : Value), xs[j]? = some x → us[j]? = some u → RF tab w S x u
theorem Reads.sub {w : World} {S : Nat → Prop} {xs : List AV} {us : List Value} (h : Reads tab w S xs us) (off n : Nat) : Reads tab w S ((xs.drop off).take n) ((us.drop off).take n) :=
  ⟨by simp [h.1], fun j x u hx hu => by
    have hj : j < n := by have := lt_of_get hx; simp at this; omega
    rw [List.getElem?_take_of_lt hj, List.getElem?_drop] at hx hu
    exact h.2 _ x u hx hu⟩
theorem eq_plain (w w' : World) (S : Nat → Prop) (d : Nat) : (∀ (n : Nat) (t : TypeId) (ks : List CK), plainK P n t = some ks → ∀ (xs ys : List AV) (us vs : List Value) (r : Bool), Reads tab w' S xs us → Reads tab w' S ys vs → eqCells ks xs ys = some r →
    (Op.equalIn (d + n) t (valOf P t us) (valOf P t vs)).run P w = .ok r w) := by
  intro n
  induction n with
  | zero => intro t ks h; simp [plainK] at h
  | succ n ih =>
    intro t ks h xs ys us vs r hx hy he
    obtain ⟨l1, l2⟩ := eqCells_len he
    have hone : ∀ k, ks = [k] → ∃ x y u v, us = [u] ∧ vs = [v] ∧ RF tab w' S x u ∧ RF tab w' S y v ∧ eqB k x y = some r := by
      rintro k rfl
      simp at l1 l2
      obtain ⟨x, rfl⟩ := List.length_eq_one_iff.1 l1
      obtain ⟨y, rfl⟩ := List.length_eq_one_iff.1 l2
      obtain ⟨u, rfl⟩ := List.length_eq_one_iff.1 (hx.1.trans rfl)
      obtain ⟨v, rfl⟩ := List.length_eq_one_iff.1 (hy.1.trans rfl)
      refine ⟨x, y, u, v, rfl, rfl, hx.2 0 x u rfl rfl, hy.2 0 y v rfl rfl, ?_⟩
      simp only [eqCells] at he
      split at he
      · rename_i a b h1 h2
        simp at h2; subst h2; simp at he; rw [h1, he]
      · exact absurd he (by simp)
    simp only [plainK] at h
    split at h
    · rename_i hu
      simp at h
      obtain ⟨x, y, u, v, rfl, rfl, hxx, hyy, hh⟩ := hone .b h.symm
      obtain ⟨a, b, rfl, rfl, rfl⟩ := eqB_open hxx hyy hh
      simp only [valOf, hu, List.headD_cons]
      rw [← Nat.add_assoc]
      exact run_equalIn_bool' w _ t a b hu
    · rename_i k hu
      simp at h
      obtain ⟨x, y, u, v, rfl, rfl, hxx, hyy, hh⟩ := hone .i h.symm
      obtain ⟨i, a, b, rfl, rfl, rfl⟩ := eqB_open hxx hyy hh
      simp only [valOf, hu, List.headD_cons]
      rw [← Nat.add_assoc, run_equalIn_int w _ t i k a b hu, int_beq]
    · rename_i hu
      simp at h
      obtain ⟨x, y, u, v, rfl, rfl, hxx, hyy, hh⟩ := hone .s h.symm
      obtain ⟨a, b, rfl, rfl, rfl⟩ := eqB_open hxx hyy hh
      simp only [valOf, hu, List.headD_cons]
      rw [← Nat.add_assoc, run_equalIn_string w _ t a b hu, str_beq]
    · rename_i fs hu
      split at h
      · rename_i hp
        simp only [valOf, hu]
        have hf : P.fieldsOf t = fs := by simp [Program.fieldsOf, hu]
        rw [← Nat.add_assoc, run_equalIn_struct (P := P) w _ t _ _ (by rw [hf]; exact hu) hp, hf]
        have key : ∀ (l : List Field) (off : Nat) (ks : List CK) (r : Bool), plainFs P (plainK P n) l off = some ks → eqCells ks (xs.drop off) (ys.drop off) = some r → (Op.eqFields (d + n) us.toArray vs.toArray l).run P w = .ok r w := by
          intro l
          induction l with
          | nil =>
            intro off ks r h he
            simp [plainFs] at h; subst h
            have : r = true := by
              obtain ⟨q1, q2⟩ := eqCells_len he
              have e1 : xs.drop off = [] := List.eq_nil_of_length_eq_zero q1
              have e2 : ys.drop off = [] := List.eq_nil_of_length_eq_zero q2
              rw [e1, e2] at he; simpa [eqCells] using he.symm
            subst this
            simp [Op.eqFields]
          | cons f l ihl =>
            intro off ks r h he
            simp only [plainFs] at h
            split at h
            · rename_i hc
              obtain ⟨hn, ho⟩ := hc
              subst ho
              split at h
              · rename_i k1 hk1
                split at h
                · rename_i hsz
                  split at h
                  · rename_i k2 hk2
                    simp at h; subst h
                    obtain ⟨r1, r2, q1, q2, q3⟩ := eqCells_app he
                    rw [List.drop_drop, List.drop_drop] at q2
                    have hr := ihl _ _ _ hk2 q2
                    obtain ⟨l3, l4⟩ := eqCells_len q1
                    simp at l3 l4
                    have ha := plain_val (w := w) hk1 hsz us f.offset (fun _ => by have := hx.1; omega)
                    have hb := plain_val (w := w) hk1 hsz vs f.offset (fun _ => by have := hy.1; omega)
                    have heq := ih f.type k1 hk1 _ _ _ _ _ (hx.sub f.offset k1.length) (hy.sub f.offset k1.length) q1
                    have hn' : f.name ≠ "_" := by simpa using hn
                    rw [Op.eqFields]
                    simp only [if_pos hn', Sem.run_bind, ha, hb, heq, Result.andThen_ok]
                    subst q3
                    cases r1
                    · simp
                    · simpa using hr
                  · exact absurd h (by simp)
                · exact absurd h (by simp)
              · exact absurd h (by simp)
            · exact absurd h (by simp)
        exact key fs.toList 0 ks r h (by simpa using he)
      · exact absurd h (by simp)
    · rename_i m e hu
      split at h
      case h_2 => exact absurd h (by simp)
      rename_i k1 hk1
      split at h
      case isFalse => exact absurd h (by simp)
      rename_i hsz
      simp at h; subst h
      obtain ⟨i, hi, hi2⟩ : ∃ i, P.info? e = some i ∧ i.size = k1.length := by
        unfold szB at hsz
        split at hsz
        · rename_i i hi; exact ⟨i, hi, by simpa using hsz⟩
        · exact absurd hsz (by simp)
      have hc : P.cellsOf e = k1.length := by
        have h1 := run_sizeOf w hi (P := P)
        have h2 := run_sz (P := P) (w := w) hsz
        rw [h1] at h2
        simpa using h2
      simp only [valOf, hu]
      rw [← Nat.add_assoc, run_equalIn_array w (d + n) _ _ hu hi, hc, List.range_eq_range']
      have key : ∀ (m a : Nat) (r : Bool), eqCells (repK k1 m) (xs.drop (a * k1.length)) (ys.drop (a * k1.length)) = some r → (Op.eqItems (d + n) e k1.length us.toArray vs.toArray (List.range' a m)).run P w = .ok r w := by
        intro m
        induction m with
        | zero =>
          intro a r he
          have : r = true := by
            obtain ⟨q1, q2⟩ := eqCells_len he
            have e1 : xs.drop (a * k1.length) = [] := List.eq_nil_of_length_eq_zero q1
            have e2 : ys.drop (a * k1.length) = [] := List.eq_nil_of_length_eq_zero q2
            rw [e1, e2] at he; simpa [repK, eqCells] using he.symm
          subst this
          simp [Op.eqItems]
        | succ m ihm =>
          intro a r he
          simp only [repK] at he
          obtain ⟨r1, r2, q1, q2, q3⟩ := eqCells_app he
          rw [List.drop_drop, List.drop_drop, ← Nat.succ_mul] at q2
          have hr := ihm _ _ q2
          obtain ⟨l3, l4⟩ := eqCells_len q1
          simp at l3 l4
          have ha := plain_val (w := w) hk1 hsz us (a * k1.length) (fun _ => by have := hx.1; omega)
          have hb := plain_val (w := w) hk1 hsz vs (a * k1.length) (fun _ => by have := hy.1; omega)
          have heq := ih e k1 hk1 _ _ _ _ _ (hx.sub (a * k1.length) k1.length) (hy.sub (a * k1.length) k1.length) q1
          rw [List.range'_succ, Op.eqItems]
          simp only [Sem.run_bind, ha, hb, heq, Result.andThen_ok]
          subst q3
          cases r1
          · simp
          · simpa using hr
      exact key m 0 r (by simpa using he)
    · exact absurd h (by simp)
def bare : Value → Bool
  | .agg _ | .nilIface => false
  | _ => true
theorem guard_ok {w : World} {op : BinOp} {t : TypeId} {x y : Operand} {u v : Value} (hu : bare u = true) : (eqGuard op t x y u v).run P w = .ok () w := by
  cases u with
  | agg => simp [bare] at hu
  | nilIface => simp [bare] at hu
  | _ => cases op <;> simp [eqGuard]
def binB (P : Program) (kd : EK) (t : TypeId) : Bool := match kd with
  | .num => true
  | .bool => match P.underlying t with | some .bool => true | _ => false
  | .ptr => match P.underlying t with | some (.pointer _) => true | _ => false
  | .fn => match P.underlying t with | some (.func ..) => true | _ => false
  | .slc => match P.underlying t with | some (.slice _) => true | _ => false
  | .agg ks => plainK P 50 t == some ks && (match P.underlying t with | some (.struct _) => true | some (.array _ _) => true | _ => false) && !P.eqGuardType P.depth t
theorem eql_of {w : World} {t : TypeId} {u v : Value} {r : Bool} (h1 : binOp .eql t u v = (do pure (.bool (← Op.equal t u v)))) (h2 : binOp .neq t u v = (do pure (.bool (!(← Op.equal t u v))))) (h : (Op.equalIn (9999 + 1) t u v).run P w = .ok r w) :
    (binOp .eql t u v).run P w = .ok (.bool r) w ∧ (binOp .neq t u v).run P w = .ok (.bool (!r)) w := by
  have h' : (Op.equal t u v).run P w = .ok r w := h
  rw [h1, h2]
  exact ⟨by simp only [Sem.run_bind, h', Result.andThen_ok, Sem.run_pure], by simp only [Sem.run_bind, h', Result.andThen_ok, Sem.run_pure]⟩
theorem eq_ptr1 {w : World} {t e : TypeId} (hu : P.underlying t = some (.pointer e)) (d : Nat) : (Op.equalIn (d + 1) t (.pointer none) (.pointer none)).run P w = .ok true w := by
  simp only [Op.equalIn, Sem.run_bind, run_underlying hu, Result.andThen_ok]; rfl
theorem eq_ptr2 {w : World} {t e : TypeId} (hu : P.underlying t = some (.pointer e)) (d : Nat) (p : Addr) : (Op.equalIn (d + 1) t (.pointer none) (.pointer (some p))).run P w = .ok false w := by
  simp only [Op.equalIn, Sem.run_bind, run_underlying hu, Result.andThen_ok]; rfl
theorem eq_ptr3 {w : World} {t e : TypeId} (hu : P.underlying t = some (.pointer e)) (d : Nat) (p : Addr) : (Op.equalIn (d + 1) t (.pointer (some p)) (.pointer none)).run P w = .ok false w := by
  simp only [Op.equalIn, Sem.run_bind, run_underlying hu, Result.andThen_ok]; rfl
theorem eq_fn1 {w : World} {t : TypeId} {a b c} (hu : P.underlying t = some (.func a b c)) (d : Nat) : (Op.equalIn (d + 1) t .nilFunc .nilFunc).run P w = .ok true w := by
  simp only [Op.equalIn, Sem.run_bind, run_underlying hu, Result.andThen_ok]; rfl
theorem eq_fn2 {w : World} {t : TypeId} {a b c} (hu : P.underlying t = some (.func a b c)) (d : Nat) (p q s) : (Op.equalIn (d + 1) t .nilFunc (.func p q s)).run P w = .ok false w := by
  simp only [Op.equalIn, Sem.run_bind, run_underlying hu, Result.andThen_ok]; rfl
theorem eq_fn3 {w : World} {t : TypeId} {a b c} (hu : P.underlying t = some (.func a b c)) (d : Nat) (p q s) : (Op.equalIn (d + 1) t (.func p q s) .nilFunc).run P w = .ok false w := by
  simp only [Op.equalIn, Sem.run_bind, run_underlying hu, Result.andThen_ok]; rfl
theorem ptr_open {w : World} {F : Nat → Prop} {σ : St} {γ : List Gh} {x : AV} {u : Value} (hx : RS tab w F σ γ x u) (h : (∃ cs, x = .rptr cs) ∨ (∃ o off, x = .ref o off) ∨ (∃ o ver n i off, x = .eref o ver n i off)) : ∃ p, u = .pointer (some p) := by
  rcases h with ⟨cs, rfl⟩ | ⟨o, off, rfl⟩ | ⟨o, ver, n, i, off, rfl⟩
  · cases hx.frozen rfl; exact ⟨_, rfl⟩
  · cases hx with
    | fz _ _ h => exact absurd h.noref (by simp [AV.noref])
    | ref => exact ⟨_, rfl⟩
  · cases hx with
    | fz _ _ h => exact absurd h.noref (by simp [AV.noref])
    | eref _ _ _ _ _ _ hv _ => exact hv
theorem nilp_open {w : World} {F : Nat → Prop} {σ : St} {γ : List Gh} {u : Value} (hx : RS tab w F σ γ .nilp u) : u = .pointer none := by cases hx.frozen rfl; rfl
theorem nilfn_open {w : World} {F : Nat → Prop} {σ : St} {γ : List Gh} {u : Value} (hx : RS tab w F σ γ .nilfn u) : u = .nilFunc := by cases hx.frozen rfl; rfl
theorem fn_open {w : World} {F : Nat → Prop} {σ : St} {γ : List Gh} {f : Nat} {caps : List AV} {u : Value} (hx : RS tab w F σ γ (.fn f caps) u) : ∃ a b c, u = .func a b c := by
  cases hx with
  | fz _ _ h => cases h; exact ⟨_, _, _, rfl⟩
  | fn => exact ⟨_, _, _, rfl⟩
theorem eq_slc1 {w : World} {t e : TypeId} (hu : P.underlying t = some (.slice e)) (d c c' : Nat) : (Op.equalIn (d + 1) t (.slice none 0 c) (.slice none 0 c')).run P w = .ok true w := by
  simp only [Op.equalIn, Sem.run_bind, run_underlying hu, Result.andThen_ok]; rfl
theorem eq_slc2 {w : World} {t e : TypeId} (hu : P.underlying t = some (.slice e)) (d n c c' : Nat) (a : Addr) : (Op.equalIn (d + 1) t (.slice (some a) n c) (.slice none 0 c')).run P w = .ok false w := by
  simp only [Op.equalIn, Sem.run_bind, run_underlying hu, Result.andThen_ok]; rfl
theorem nil0_open {w : World} {F : Nat → Prop} {σ : St} {γ : List Gh} {u : Value} (hx : RS tab w F σ γ .nil0 u) : ∃ c, u = .slice none 0 c := by cases hx.frozen rfl; exact ⟨_, rfl⟩
/-- '==' of two values that read. -/
theorem eq_run {w : World} {F : Nat → Prop} {σ : St} {γ : List Gh} {kd : EK} {t : TypeId} {x y : AV} {u v : Value} {r : Bool} (hB : binB P kd t = true) (hx : RS tab w F σ γ x u) (hy : RS tab w F σ γ y v) (h : eq2 kd x y = some r) (xo yo : Operand) :
    (∀ op, (eqGuard op t xo yo u v).run P w = .ok () w) ∧ (binOp .eql t u v).run P w = .ok (.bool r) w ∧ (binOp .neq t u v).run P w = .ok (.bool (!r)) w := by
  unfold eq2 at h
  split at h
  · -- integers
    split at h
    · rename_i e; subst e; simp at h; subst h
      rw [int_eq hx, int_eq hy]
      exact ⟨fun op => guard_ok rfl, by simp [binOp, Op.intCmp, int_beq], by simp [binOp, Op.intCmp, bne, int_beq]⟩
    · exact absurd h (by simp)
  · simp at h; subst h
    rw [str_eq hx, str_eq hy]
    exact ⟨fun op => guard_ok rfl, by simp [binOp, Op.stringOp, str_beq], by simp [binOp, Op.stringOp, str_beq]⟩
  · simp at h; subst h
    rw [bool_eq hx, bool_eq hy]
    simp only [binB] at hB
    split at hB
    · rename_i hu
      exact ⟨fun op => guard_ok rfl, eql_of rfl rfl (run_equalIn_bool' w _ t _ _ hu)⟩
    · exact absurd hB (by simp)
  · rename_i ks xs ys
    simp only [binB, Bool.and_eq_true, beq_iff_eq] at hB
    obtain ⟨⟨h1, h2⟩, h3⟩ := hB
    obtain ⟨us, rfl, hl, hs, hr⟩ := agg_open hx
    obtain ⟨vs, rfl, hl', hs', hr'⟩ := agg_open hy
    have hval : ∀ us : List Value, valOf P t us = .agg us.toArray := by
      intro us
      unfold valOf
      split at h2
      · rfl
      · rfl
      · exact absurd h2 (by simp)
    · have hnx : ∀ {ks : List CK} {xs ys : List AV} {r : Bool}, eqCells ks xs ys = some r → (∀ (j : Nat) (x : AV), xs[j]? = some x → x.noref = true) ∧ ∀ (j : Nat) (x : AV), ys[j]? = some x → x.noref = true := by
        intro ks
        induction ks with
        | nil =>
          intro xs ys r h
          obtain ⟨q1, q2⟩ := eqCells_len h
          have e1 : xs = [] := List.eq_nil_of_length_eq_zero q1
          have e2 : ys = [] := List.eq_nil_of_length_eq_zero q2
          subst e1; subst e2
          exact ⟨by simp, by simp⟩
        | cons k ks ih =>
          intro xs ys r h
          cases xs with
          | nil => simp [eqCells] at h
          | cons x xs =>
            cases ys with
            | nil => simp [eqCells] at h
            | cons y ys =>
              simp only [eqCells] at h
              split at h
              · rename_i a b g1 g2
                obtain ⟨q1, q2⟩ := ih g2
                have hxy : x.noref = true ∧ y.noref = true := by
                  cases k <;> cases x <;> (try (simp [eqB] at g1; done)) <;> cases y <;> first | exact ⟨rfl, rfl⟩ | (simp [eqB] at g1)
                exact ⟨fun j z hz => by cases j with | zero => simp at hz; exact hz ▸ hxy.1 | succ j => exact q1 j z (by simpa using hz), fun j z hz => by cases j with | zero => simp at hz; exact hz ▸ hxy.2 | succ j => exact q2 j z (by simpa using hz)⟩
              · exact absurd h (by simp)
      obtain ⟨n1, n2⟩ := hnx h
      have he := eq_plain (P := P) w w (Stab w F σ γ) 9950 50 t ks h1 xs ys us vs r ⟨hl, fun j x u hx hu => (hr j x u hx hu).frozen (n1 j x hx)⟩ ⟨hl', fun j x u hx hu => (hr' j x u hx hu).frozen (n2 j x hx)⟩ h
      simp only [hval] at he
      have hg : P.eqGuardType P.depth t = false := by simpa using h3
      refine ⟨fun op => run_eqGuard_agg w op t xo yo _ _ hg, ?_, ?_⟩
      · rw [run_eql_struct, he]; rfl
      · rw [run_neq_struct, he]; rfl
  · simp at h; subst h
    simp only [binB] at hB
    split at hB
    · rename_i hu
      rw [nilp_open hx, nilp_open hy]
      exact ⟨fun op => guard_ok rfl, eql_of rfl rfl (eq_ptr1 hu _)⟩
    · exact absurd hB (by simp)
  · simp at h; subst h
    simp only [binB] at hB
    split at hB
    · rename_i hu
      obtain ⟨p, rfl⟩ := ptr_open hy (.inl ⟨_, rfl⟩)
      rw [nilp_open hx]
      exact ⟨fun op => guard_ok rfl, eql_of rfl rfl (eq_ptr2 hu _ p)⟩
    · exact absurd hB (by simp)
  · simp at h; subst h
    simp only [binB] at hB
    split at hB
    · rename_i hu
      obtain ⟨p, rfl⟩ := ptr_open hy (.inr (.inl ⟨_, _, rfl⟩))
      rw [nilp_open hx]
      exact ⟨fun op => guard_ok rfl, eql_of rfl rfl (eq_ptr2 hu _ p)⟩
    · exact absurd hB (by simp)
  · simp at h; subst h
    simp only [binB] at hB
    split at hB
    · rename_i hu
      obtain ⟨p, rfl⟩ := ptr_open hy (.inr (.inr ⟨_, _, _, _, _, rfl⟩))
      rw [nilp_open hx]
      exact ⟨fun op => guard_ok rfl, eql_of rfl rfl (eq_ptr2 hu _ p)⟩
    · exact absurd hB (by simp)
  · simp at h; subst h
    simp only [binB] at hB
    split at hB
    · rename_i hu
      obtain ⟨p, rfl⟩ := ptr_open hx (.inl ⟨_, rfl⟩)
      rw [nilp_open hy]
      exact ⟨fun op => guard_ok rfl, eql_of rfl rfl (eq_ptr3 hu _ p)⟩
    · exact absurd hB (by simp)
  · simp at h; subst h
    simp only [binB] at hB
    split at hB
    · rename_i hu
      obtain ⟨p, rfl⟩ := ptr_open hx (.inr (.inl ⟨_, _, rfl⟩))
      rw [nilp_open hy]
      exact ⟨fun op => guard_ok rfl, eql_of rfl rfl (eq_ptr3 hu _ p)⟩
    · exact absurd hB (by simp)
  · simp at h; subst h
    simp only [binB] at hB
    split at hB
    · rename_i hu
      obtain ⟨p, rfl⟩ := ptr_open hx (.inr (.inr ⟨_, _, _, _, _, rfl⟩))
      rw [nilp_open hy]
      exact ⟨fun op => guard_ok rfl, eql_of rfl rfl (eq_ptr3 hu _ p)⟩
    · exact absurd hB (by simp)
  · simp at h; subst h
    simp only [binB] at hB
    split at hB
    · rename_i hu
      rw [nilfn_open hx, nilfn_open hy]
      exact ⟨fun op => guard_ok rfl, eql_of rfl rfl (eq_fn1 hu _)⟩
    · exact absurd hB (by simp)
  · simp at h; subst h
    simp only [binB] at hB
    split at hB
    · rename_i hu
      obtain ⟨p, q, s, rfl⟩ := fn_open hy
      rw [nilfn_open hx]
      exact ⟨fun op => guard_ok rfl, eql_of rfl rfl (eq_fn2 hu _ p q s)⟩
    · exact absurd hB (by simp)
  · simp at h; subst h
    simp only [binB] at hB
    split at hB
    · rename_i hu
      obtain ⟨p, q, s, rfl⟩ := fn_open hx
      rw [nilfn_open hy]
      exact ⟨fun op => guard_ok rfl, eql_of rfl rfl (eq_fn3 hu _ p q s)⟩
    · exact absurd hB (by simp)
  · simp at h; subst h
    simp only [binB] at hB
    split at hB
    · rename_i hu
      obtain ⟨c, rfl⟩ := nil0_open hx
      obtain ⟨c', rfl⟩ := nil0_open hy
      exact ⟨fun op => guard_ok rfl, eql_of rfl rfl (eq_slc1 hu _ c c')⟩
    · exact absurd hB (by simp)
  · simp at h; subst h
    simp only [binB] at hB
    split at hB
    · rename_i hu
      obtain ⟨c', rfl⟩ := nil0_open hy
      obtain ⟨a, c, rfl⟩ : ∃ a c, u = .slice (some a) 0 c := by cases hx.frozen rfl; exact ⟨_, _, rfl⟩
      exact ⟨fun op => guard_ok rfl, eql_of rfl rfl (eq_slc2 hu _ 0 c c' a)⟩
    · exact absurd hB (by simp)
  · simp at h; subst h
    simp only [binB] at hB
    split at hB
    · rename_i hu
      obtain ⟨c', rfl⟩ := nil0_open hy
      obtain ⟨a, n, c, rfl⟩ : ∃ a n c, u = .slice (some a) n c := by cases hx.frozen rfl; exact ⟨_, _, _, rfl⟩
      exact ⟨fun op => guard_ok rfl, eql_of rfl rfl (eq_slc2 hu _ n c c' a)⟩
    · exact absurd hB (by simp)
  · exact absurd h (by simp)
theorem bin_ok {w : World} {F : Nat → Prop} {base : Nat} {σ : St} {γ : List Gh} {op : BinOp} {kd : EK} {t : TypeId} {x y av : AV} {u v : Value} (I : Inv tab w F σ γ) (hB : binB P kd t = true) (hx : RS tab w F σ γ x u) (hy : RS tab w F σ γ y v) (h : bin op kd x y = some av) (xo yo : Operand) :
    Done tab F base w σ γ ((val (do eqGuard op t xo yo u v; binOp op t u v)).run P w) av σ := by
  have ints : ∀ {k : IntKind} {a b : Int} {r : Value}, u = .int k a → v = .int k b → (binOp op t (.int k a) (.int k b)).run P w = .ok r w → RF tab w (Stab w F σ γ) av r → Done tab F base w σ γ ((val (do eqGuard op t xo yo u v; binOp op t u v)).run P w) av σ := by
    intro k a b r e1 e2 h1 h2
    subst e1; subst e2
    refine done_same I (val_run (v := r) ?_) (.fz _ _ h2)
    rw [Sem.run_bind, guard_ok rfl]
    exact h1
  unfold bin at h
  split at h
  · cases he : eq2 kd x y with
    | none => simp [he] at h
    | some r =>
      simp [he] at h; subst h
      obtain ⟨h1, h2, h3⟩ := eq_run hB hx hy he xo yo
      exact done_same I (val_run (by rw [Sem.run_bind, h1]; exact h2)) (.fz _ _ (.bool _))
  · cases he : eq2 kd x y with
    | none => simp [he] at h
    | some r =>
      simp [he] at h; subst h
      obtain ⟨h1, h2, h3⟩ := eq_run hB hx hy he xo yo
      exact done_same I (val_run (by rw [Sem.run_bind, h1]; exact h3)) (.fz _ _ (.bool _))
  case h_17 =>
    split at h
    · rename_i hsz
      simp at h; subst h
      refine done_same I (val_run ?_) (.fz _ _ (.str _))
      rw [str_eq hx, str_eq hy, Sem.run_bind, guard_ok rfl]
      simp [binOp, Op.stringOp]
      omega
    · exact absurd h (by simp)
  case h_18 => exact absurd h (by simp)
  case h_15 =>
    split at h
    · rename_i hc
      simp at h; subst h
      refine done_same I (val_run (v := _) ?_) (.fz _ _ (.int _ _))
      rw [int_eq hx, int_eq hy, Sem.run_bind, guard_ok rfl]
      simp only [Result.andThen_ok, binOp, Op.shift]
      rw [if_neg (by omega)]; rfl
    · exact absurd h (by simp)
  case h_16 =>
    split at h
    · rename_i hc
      simp at h; subst h
      refine done_same I (val_run (v := _) ?_) (.fz _ _ (.int _ _))
      rw [int_eq hx, int_eq hy, Sem.run_bind, guard_ok rfl]
      simp only [Result.andThen_ok, binOp, Op.shift]
      rw [if_neg (by omega)]; rfl
    · exact absurd h (by simp)
  all_goals
    split at h
    · rename_i hc
      first
        | (obtain ⟨rfl, hb⟩ := hc; simp at h; subst h; refine ints (int_eq hx) (int_eq hy) ?_ (by constructor); simp [binOp, Op.intDiv, hb]; done)
        | (subst hc; simp at h; subst h; refine ints (int_eq hx) (int_eq hy) ?_ (by constructor); simp [binOp, Op.intArith, Op.intCmp, Op.intBits]; done)
    · exact absurd h (by simp)
end
end Go.Den
