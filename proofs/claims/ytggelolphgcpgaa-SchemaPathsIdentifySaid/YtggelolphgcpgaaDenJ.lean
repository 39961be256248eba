/- append; len; index; slicing. -/
import Derived.Test.YtggelolphgcpgaaDenI
import Derived.Laws.AppendOwn
namespace Go.Den
open Go

section
variable {P : Program} {tab : Nat → Nat}
theorem growBy_le (need : Nat) : ∀ (r c : Nat), 256 ≤ c → c < 2 * need → Builtin.growBy need r c < 2 * need ∨ Builtin.growBy need r c ≤ 2 * need
  | 0, c, _, h => .inl h
  | r + 1, c, h1, h2 => by
    simp only [Builtin.growBy]
    split
    · exact .inl h2
    · rename_i hlt
      exact growBy_le need r _ (by omega) (by omega)
theorem nextcap_le (need cap : Nat) (h : cap < need) : Builtin.nextslicecap need cap ≤ 2 * need := by
  unfold Builtin.nextslicecap
  split
  · omega
  · split
    · omega
    · rcases growBy_le need 4 cap (by omega) (by omega) with h' | h' <;> omega

/-- What is appended: its elements, in any count of draws. -/
structure Src (P : Program) (tab : Nat → Nat) (w : World) (S : Nat → Prop) (sz : Nat) (v : Value) (ys : List (List AV)) : Prop where
  len : (Builtin.lenOf v).run P w = .ok ys.length w
  cells : ∃ A : Array Value, A.size = ys.length * sz ∧ (∀ d, (Builtin.firstCells sz ys.length v).run P { w with drawn := d } = .ok A { w with drawn := d }) ∧
    ∀ (i : Nat) (e : List AV), ys[i]? = some e → ∀ (j : Nat) (x : AV), e[j]? = some x → ∃ u, A[i * sz + j]? = some u ∧ x.scalar = true ∧ RF tab w S x u
theorem split_idx {sz p n : Nat} (h0 : 0 < sz) (h : p < n * sz) : p / sz < n ∧ p % sz < sz ∧ p / sz * sz + p % sz = p :=
  ⟨Nat.div_lt_of_lt_mul (by rw [Nat.mul_comm]; exact h), Nat.mod_lt _ h0, Nat.div_add_mod' p sz⟩
theorem src_elems {w : World} {F : Nat → Prop} {σ : St} {γ : List Gh} (I : Inv tab w F σ γ) {x : AV} {v : Value} (hx : RS tab w F σ γ x v) {ys : List (List AV)} {t : Bool} (he : elems σ x = some (ys, t)) {sz : Nat} (h0 : 0 < sz) (hz : szOK sz ys) :
    Src P tab w (Stab w F σ γ) sz v ys := by
  obtain ⟨a, cap, rfl, hcap, hor⟩ := elems_ok I hx he
  refine ⟨by simp [Builtin.lenOf], ?_⟩
  rcases hor with rfl | ⟨b, off, sz', rfl, hz', hc⟩
  · refine ⟨#[], by simp, fun d => ?_, by simp⟩
    cases a with
    | none => simp [Builtin.firstCells]
    | some p => simp [Builtin.firstCells, loadCells, loadCellsFrom]
  · by_cases hy : ys = []
    · subst hy
      exact ⟨#[], by simp, fun d => by simp [Builtin.firstCells, loadCells, loadCellsFrom], by simp⟩
    · have hss : sz' = sz := by
        obtain ⟨e, r, rfl⟩ := List.exists_cons_of_ne_nil hy
        rw [← hz' e (by simp), ← hz e (by simp)]
      subst hss
      have hcell : ∀ p, p < ys.length * sz' → ∃ u e x, ys[p / sz']? = some e ∧ e[p % sz']? = some x ∧ w.cell? ⟨b, off + p, none⟩ = some u ∧ RF tab w (Stab w F σ γ) x u ∧ x.scalar = true := by
        intro p hp
        obtain ⟨k1, k2, k3⟩ := split_idx h0 hp
        have hel := hz (ys[p / sz']) (List.getElem_mem k1)
        obtain ⟨u, u1, u2, u3⟩ := hc (p / sz') _ (List.getElem?_eq_getElem k1) (p % sz') _ (List.getElem?_eq_getElem (by omega))
        exact ⟨u, _, _, List.getElem?_eq_getElem k1, List.getElem?_eq_getElem (by omega), by rw [← u1]; congr 2; omega, u2, u3⟩
      refine ⟨((List.range (ys.length * sz')).map fun p => (w.cell? ⟨b, off + p, none⟩).getD undef).toArray, by simp, fun d => ?_, fun i e hi j x hj => ?_⟩
      · simp only [Builtin.firstCells]
        have := run_loadCells (P := P) { w with drawn := d } ⟨b, off, none⟩ (ys.length * sz') (fun p => (w.cell? ⟨b, off + p, none⟩).getD undef) (fun p hp => by
          obtain ⟨u, e, x, _, _, hu, _⟩ := hcell p hp
          rw [add_none]
          show w.cell? ⟨b, off + p, none⟩ = _
          rw [hu]; rfl)
        rw [this]
      · obtain ⟨u, u1, u2, u3⟩ := hc i e hi j x hj
        have hil := lt_of_get hi
        have hjl : j < sz' := by have := lt_of_get hj; have := hz e (List.mem_of_getElem? hi); omega
        have hlt : i * sz' + j < ys.length * sz' := by
          have : (i + 1) * sz' ≤ ys.length * sz' := Nat.mul_le_mul_right _ hil
          rw [Nat.add_mul] at this; omega
        refine ⟨u, ?_, u3, u2⟩
        simp [hlt]
        rw [show off + (i * sz' + j) = off + i * sz' + j by omega, u1]; rfl
theorem src_str {w : World} {S : Nat → Prop} (s : ByteArray) : Src P tab w S 1 (.string s) (s.data.toList.map fun b => [AV.int .u8 b.toNat]) := by
  have hs : s.size = (s.data.toList.map fun b => [AV.int .u8 b.toNat]).length := by rw [List.length_map, Array.length_toList]; rfl
  have hx : (s.extract 0 s.size).data = s.data := by
    have : s.extract 0 s.size = s := by simp
    rw [this]
  refine ⟨?_, s.data.map (fun b => .int .u8 b.toNat), by simp, fun d => ?_, fun i e hi j x hj => ?_⟩
  · rw [← hs]; rfl
  · rw [← hs]
    show Result.ok ((s.extract 0 s.size).data.map fun b => Value.int .u8 b.toNat) _ = _
    rw [hx]
  · simp at hi
    obtain ⟨b, hb, rfl⟩ := hi
    cases j with
    | zero => simp at hj; subst hj; exact ⟨.int .u8 b.toNat, by simp [hb], rfl, .int _ _⟩
    | succ j => simp at hj
theorem Src.one {w : World} {S : Nat → Prop} {sz : Nat} {ys : List (List AV)} {A : Array Value} (h0 : 0 < sz) (hz : szOK sz ys) (hs : A.size = ys.length * sz)
    (hr : ∀ (i : Nat) (e : List AV), ys[i]? = some e → ∀ (j : Nat) (x : AV), e[j]? = some x → ∃ u, A[i * sz + j]? = some u ∧ x.scalar = true ∧ RF tab w S x u) : ∀ u ∈ A.toList, u.oneCell' = true := by
  intro u hu
  obtain ⟨p, hp, e⟩ := List.getElem_of_mem hu
  simp at hp
  obtain ⟨k1, k2, k3⟩ := split_idx h0 (by rw [← hs]; exact hp)
  have hel := hz (ys[p / sz]) (List.getElem_mem k1)
  obtain ⟨u', u1, u2, u3⟩ := hr (p / sz) _ (List.getElem?_eq_getElem k1) (p % sz) _ (List.getElem?_eq_getElem (by omega))
  rw [k3] at u1
  have : u = u' := by
    rw [Array.getElem?_eq_getElem hp] at u1
    simp at u1 e
    rw [← e, ← u1]
  rw [this]
  exact one_ok (σ := []) (γ := []) (.fz _ _ u3) u2
def appB (P : Program) (s y : TypeId) (sz bytes : Nat) : Bool := match elemB P s with
  | some e => szB P e sz && (match P.info? e with
    | some i => i.bytes == bytes && i.bytes != 0
    | none => false) && (match P.underlying y with
    | some (.slice _) | some .string => true
    | _ => false) && (match P.info? e with
    | some i => match i.zero with
      | some z => z.cells.size == sz
      | none => false
    | none => false)
  | none => false
/-- What append asks of the types. -/
theorem appB_ok {s y : TypeId} {sz bytes : Nat} (h : appB P s y sz bytes = true) : ∃ e z i, P.underlying s = some (.slice e) ∧ szB P e sz = true ∧ P.info? e = some i ∧ i.bytes = bytes ∧ bytes ≠ 0 ∧ i.zero = some z ∧ z.cells.size = sz ∧
    ((∃ e', P.underlying y = some (.slice e')) ∨ P.underlying y = some .string) := by
  unfold appB at h
  split at h
  · rename_i e he
    simp only [Bool.and_eq_true] at h
    obtain ⟨⟨⟨h1, h2⟩, h3⟩, h4⟩ := h
    cases hi : P.info? e with
    | none => simp [hi] at h2
    | some i =>
      simp [hi] at h2 h4
      cases hz : i.zero with
      | none => simp [hz] at h4
      | some z =>
        simp [hz] at h4
        refine ⟨e, z, i, elemB_ok he, h1, hi, h2.1, by omega, hz, h4, ?_⟩
        cases hu : P.underlying y with
        | none => simp [hu] at h3
        | some d => cases d <;> simp [hu] at h3 ⊢
  · exact absurd h (by simp)
/-- The run of append. -/
theorem run_append {w : World} {S : Nat → Prop} {s y ty : TypeId} {sz bytes : Nat} (hB : appB P s y sz bytes = true) {base : Option Addr} {len cap : Nat} {v : Value} {ys : List (List AV)} (hsrc : Src P tab w S sz v ys)
    (hb : (len + ys.length) * bytes ≤ 140737488355328) {xs : List (List AV)} (hxs : Src P tab w S sz (.slice base len cap) xs) (hl : xs.length = len) :
    ∃ A : Array Value, A.size = ys.length * sz ∧ (∀ (i : Nat) (e : List AV), ys[i]? = some e → ∀ (j : Nat) (x : AV), e[j]? = some x → ∃ u, A[i * sz + j]? = some u ∧ x.scalar = true ∧ RF tab w S x u) ∧
      (len + ys.length ≤ cap → (Builtin.append_ #[s, y] ty #[.slice base len cap, v]).run P w = ((match base with
        | some a => storeCells (a.add (len * sz)) A.toList
        | none => pure () : Sem Unit).run P w).andThen fun _ w' => .ok (.slice base (len + ys.length) cap) w') ∧
      (¬ len + ys.length ≤ cap → ∃ newCap e D, len + ys.length ≤ newCap ∧ D.size = newCap * sz ∧ (Builtin.append_ #[s, y] ty #[.slice base len cap, v]).run P w = .ok (.slice (some ⟨w.heap.size, 0, none⟩) (len + ys.length) newCap) { w with heap := w.heap.push (.cells D e), drawn := w.drawn + 1 } ∧
        ∀ (i : Nat) (e : List AV), (xs ++ ys)[i]? = some e → ∀ (j : Nat) (x : AV), e[j]? = some x → j < sz → ∃ u, D[i * sz + j]? = some u ∧ x.scalar = true ∧ RF tab w S x u) := by
  obtain ⟨e, z, i, hu, hs, hi, hby, hby0, hz, hzs, hd⟩ := appB_ok hB
  obtain ⟨hlen, A, hA1, hA2, hA3⟩ := hsrc
  obtain ⟨_, B, hB1, hB2, hB3⟩ := hxs
  have hA2' := hA2 w.drawn
  have hs' := run_sz (P := P) (w := w) hs
  have hsz : i.size = sz := by unfold szB at hs; rw [hi] at hs; simpa using hs
  subst hsz
  refine ⟨A, hA1, hA3, ?_, ?_⟩
  · intro hle
    cases base with
    | none => rcases hd with ⟨e', hd⟩ | hd <;> simp [Builtin.append_, run_underlying hu, run_underlying hd, sizeOf, typeInfo, hi, hlen, hle, hA2']
    | some a =>
      rcases hd with ⟨e', hd⟩ | hd <;> (simp [Builtin.append_, run_underlying hu, run_underlying hd, sizeOf, typeInfo, hi, hlen, hle, hA2'])
  · intro hle
    have hcap : Builtin.nextslicecap (len + ys.length) cap ≤ 2 * (len + ys.length) := nextcap_le _ _ (by omega)
    have h48 : ¬ ((Builtin.nextslicecap (len + ys.length) cap * i.bytes : Nat) : Int) > 281474976710656 := by
      have : Builtin.nextslicecap (len + ys.length) cap * i.bytes ≤ 2 * (len + ys.length) * i.bytes := Nat.mul_le_mul_right _ hcap
      rw [hby] at this ⊢
      rw [Nat.mul_assoc] at this
      omega
    have h48' : ¬ 281474976710656 < Builtin.nextslicecap (len + ys.length) cap * i.bytes := by omega
    have hby1 : ¬ i.bytes = 0 := by omega
    have hA3' : (Builtin.firstCells i.size ys.length v).run P w.drew = .ok A w.drew := hA2 (w.drawn + 1)
    have hB3' : (Builtin.firstCells i.size xs.length (.slice base len cap)).run P w.drew = .ok B w.drew := hB2 (w.drawn + 1)
    rw [hl] at hB3'
    have hf : ∀ n, (Question.appendCap n cap e).forced = false := fun n => rfl
    let nc := (Question.appendCap (len + ys.length) cap e).cut (w.tape w.drawn (.appendCap (len + ys.length) cap e))
    have hnc : len + ys.length ≤ nc := by simp [nc, Question.cut]
    let D := B ++ A ++ Builtin.zeroCells z.cells (nc - (len + ys.length))
    have hD : D.size = nc * i.size := by
      simp only [D, Array.size_append, size_zeroCells, hB1, hA1, hl, hzs]
      rw [← Nat.add_mul, ← Nat.add_mul]
      congr 1; omega
    refine ⟨nc, e, D, hnc, hD, ?_, ?_⟩
    · rcases hd with ⟨e', hd⟩ | hd <;>
        (simp [Builtin.append_, run_underlying hu, run_underlying hd, sizeOf, typeInfo, zeroValue, hi, hz, hlen, hle, hA3', hB3', hf, h48', hby1, newRow, nc, D]; rfl)
    · intro j el hj k x hx hk
      rcases Nat.lt_or_ge j xs.length with h1 | h1
      · rw [List.getElem?_append_left h1] at hj
        obtain ⟨u, u1, u2, u3⟩ := hB3 j el hj k x hx
        exact ⟨u, by
          have := (Array.getElem?_eq_some_iff.1 u1).1
          simp only [D]
          rw [Array.getElem?_append_left (by simp; omega), Array.getElem?_append_left this]; exact u1, u2, u3⟩
      · rw [List.getElem?_append_right h1] at hj
        obtain ⟨u, u1, u2, u3⟩ := hA3 _ el hj k x hx
        have hlt := (Array.getElem?_eq_some_iff.1 u1).1
        have e1 : j * i.size = xs.length * i.size + (j - xs.length) * i.size := by rw [← Nat.add_mul]; congr 1; omega
        exact ⟨u, by
          simp only [D]
          rw [Array.getElem?_append_left (by simp [hB1]; omega), Array.getElem?_append_right (by omega), ← u1]
          congr 1; omega, u2, u3⟩
end
end Go.Den
